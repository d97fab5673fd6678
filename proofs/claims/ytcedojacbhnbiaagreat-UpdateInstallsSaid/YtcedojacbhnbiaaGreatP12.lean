import Derived.Test.YtcedojacbhnbiaaGreatP11
import Derived.Test.YtcedojacbhnbiaaGreatP7
set_option autoImplicit true
set_option linter.all false
set_option maxHeartbeats 2000000
set_option maxRecDepth 20000
set_option relaxedAutoImplicit true
namespace Go.Proofs.YtcedojacbhnbiaaGreat
open Go.Sl Go.RowKit Tryz List Nat
structure yP where
 load:Int
 bytes:Int
 bG:List Nat
structure sI where
 ver:Int
 sec:Int
 key:Int
 yS:Int
 gH:List yP
def sI.zero:sI:=⟨0,0,0,0,[]⟩
def sP(l:List Nat):Nat:=vl 256 (l.take 4)
def EN:Nat→List Nat→Option (List yP×List Nat)
 | 0,r=>some ([],r)
 | n+1,r=>if r.length<40 then none else (EN n (r.drop 40)).map λp=>(⟨sP r,sP (r.drop 4),(r.drop 8).take 32⟩::p.1,p.2)
def Cy(n:Int):Bool:=decide (0≤n)&&decide (n≤2147483647)
def Q9:Int→List yP→Bool
 | _,[]=>true
 | e,s::l=>[s.load,s.bytes].all Cy&&(decide (s.bytes≤1048576)&&decide (e≤s.load)&&decide (s.load+s.bytes≤2147483647))&&Q9 (s.load+s.bytes) l
def sI.ok(m:sI):Bool:=[m.ver,m.sec,m.key,m.yS].all Cy&&decide (m.gH.length≤8)&&Q9 0 m.gH
def VB(b:List Nat):Option (List yP×List Nat)→Option sI
 | some (l,[])=>if (sI.mk (sP (b.drop 4)) (sP (b.drop 8)) (sP (b.drop 12)) (sP (b.drop 16)) l).ok then some ⟨sP (b.drop 4),sP (b.drop 8),sP (b.drop 12),sP (b.drop 16),l⟩ else none
 | _=>none
def iL(b:List Nat):Option sI :=
 if b.length<24∨b.take 4≠[109,97,110,105]∨8<sP (b.drop 20) then none else VB b (EN (sP (b.drop 20)) (b.drop 24))
structure Ky where
 num:Int
 bytes:List Nat
 rev:Bool
structure Ky.Ok(k:Ky):Prop where
 len:k.bytes.length=32
 small:aA 256 k.bytes
def Ky.cells(k:Ky):List Value:= .i k.num::(av .u8 k.bytes++[.bool k.rev])
theorem Ky.dB{k:Ky}(h:k.Ok):k.cells.length=34:=by simp[Ky.cells,au,h.len]
def Jm:Int→List Ky→Bool
 | _,[]=>true
 | l,k::r=> !(decide (k.num≤l)||decide (2147483647<k.num))&&Jm k.num r
def j6(r:List Ky):Bool:=Jm (-1) r&&decide (r.length≤8)
def findF(r:List Ky)(n:Int):Option Ky:=r.find? λk=>k.num==n
def q9(r:List Ky)(n:Int):List Nat×Int :=
 if j6 r then match findF r n with | some k=>if k.rev then (replicate 32 0,190) else (k.bytes,0) | none=>(replicate 32 0,190) else (replicate 32 0,1)
theorem adO(h:∀k∈r,k.Ok)(n:Int):(q9 r n).1.length=32∧aA 256 (q9 r n).1:=by
 have a:(replicate 32 0:List Nat).length=32∧aA 256 (replicate 32 0):=⟨Z,aA.wJ aN⟩;unfold q9;split
 ·split
  ·rename_i k d;split
   ·exact a
   ·have b:=h k (mem_of_find?_eq_some d);exact⟨b.len,b.small⟩
  ·exact a
 ·exact a
def IX(r:List Ky)(aO:Int)(bd sg:List Nat):Option sI→sI×Int
 | none=>(.zero,4)
 | some m =>
  if (q9 r m.key).2≠0 then (.zero,(q9 r m.key).2) else
  if kE (vl 256 (q9 r m.key).1) bd (vl 256 (sg.take 32)) (vl 256 (sg.drop 32))=false then (.zero,191) else
  if m.sec<aO then (.zero,230) else (m,0)
def eT(r:List Ky)(aO:Int)(b:List Nat):sI×Int :=
 if j6 r=false then (.zero,1) else
 if b.length<64 then (.zero,4) else IX r aO (b.take (b.length-64)) (b.drop (b.length-64)) (iL (b.take (b.length-64)))
theorem Xx(h:(eT r aO b).2=0):aO≤(eT r aO b).1.sec:=by
 unfold eT at h ⊢;split at h
 ·cases h
 rename_i l;rw[if_neg l];split at h
 ·cases h
 rename_i j;rw[if_neg j];revert h;cases iL (b.take (b.length-64)) with
 | none=>intro h;cases h
 | some m =>
  intro h;rw[IX] at h ⊢;split at h
  ·rename_i a;exact absurd h a
  rename_i a;rw[if_neg a];split at h
  ·cases h
  rename_i e;rw[if_neg e];split at h
  ·cases h
  rename_i d;rw[if_neg d];exact Int.not_lt.1 d
abbrev Gc:Value:= .iface 269 (.agg #[])
theorem YR(w:World):(Instr.makeInterface 269 (.agg #[])).run prog w= .ok Gc w:=by simp[Instr.makeInterface,runUnderlying269]
theorem aht(w:World):(Instr.typeAssert Gc 20 269 true).run prog w= .ok (.tuple #[.agg #[],.bool true]) w:=by simp_all [Instr.typeAssert,runUnderlying269]
theorem aeA(w:World):(Instr.typeAssert .nilIface 20 269 true).run prog w= .ok (.tuple #[.agg #[],.bool false]) w:=by simp[Instr.typeAssert,runUnderlying269,zeroValue269]
theorem qF(b:Bool):pF prog 138 #[.bool b] K F Gc (λv H'=>b=true∧v= .tuple #[]∧H'=F) (λH'=>b=false∧H'=F):=by
 refine aB.Er func138 Z ntmps138 Z ?_;simp only[kV,reduceAdd];refine aj "e9h" (aW (λa=> ?_) λa=> ?_)
 ·skip
  simp only[Bool.not_eq_true',Bool.not_eq_false'] at a;refine aj "p^" ?_;exact WL.val (V.Yu (ak Z) YR) Z<|WL.agf (ak Z) ⟨Z,Z,_,λw h=>h,a,Z⟩
 ·skip
  simp only[Bool.not_eq_true',Bool.not_eq_false'] at a;refine WC.skip ?_;exact⟨Z,_,F,(bJ.none Z),cO,a,Z,Z⟩
theorem IL(hm:m≤1000000)(hs:Seq K F A m 1 (ints .i64 xs)):pF prog 195 #[.slice A m cap] K F Gc (λv H'=>xs.all Cy=true∧v= .tuple #[]∧H'=F) (λH'=>xs.all Cy=false∧H'=F):=by
 have e:xs.length=m:=by have :=hs.len;rwa [bR,Nat.mul_one] at this
 refine aB.Er func195 Z ntmps195 Z ?_;simp only[kV,reduceAdd];refine aj "ejR" ?_;refine WC.loop (σ:=Nat) (λi=>[(4,.slice A m cap),(5,.i (m:Int)),(6,.i (i:Int))]) (λ_=>F) (λi=>i≤m∧(xs.drop i).all Cy=xs.all Cy) (λi=>m-i) 0 ⟨zero_le _,Z⟩ bC cO ?_;rintro i ⟨l,a⟩;refine aj "VJ" (aW (λb=> ?_) λb=> ?_)
 ·simp only[cZ] at b;obtain⟨x,j⟩:∃x,xs[i]? =some x:=⟨_,getElem?_eq_getElem ay⟩;have kr:Rd K F (A.map (·.add ((i:Int).toNat*1))) (.i x):=by rw[Int.toNat_natCast,Nat.mul_one];exact hs.rd i _ (by unfold ints;rw[getElem?_map,j];rfl)
  rw[show xs.drop i=x::xs.drop (i+1) from (List.getElem?_eq_some_iff.1 j).2 ▸ drop_eq_getElem_cons _,all_cons] at a;refine aj "Ea" ?_;refine WL.val (V.dw eB (ak Z) (ak Z) (λ_=>by omega) (λ_=>kr)) Z<|WL.val (V.load isAgg3 (ak Z) (λ_=>kr)) Z<|aj "O~gb!~RS" ?_;refine WL.jG (vs:=[_]) call138 ⟨ak Z,trivial⟩ (qF _) Z ?_ ?_
  ·rintro _ ⟨d,rfl⟩;refine⟨Z,Z,_,λw h=>h, ?_,Z⟩;rw[←a,show Cy x=false from d];rfl
  rintro _ _ ⟨d,rfl,rfl⟩;refine aj "c8" ?_;exact⟨i+1,⟨by omega,by rw[←a,show Cy x=true from d];rfl⟩,(by show m-(i+1)<m-i;omega),.cons Z bC,λw h=>h⟩
 ·simp only[cZ] at b;refine WC.exit ?_;exact⟨Z,_,F,(bJ.none Z),cO,by rw[←a,drop_of_length_le ay];rfl,Z,Z⟩
theorem V5(hI:∀w,(Instr.typeAssert v0 20 269 true).run prog w= .ok (.tuple #[.agg #[],.bool ok]) w)
 (ahP:∀(c₀:Frame) cs,c₀.mode=u→recoverD (c₀::cs)=some (v0,{ c₀ with mode:=u' }::cs)∨(recoverD (c₀::cs)=none∧v0= .nilIface∧u'=u)) :
 ∀ w,Sat K w (ah b 4 [.bool x]::F)→CallsD prog 194 #[ptr b 0] u w λe u2 w'=>u2=u'∧∃v H',e= .returned v∧Sat K w' H'∧H'=ah b 4 [.bool (if ok then false else x)]::F:=by
 refine J3 (pd:=λH'=>H'=ah b 4 [.bool (if ok then false else x)]::F) func194 Z ntmps194 Z Z ahP ?_;simp only[kV,reduceAdd];refine WL.val (V.typeAssert (ak Z) hI) Z<|aj "5v" λd=> ?_;refine WL.store (cs:=[]) sizeOf269 (ak Z) (ak Z) Z Z Z (bT.here Z Z)<|aj "ih" (aW (λh=> ?_) λh=> ?_)
 ·refine WC.region<|aj "~oc" ?_;exact aF.normal (H':=ah b 4 [.bool (if ok then false else x)]::F) (bJ.none Z) (λw a=>by rw[if_pos h];exact a.tail) Z
 ·exact WC.skip<|aF.normal (H':=ah b 4 [.bool (if ok then false else x)]::F) (bJ.none Z) (λw a=>by rw[if_neg (by rw[h];decide)];exact a.tail) Z
theorem LA{g:Nat}{cap:List Value}{post LD:List aH→Prop}(hg:bP prog g)(hf:∀C,pF prog g cap.toArray K (C::H) Gc (λv H'=>∃H2,H'=C::H2∧post H2) (λH'=>∃H2,H'=C::H2∧LD H2)) :
 aB prog 136 #[.func (.func g) #[] cap.toArray] K H (λv H'=>(v= .bool true∧post H')∨(v= .bool false∧LD H')):=by
 refine aB.agw (bad:=Gc) func136 Z ntmps136 Z ?_;simp only[kV,reduceAdd];refine aj "av" λj=> ?_;refine aj "Q~2" ?_;refine WL.defer (ak Z) (aj "ce" ?_);refine WL.agn (first:=[]) (captured:=cap) (vs:=[]) hg (ak Z) trivial (by simpa using hf _) Z ?_ ?_
 ·rintro _ ⟨H2,rfl,e⟩;exact⟨Z,_,_,Z,call194,λH'=>H'=ah j 4 [.bool false]::H2,V5 (x:=false) aht (u:= .panicking (F8 Gc)) (u':= .panicking [{ v:=Gc,recovered:=true }]) (λa cs d=> .inl (by simp[recoverD,d,F8])),λH' b=>by
   subst b;exact⟨.bool false,H2,bJ.one Z (R1.JH Z isAgg4 (Rd.here Z)),λw h=>h.tail,.inr ⟨Z,e⟩⟩⟩
 rintro _ _ ⟨H2,rfl,e⟩;refine aj "Q~+6" ?_;exact⟨_,_,Z,call194,λH'=>H'=ah j 4 [.bool true]::H2,V5 (x:=true) aeA (u:= .returning) (u':= .returning) (λa cs d=> .inr ⟨by simp[recoverD,d],Z,Z⟩),λH' b=>by
  subst b;exact⟨.bool true,H2,bJ.one Z (R1.JH Z isAgg4 (Rd.here Z)),λw h=>h.tail,.inl ⟨Z,e⟩⟩⟩
def OJ(A:Option Addr)(c n:Nat):Option Addr:=if c=n then A else A.map (·.add (n*1))
theorem Seq.OJ{K:World}{F:List aH}{A:Option Addr}{m c n:Nat}{l:List Nat}(hs:Seq K F A m 1 (av .u8 l))(hn:n≤m)(hc:m≤c):Seq K F (OJ A c n) (m-n) 1 (av .u8 (l.drop n)):=by
 have a:l.length=m:=by have :=hs.len;rwa [au,Nat.mul_one] at this
 have h:=Seq.rD hs (l:=n) (h:=m) (u:=c) hn (Nat.le_refl _) hc;rw[take_of_length_le (by rw[length_drop];omega)] at h;exact h
theorem iJ{n:Nat}(hc:m≤c):pF prog 139 #[ptr br 0,.i (n:Int)] K (ah br 212 [.slice A m c]::F) Gc
 (λv H'=>n≤m∧v= .slice A n c∧H'=ah br 212 [.slice (OJ A c n) (m-n) (c-n)]::F) (λH'=>m<n∧H'=F):=by
 refine aB.Er func139 Z ntmps139 Z ?_;simp only[kV,reduceAdd];refine aj "a0U" ?_;refine WL.val (V.load (v:= .slice A m c) isAgg34 (ak Z) (λ_=>Rd.here Z)) Z<|aj "j~^" ?_;refine WL.jG (vs:=[_]) call138 ⟨ak Z,trivial⟩ (qF _) Z ?_ ?_
 ·rintro _ ⟨a,rfl⟩;exact⟨Z,Z,_,λw h=>h.tail,by simpa using a,Z⟩
 rintro _ _ ⟨a,rfl,rfl⟩;have wE:n≤m:=by simpa using a
 refine aj "ceU" ?_;refine WL.val (V.load (v:= .slice A m c) isAgg34 (ak Z) (λ_=>Rd.here Z)) Z<|WL.mv Z Z<|WL.val (V.aG (v':= .slice A n c) (V.slice (m:=m) (cap:=c) (l:=0) (h:=n) (u:=c) dO (ak Z) OO.none (OO.some (ak Z) (λ_=>Z)) OO.none (by simp) ay ay ay) (λ_=>by rw[zK,Nat.sub_zero,Nat.sub_zero])) Z<|aj "0U" ?_;refine WL.val (V.load (v:= .slice A m c) isAgg34 (ak Z) (λ_=>Rd.here Z)) Z<|WL.mv Z Z<|WL.val (V.slice (m:=m) (cap:=c) (l:=n) (h:=m) (u:=c) dO (ak Z) (OO.some (ak Z) (λ_=>Z)) OO.none OO.none (by simp) ay ay ay) Z<|aj "U" ?_;refine WL.store (cs:=[.slice (OJ A c n) (m-n) (c-n)]) sizeOf34 (ak Z) (ak Z) Z Z Z (bT.here Z Z)<|aj "ced" ?_;exact⟨Z,_,ah br 212 [.slice (OJ A c n) (m-n) (c-n)]::F,(bJ.tmp Z Z),cO,wE,Z,Z⟩
theorem agH(h:4≤l.length):sP l=l.getD 0 0+l.getD 1 0*2^8+l.getD 2 0*2^16+l.getD 3 0*2^24:=by
 match l,h with
 | a::b::c::d::l,_=>simp[sP,vl];omega
theorem iV(hs:Seq K F A m 1 (av .u8 l))(h8:aA 256 l)(hc:m≤c):pF prog 140 #[ptr br 0] K (ah br 212 [.slice A m c]::F) Gc
 (λv H'=>4≤m∧v= .i ((sP l:Nat):Int)∧H'=ah br 212 [.slice (OJ A c 4) (m-4) (c-4)]::F) (λH'=>m<4∧H'=F):=by
 have H:l.length=m:=by have :=hs.len;rwa [au,Nat.mul_one] at this
 refine aB.Er func140 Z ntmps140 Z ?_;simp only[kV,reduceAdd];refine aj "ai" ?_;refine WL.jG (vs:=[_,_]) call139 ⟨ak Z,ak Z,trivial⟩ (iJ (n:=4) hc) Z ?_ ?_
 ·rintro _ ⟨y,rfl⟩;exact⟨Z,Z,_,λw h=>h,y,Z⟩
 rintro _ _ ⟨y,rfl,rfl⟩;obtain⟨a,r⟩:∃x,x=l.getD 0 0:=⟨_,Z⟩;obtain⟨x1,e⟩:∃x,x=l.getD 1 0:=⟨_,Z⟩;obtain⟨b,u⟩:∃x,x=l.getD 2 0:=⟨_,Z⟩;obtain⟨d,j⟩:∃x,x=l.getD 3 0:=⟨_,Z⟩;have P:a<256:=by rw[r];exact h8.at_ aN _
 have L:x1<256:=by rw[e];exact h8.at_ aN _
 have M:b<256:=by rw[u];exact h8.at_ aN _
 have N:d<256:=by rw[j];exact h8.at_ aN _
 have rd:∀(k:Nat) x,k≤3→x=l.getD k 0→Rd K (ah br 212 [.slice (OJ A c 4) (m-4) (c-4)]::F) (A.map (·.add ((k:Int).toNat*1))) (.int .u8 (x:Int)):=λk x Q O=>by
  rw[O,Int.toNat_natCast];exact (hs.jo ay).up
 have B:=rd 0 a ay r;have I:=rd 1 x1 ay e;have G:=rd 2 b ay u;have J:=rd 3 d ay j;have U0:sP l=a+x1*2^8+b*2^16+d*2^24:=by rw[agH ay,r,e,u,j]
 rw[U0];refine aj "t~i$" ?_;refine WQ.val (V.dw dO (ak Z) (ak Z) (λhc=>by omega) (λhc=>B)) Z<|WQ.val (V.load isAgg5 (ak Z) (λhc=>B)) Z<|aj "~]$" ?_;refine WQ.val (V.dw dO (ak Z) (ak Z) (λhc=>by omega) (λhc=>I)) Z<|WQ.val (V.load isAgg5 (ak Z) (λhc=>I)) Z<|aj "~]" ?_;refine WQ.val (V.aG (v':= .i ((x1*2^8:Nat):Int)) (V.shl (ak Z) (ak Z) ay) (λ_=>congrArg _ (zq (n:=8) aN L))) Z<|WQ.val (V.aG (v':= .i ((a+x1*2^8:Nat):Int)) (V.or (ak Z) (ak Z)) (λ_=>congrArg _ (uf (n:=8) ay ay ay))) Z<|aj "$" ?_;refine WQ.val (V.dw dO (ak Z) (ak Z) (λhc=>by omega) (λhc=>G)) Z<|WQ.val (V.load isAgg5 (ak Z) (λhc=>G)) Z<|aj "~]" ?_;refine WQ.val (V.aG (v':= .i ((b*2^16:Nat):Int)) (V.shl (ak Z) (ak Z) ay) (λ_=>congrArg _ (zq (n:=16) aN M))) Z<|WQ.val (V.aG (v':= .i ((a+x1*2^8+b*2^16:Nat):Int)) (V.or (ak Z) (ak Z)) (λ_=>congrArg _ (uf (n:=16) ay ay ay))) Z<|aj "$" ?_;refine WQ.val (V.dw dO (ak Z) (ak Z) (λhc=>by omega) (λhc=>J)) Z<|WQ.val (V.load isAgg5 (ak Z) (λhc=>J)) Z<|aj "~]" ?_;refine WQ.val (V.aG (v':= .i ((d*2^24:Nat):Int)) (V.shl (ak Z) (ak Z) ay) (λ_=>congrArg _ (zq (n:=24) aN N))) Z<|WQ.val (V.aG (v':= .i ((a+x1*2^8+b*2^16+d*2^24:Nat):Int)) (V.or (ak Z) (ak Z)) (λ_=>congrArg _ (uf (n:=24) ay ay ay))) Z<|aj "~n~d~J" ?_;exact⟨Z,_,ah br 212 [.slice (OJ A c 4) (m-4) (c-4)]::F,(bJ.tmp Z Z),cO,y,Z,Z⟩
def yP.cells(s:yP):List Value:= .i s.load:: .i s.bytes::av .u8 s.bG
structure yP.Ok(s:yP):Prop where
 len:s.bG.length=32
 small:aA 256 s.bG
theorem yP.dB{s:yP}(h:s.Ok):s.cells.length=34:=by simp[yP.cells,au,h.len]
theorem yP.one(s:yP):s.cells.all (·.oneCell')=true:=by
 simp only[yP.cells,all_cons,gP,Bool.and_true];rfl
structure JR(K:World)(F:List aH)(A:Option Addr)(m:Nat)(l:List yP):Prop where
 seq:Seq K F A m 34 (l.flatMap yP.cells)
 len:l.length=m
 ok:∀s∈l,s.Ok
theorem JR.up{K:World}{F:List aH}{A:Option Addr}{m:Nat}{l:List yP}{C:aH}(h:JR K F A m l):JR K (C::F) A m l:=⟨h.seq.up,h.len,h.ok⟩
theorem rY{α:Type}{f:α→List Value}:∀(l:List α) (hf:∀x∈l,(f x).length=s) (k i:Nat) (x:α) (v:Value),l[k]? =some x→(f x)[i]? =some v→(l.flatMap f)[k*s+i]? =some v
 | [],_,k,i,x,v,h,_=>by simp at h
 | y::l,hf,0,i,x,v,h,hi=>by
  simp only[getElem?_cons_zero,Option.some.injEq] at h;subst h;rw[flatMap_cons,Nat.zero_mul,Nat.zero_add,getElem?_append_left (List.getElem?_eq_some_iff.1 hi).1];exact hi
 | y::l,hf,k+1,i,x,v,h,hi=>by
  have ih:=rY l (λz b=>hf z (.tail _ b)) k i x v (by simpa using h) hi;have a:=hf y (.head _);rw[flatMap_cons,getElem?_append_right (by rw[a,succ_mul];omega),a,←ih];congr 1;rw[succ_mul];omega
theorem JR.rd(h:JR K F A m r)(hk:r[i]? =some k):∀j v,k.cells[j]? =some v→Rd K F (A.map (·.add (i*34+j))) v:=λj v b =>
 h.seq.rd _ _ (rY r (λx a=>yP.dB (h.ok x a)) i j k v hk b)
theorem adK:∀(cs:List Value) (h:cs.length=34) (w:World),(Instr.buildSlice 40 1 [(0,.agg cs.toArray)].toArray).run prog w= .ok (.slice (some ⟨w.heap.size,0,none⟩) 1 1) (w.alloc (.cells cs.toArray 140))
 | v00::v01::v02::v03::v04::v05::v06::v07::v08::v09::v10::v11::v12::v13::v14::v15::v16::v17::v18::v19::v20::v21::v22::v23::v24::v25::v26::v27::v28::v29::v30::v31::v32::v33::[],_,w=>X5 v00 v01 v02 v03 v04 v05 v06 v07 v08 v09 v10 v11 v12 v13 v14 v15 v16 v17 v18 v19 v20 v21 v22 v23 v24 v25 v26 v27 v28 v29 v30 v31 v32 v33 w
theorem Xz{M:sI}(hs:JR K F A m M.gH)(hm:m≤1000000):pF prog 141 #[.agg #[.i M.ver,.i M.sec,.i M.key,.i M.yS,.slice A m cap]] K F Gc (λv H'=>M.ok=true∧v= .tuple #[]∧H'=F) (λH'=>M.ok=false∧H'=F):=by
 have b:=hs.len;obtain⟨R,l⟩:∃R,R=Q9 0 M.gH:=⟨_,Z⟩;rw[sI.ok,b,←l];refine aB.Er func141 Z ntmps141 Z ?_;simp only[kV,reduceAdd];refine aj "a&" λB=> ?_;refine aj "Qkkkk" ?_;refine WL.buildSlice (E:=3) (cs:=[_,_,_,_]) (vs:=[(0,_),(1,_),(2,_),(3,_)]) ⟨ak Z,ak Z,ak Z,ak Z,trivial⟩ Z (D8 _ _ _ _) Z (λy=>WL.jG (vs:=[_]) call195 ⟨ak Z,trivial⟩ (IL (xs:=[M.ver,M.sec,M.key,M.yS]) aN (Seq.all Z)) Z ?_ ?_)
 ·rintro _ ⟨a,rfl⟩;exact⟨Z,Z,F,λw h=>h.bg 2 [] Z,by rw[a];rfl,Z⟩
 rintro _ _ ⟨BG,rfl,rfl⟩;rw[BG];refine aj "Qkj~^" ?_;refine WL.jG (vs:=[_]) call138 ⟨ak Z,trivial⟩ (qF _) Z ?_ ?_
 ·rintro _ ⟨a,rfl⟩;exact⟨Z,Z,F,λw h=>h.bg 2 [] Z,by rw[show decide (m≤8)=false by simp at a ⊢;omega];rfl,Z⟩
 rintro _ _ ⟨d,rfl,rfl⟩;rw[show decide (m≤8)=true by simp at d ⊢;omega];refine aj "QwkjR" ?_;refine WC.loop (σ:=Nat×Int) (λs=>[(2,.i s.2),(21,.slice A m cap),(22,.i (m:Int)),(23,.i (s.1:Int))]) (λ_=>F) (λs=>s.1≤m∧Q9 s.2 (M.gH.drop s.1)=R) (λs=>m-s.1) (0,0) ⟨zero_le _,l.symm⟩ bC (λw h=>h.bg 2 [] Z) ?_;rintro⟨i,e⟩ ⟨hi,hq⟩;dsimp only at hi hq ⊢;refine aj "VJ" (aW (λj=> ?_) λj=> ?_)
 ·simp only[cZ] at j;obtain⟨s,ZJ⟩:∃s,M.gH[i]? =some s:=⟨_,getElem?_eq_getElem ay⟩;have UU:=hs.ok s (mem_of_getElem? ZJ);have mR:=yP.dB UU;rw[show M.gH.drop i=s::M.gH.drop (i+1) from (List.getElem?_eq_some_iff.1 ZJ).2 ▸ drop_eq_getElem_cons _,Q9] at hq;refine aj "Ea" ?_;refine WL.val (V.dw (v:= .i s.load) akq (ak Z) (ak Z) (λ_=>by omega) (λ_=>by rw[Int.toNat_natCast];exact hs.rd ZJ 0 _ Z)) Z ?_;rw[Int.toNat_natCast];refine WL.val (V.tX (vs:=s.cells) ⟨isAgg140,sizeOf140⟩ (ak Z) mR aN (λ_=>hs.rd ZJ)) Z<|aj "v" λG=> ?_;refine WL.store (cs:=s.cells) sizeOf140 (ak Z) (ak Z) Z mR (yP.one s) (bT.whole (by rw[mR];rfl))<|aj "Qkk" ?_;refine WL.buildSlice (E:=3) (cs:=[_,_]) (vs:=[(0,_),(1,_)]) ⟨ak Z,ak Z,trivial⟩ Z (p9 _ _) Z (λu=>WL.jG (vs:=[_]) call195 ⟨ak Z,trivial⟩ (IL (xs:=[s.load,s.bytes]) aN (Seq.all Z)) Z ?_ ?_)
  ·rintro _ ⟨a,rfl⟩;rw[a] at hq;exact⟨Z,Z,F,λw h=>h.bg 2 [] Z,by rw[←hq];rfl,Z⟩
  rintro _ _ ⟨aeW,rfl,rfl⟩;rw[aeW] at hq;have r:(0≤s.load∧s.load≤2147483647)∧0≤s.bytes∧s.bytes≤2147483647:=by simpa [Cy] using aeW
  refine aj "Qk~^b,`!" ?_;refine WL.bI (oj:=_) Z Z Z GC.t (V.geq (OV.g Z id) (OV.g Z id)) Z (aj "Sb,`,`" ?_);refine WL.bI (oj:=_) Z Z Z GC.t (V.CX (OV.g Z id) (OV.g Z id) Jy) Z (aj "~RS" ?_);refine WL.jG (vs:=[_]) call138 ⟨ak Z,trivial⟩ (qF _) Z ?_ ?_
  ·rintro _ ⟨a,rfl⟩;rw[a] at hq;exact⟨Z,Z,F,λw h=>h.bg 2 [] Z,by rw[←hq];rfl,Z⟩
  rintro _ _ ⟨a,rfl,rfl⟩;rw[a] at hq;refine aj "cpkkZo8" ?_;exact⟨(i+1,s.load+s.bytes),⟨by show i+1≤m;omega,by rw[←hq];rfl⟩,(by show m-(i+1)<m-i;omega),.cons Z bC,λw h=>h.bg 2 [] Z⟩
 ·simp only[cZ] at j;refine WC.exit ?_;exact⟨Z,_,F,bJ.none Z,λw h=>h,by rw[←hq,drop_of_length_le ay];rfl,Z,Z⟩
end Go.Proofs.YtcedojacbhnbiaaGreat
namespace Go.Sl
open Go Go.RowKit Go.Proofs.YtcedojacbhnbiaaGreat List Nat
theorem WL.Sg{dj:Nat}{oj:Oper}
 (hj:ops[j]? =some oj) (EG:oj.dst=some dj) (hl:look e dj=some gv) (hG:GC gv want c) (hf:bP P f) (hy:OV c e y (.func (.func f) first.toArray captured.toArray)) (gL:Ga c e xs vs) (hF:c=true→aK P f (first++vs++captured).toArray K H v) (hd:blt d n=true)
 (h:WL Mo P K n ops rest Q ((d,cv c v)::e) H):WL Mo P K n ops (⟨some d,.call ⟨.value y,xs.toArray,ats⟩,ty,pos,af,some (j,want)⟩::rest) Q e H:=λa w b l=>by
 have GK:=Region.jv (o:=⟨some d,.call ⟨.value y,xs.toArray,ats⟩,ty,pos,af,some (j,want)⟩) Z hj EG hl b hG;cases c with
 | false=>exact qg GK (h _ w (b.put d hd _) l)
 | true =>
  refine uP GK λR m=>DX (tO hf (hy.ev Z b) (gL.ev b Z)) (((hF Z).call l).mono ?_);rintro _ u ⟨rfl,r⟩;exact⟨v,Z,m _ _ (h _ u (b.put d hd v) r)⟩
end Go.Sl
namespace Go.Proofs.YtcedojacbhnbiaaGreat
open Go.Sl Go.RowKit Tryz List Nat
structure Ring(K:World)(F:List aH)(A:Option Addr)(m:Nat)(r:List Ky):Prop where
 seq:Seq K F A m 34 (r.flatMap Ky.cells)
 len:r.length=m
 ok:∀k∈r,k.Ok
 bd:m≤1000000
theorem Ring.up{K:World}{F:List aH}{A:Option Addr}{m:Nat}{r:List Ky}{C:aH}(h:Ring K F A m r):Ring K (C::F) A m r:=⟨h.seq.up,h.len,h.ok,h.bd⟩
theorem Ring.rd(h:Ring K F A m r)(hk:r[i]? =some k):∀j v,k.cells[j]? =some v→Rd K F (A.map (·.add (i*34+j))) v:=λj v b =>
 h.seq.rd _ _ (rY r (λx a=>Ky.dB (h.ok x a)) i j k v hk b)
theorem Ky.acD{k:Ky}(h:k.Ok):k.cells[33]? =some (.bool k.rev):=by
 show (av .u8 k.bytes++[Value.bool k.rev])[32]? =_;rw[getElem?_append_right (by rw[au,h.len];exact Nat.le_refl _),au,h.len];rfl
theorem Ky.acw{k:Ky}(h:k.Ok):av .u8 k.bytes <+: k.cells.drop 1:=⟨[.bool k.rev],Z⟩
theorem Ky.aeG{k:Ky}(hj:(av .u8 k.bytes)[j]? =some v):k.cells[1+j]? =some v:=by
 rw[Nat.add_comm];show (av .u8 k.bytes++[Value.bool k.rev])[j]? =some v;rw[getElem?_append_left (List.getElem?_eq_some_iff.1 hj).1,hj]
theorem Ky.one(k:Ky):k.cells.all (·.oneCell')=true:=by
 simp only[Ky.cells,all_cons,all_append,all_nil,gP,Bool.and_true];rfl
theorem Np:∀(r:List Ky) (l:Int),Jm l r=true→∀k∈r,l<k.num∧k.num≤2147483647
 | [],_,_,k,hk=>by cases hk
 | k0::r,l,h,k,hk=>by
  simp only[Jm,Bool.and_eq_true,Bool.not_eq_true',Bool.or_eq_false_iff,decide_eq_false_iff_not] at h;rcases mem_cons.1 hk with rfl | hk
  ·omega
  ·have :=Np r k0.num h.2 k hk;omega
theorem Lj:∀(r:List Ky) (l:Int),Jm l r=true→∀(i j:Nat) (k k':Ky),r[i]? =some k→r[j]? =some k'→i<j→k.num<k'.num
 | [],_,_,i,j,k,k',hk,_,_=>by simp at hk
 | k0::r,l,h,i,j,k,k',hk,Gg,ZI=>by
  simp only[Jm,Bool.and_eq_true,Bool.not_eq_true',Bool.or_eq_false_iff,decide_eq_false_iff_not] at h;obtain⟨j,rfl⟩:∃j',j=j'+1:=⟨j-1,by omega⟩;rw[getElem?_cons_succ] at Gg
  match i with
  | 0 =>
   rw[getElem?_cons_zero,Option.some.injEq] at hk;subst hk;exact (Np r _ h.2 k' (mem_of_getElem? Gg)).1
  | i+1=>exact Lj r _ h.2 i j k k' (by rwa [getElem?_cons_succ] at hk) Gg ay
theorem YK(h:j6 r=true)(k:Ky)(hk:k∈r):0≤k.num∧k.num≤2147483647:=by
 unfold j6 at h;simp only[Bool.and_eq_true] at h;have :=Np r _ h.1 k hk;omega
theorem OZ(hr:Ring K F A m ring):aK prog 134 #[.slice A m cap] K F (.bool (j6 ring)):=by
 have a:=hr.len;have l:=hr.bd;obtain⟨R,j⟩:∃R,R=Jm (-1) ring:=⟨_,Z⟩;rw[j6,←j,a];refine aB.en func134 ntmps134 ?_;refine aj "awfjR" ?_;refine WC.loop (σ:=Nat×Int) (λs=>[(0,.slice A m cap),(3,.i s.2),(6,.slice A m cap),(7,.i (m:Int)),(8,.i (s.1:Int))]) (λs=>F) (λs=>s.1≤m∧Jm s.2 (ring.drop s.1)=R) (λs=>m-s.1) (0,-1) ⟨zero_le _,j.symm⟩ bC cO ?_;rintro⟨i,last⟩ ⟨hi,hq⟩;dsimp only at hi hq ⊢;refine aj "VJ" (aW (λd=> ?_) λd=> ?_)
 ·simp only[cZ] at d;obtain⟨k,b⟩:∃k,ring[i]? =some k:=⟨_,getElem?_eq_getElem ay⟩;have Zm:=hr.ok k (mem_of_getElem? b);have vX:=Ky.dB Zm;rw[show ring.drop i=k::ring.drop (i+1) from (List.getElem?_eq_some_iff.1 b).2 ▸ drop_eq_getElem_cons _,Jm] at hq;refine aj "Ea" ?_;refine WL.val (V.dw (v:= .i k.num) TH (ak Z) (ak Z) (λ_=>by omega) (λ_=>by rw[Int.toNat_natCast];exact hr.rd b 0 _ Z)) Z ?_;rw[Int.toNat_natCast];refine WL.val (V.tX (vs:=k.cells) ⟨isAgg99,sizeOf99⟩ (ak Z) vX aN (λ_=>hr.rd b)) Z<|aj "v" λr=> ?_;refine WL.store (cs:=k.cells) sizeOf99 (ak Z) (ak Z) Z vX (Ky.one k) (bT.whole (by rw[vX];rfl))<|aj "GaX" ?_;refine WL.val (V.load (v:= .i k.num) isAgg3 (ak Z) (λ_=>Rd.here Z)) Z<|aj "b~^b_" ?_;refine WL.bI (oj:=_) Z Z Z GC.f (V.load (v:= .i k.num) isAgg3 (OV.g Z id) (λ_=>Rd.here Z)) Z<|aj "~jIh" (aW (λe=> ?_) λe=> ?_)
  ·have N7:R=false:=by rw[←hq,show (decide (k.num≤last)||decide (2147483647<k.num))=true from by simpa using e];rfl
   refine aj "D" ?_;exact qR F Z Z eO ⟨by rw[N7];rfl,Z⟩
  ·have N7:Jm k.num (ring.drop (i+1))=R:=by rw[←hq,show (decide (k.num≤last)||decide (2147483647<k.num))=false from by simpa using e];rfl
   refine aj "qpX" ?_;refine WL.val (V.load (v:= .i k.num) isAgg3 (ak Z) (λ_=>Rd.here Z)) Z<|aj "o8" ?_;exact⟨(i+1,k.num),⟨by show i+1≤m;omega,N7⟩,(by show m-(i+1)<m-i;omega),.cons Z bC,λw h=>h.tail⟩
 ·simp only[cZ] at d;refine aj "W" ?_;obtain rfl:i=m:=by omega
  rw[drop_of_length_le ay] at hq;rw[←hq];refine aj "gj~^d" ?_;exact qR F Z Z cO ⟨by simp[Jm];omega,Z⟩
theorem aah{x:Nat}(hq:q≤1000000):aB prog 135 #[v,.i (x:Int)] K (aV v 5 1 q (av .u8 l)::F) (λu H'=>∃A' c' l',u= .slice A' (q+4) c'∧H'=aV (.slice A' (q+4) c') 5 1 (q+4) (av .u8 l')::F):=by
 refine aB.en func135 ntmps135 ?_;refine aj "a0" ?_;refine WL.val (V.G6 (i:=x) (M:=256) runUnderlying3 runUnderlying5 (ak Z)) Z (aP "b~~[~1b~~]~1b" ?_);refine WL.val (V.wK (j:=24) (ak Z) (ak Z)) Z (aP "~1" ?_);refine WL.buildSlice (E:=5) (cs:=av .u8 [_,_,_,_]) (vs:=[(0,_),(1,_),(2,_),(3,_)]) ⟨ak Z,ak Z,ak Z,ak Z,trivial⟩ Z (fJ _ _ _ _) Z (λd=>aP "?~7" λb a asM ahv=> ?_);refine aj "d" ?_;exact qR (aV (.slice b (q+4) a) 5 1 (q+4) (av .u8 _)::F) Z Z (λw h=>h.bg 2 [0] Z) ⟨b,a,_,Z,Z⟩
theorem YD{x:Nat}(hs:Seq K F A 4 1 (av .u8 l)):aB prog 135 #[.slice A 4 4,.i (x:Int)] K F (λu H'=>∃A' c' l',u= .slice A' 8 c'∧H'=aV (.slice A' 8 c') 5 1 8 (av .u8 l')::F):=by
 refine aB.en func135 ntmps135 ?_;refine aj "a0" ?_;refine WL.val (V.G6 (i:=x) (M:=256) runUnderlying3 runUnderlying5 (ak Z)) Z (aP "b~~[~1b~~]~1b" ?_);refine WL.val (V.wK (j:=24) (ak Z) (ak Z)) Z (aP "~1" ?_);refine WL.buildSlice (E:=5) (cs:=av .u8 [_,_,_,_]) (vs:=[(0,_),(1,_),(2,_),(3,_)]) ⟨ak Z,ak Z,ak Z,ak Z,trivial⟩ Z (fJ _ _ _ _) Z (λd=>WL.U6 (m:=4) (l:=l) (news:=[_,_,_,_]) underlying34 yL (ak Z) (ak Z) hs.up (Seq.all Z) aN aN Z Z (λb a ahv=>aj "d" ?_));exact qR (aV (.slice b 8 a) 5 1 8 (av .u8 _)::F) Z Z (λw h=>h.bg 2 [0] Z) ⟨b,a,_,Z,Z⟩
theorem Uy(hr:Ring K F A m ring):aB prog 76 #[.slice A m cap] K F (λv H'=>∃A' m' c' E,v= .tuple #[.slice A' m' c',.i (if j6 ring then 0 else 1)]∧H'=E::F):=by
 have H:=hr.len;have U:=hr.bd;refine aB.en func76 ntmps76 ?_;refine aj "alf" ?_;refine WL.t1 call134 Z (OZ hr) Z<|aj "9h" (aW (λG=> ?_) λG=> ?_)
 ·have Kv:j6 ring=false:=by simpa using G
  refine aj "aF" ?_;exact aF.ret (H':=bK []::F) (bJ.eU Z Z Z) (λw h=>Sat.all (l:=[]) h) ⟨none,0,0,_,by rw[Kv];rfl,Z⟩
 ·have Kv:j6 ring=true:=by simpa using G
  have W:m≤8:=by
   have a:=Kv;unfold j6 at a;simp only[Bool.and_eq_true,decide_eq_true_eq] at a;omega
  refine aj "7" ?_;refine WL.buildSlice (E:=5) (cs:=av .u8 [_,_,_,_]) (vs:=[(0,_),(1,_),(2,_),(3,_)]) ⟨ak Z,ak Z,ak Z,ak Z,trivial⟩ Z (fJ _ _ _ _) Z (λx0=>aj "~~kbj" ?_);refine WL.c2 call135 Z Z (YD (l:=[114,105,110,103]) (x:=m) (Seq.agX Z)) Z ?_;rintro _ _ ⟨y,e,r,rfl,rfl⟩;refine WL.sub (Sub.refl _) (λw h=>h.bg 2 [0] Z)<|aj "fjR" ?_;refine WC.loop (σ:=Nat×Nat×Option Addr×Nat×List Nat) (λs=>[(0,.slice A m cap),(4,.slice s.2.2.1 s.2.1 s.2.2.2.1),(15,.slice A m cap),(16,.i (m:Int)),(17,.i (s.1:Int))]) (λs=>aV (.slice s.2.2.1 s.2.1 s.2.2.2.1) 5 1 s.2.1 (av .u8 s.2.2.2.2)::F) (λs=>s.1≤m∧s.2.1≤8+37*s.1) (λs=>m-s.1) (0,8,y,e,r) ⟨zero_le _,Nat.le_refl _⟩ bC cO ?_;rintro⟨i,q,A4,c4,l4⟩ ⟨d,hq⟩;dsimp only at d hq ⊢;refine aP "a~lGJ" (aW (λa=> ?_) λa=> ?_)
  ·simp only[cZ] at a;obtain⟨k,B⟩:∃k,ring[i]? =some k:=⟨_,getElem?_eq_getElem ay⟩;have b:=mem_of_getElem? B;have Zm:=hr.ok k b;have vX:=Ky.dB Zm;have M:=YK Kv k b;obtain⟨x,hx⟩:∃x:Nat,k.num=(x:Int):=⟨k.num.toNat,by omega⟩;refine aj "Ea" ?_;refine WL.val (V.dw (v:= .i k.num) TH (ak Z) (ak Z) (λ_=>by omega) (λ_=>by rw[Int.toNat_natCast];exact (hr.rd B 0 _ Z).up)) Z ?_;rw[Int.toNat_natCast];refine WL.val (V.tX (vs:=k.cells) ⟨isAgg99,sizeOf99⟩ (ak Z) vX aN (λ_ i v d=>(hr.rd B i v d).up)) Z<|aj "v" λY=> ?_;refine WL.store (cs:=k.cells) sizeOf99 (ak Z) (ak Z) Z vX (Ky.one k) (bT.whole (by rw[vX];rfl))<|aj "ceX" ?_;refine WL.val (V.load (v:= .i (x:Int)) isAgg3 (ak Z) (λ_=>by rw[←hx];exact Rd.here Z)) Z<|aj "?" ?_;refine WL.c2 call135 Z Z (aah (x:=x) ay) Z ?_;rintro _ _ ⟨J,Q,j,rfl,rfl⟩;refine aj "iX" ?_;refine WL.val (V.aG (v':= .slice (some ⟨Y,1,none⟩) 32 32) (V.qM (l:=0) (h:=32) (u:=32) (m:=32) zJ (ak Z) OO.none OO.none OO.none (by simp) aN aN aN) (λ_=>by simp)) Z<|WL.Gn (l:=j) (news:=k.bytes) underlying34 yL (ak Z) (ak Z) (λR X asn as2=> ?_) (Seq.here (m:=32) (s:=1) (by rw[au,Zm.len]) (Ky.acw Zm));refine aj "wX" ?_;refine WL.val (V.load (v:= .bool k.rev) isAgg4 (ak Z) (λ_=>(Rd.here (Ky.acD Zm)).up)) Z<|aj "h" (aW (λbA=> ?_) λbA=> ?_)
   ·try simp only[iC] at bA
    refine aj "g" ?_;refine WL.buildSlice (E:=5) (cs:=av .u8 [_]) (vs:=[(0,_)]) ⟨ak Z,trivial⟩ Z (jc _) Z (λO=>aP "?~7" λI N ar8 arH=> ?_);refine aP "op=>" ?_;exact⟨(i+1,_,_,_,_),⟨a,by dsimp only;omega⟩,(by show m-(i+1)<m-i;omega),.cons Z bC,λw h=>h.bg 3 [0] Z⟩
   ·try simp only[iC] at bA
    refine aj "g" ?_;refine WL.buildSlice (E:=5) (cs:=av .u8 [_]) (vs:=[(0,_)]) ⟨ak Z,trivial⟩ Z (jc _) Z (λx2=>aP "?~7" λP L am1 ane=> ?_);refine aP "op=>" ?_;exact⟨(i+1,_,_,_,_),⟨a,by dsimp only;omega⟩,(by show m-(i+1)<m-i;omega),.cons Z bC,λw h=>h.bg 3 [0] Z⟩
  ·simp only[cZ] at a;refine aj "KeF" ?_;exact aF.ret (H':=aV _ 5 1 _ _::F) (bJ.eU Z Z Z) cO ⟨_,_,_,_,by rw[Kv];rfl,Z⟩
theorem Vw(k:Ky)(n:Int)(hk:k.Ok):aK prog 197 #[.agg k.cells.toArray,.i n] K F (.i (uw k.num n)):=by
 have vX:=Ky.dB hk;refine aB.en func197 ntmps197 ?_;refine WC.sr<|WL.box (cs:=k.cells) (ak Z) Z Z (λa=>aj "wX" ?_);refine WL.val (V.load (v:= .i k.num) isAgg3 (ak Z) (λ_=>Rd.here Z)) Z<|WL.mv Z Z (WL.t2 call167 Z Z (l9 _ _) Z ?_);exact aj "d+" trivial
def Ul(r:List Ky)(n:Int)(i:Nat):Bool:=match r[i]? with | some k=>decide (k.num=n) | none=>false
theorem Qq(n:Int)(hr:Ring K F A m ring)(hm:m≤8)(Dm:∀(i j:Nat) (k k':Ky),ring[i]? =some k→ring[j]? =some k'→i<j→k.num<k'.num) :
 aB prog 196 #[.slice A m cap,.i n,.func (.func 197) #[] #[]] K F (λv H'=>H'=F∧∃i:Nat,v= .tuple #[.i (i:Int),.bool (Ul ring n i)]∧(∀j k,j<i→ring[j]? =some k→k.num<n)∧(∀j k,i≤j→ring[j]? =some k→n≤k.num)):=by
 have B:=hr.len;have G:=hr.bd;refine aB.en func196 ntmps196 ?_;refine aj "alijilts" ?_;refine WC.loop (σ:=Nat×Nat) (λs=>[(0,.slice A m cap),(1,.i n),(2,.func (.func 197) #[] #[]),(8,.i ((m:Nat):Int)),(9,.i ((s.1:Nat):Int)),(10,.i ((s.2:Nat):Int))]) (λs=>F) (λs=>s.1≤s.2∧s.2≤m∧(∀j k,j<s.1→ring[j]? =some k→k.num<n)∧(∀j k,s.2≤j→ring[j]? =some k→n≤k.num)) (λs=>s.2-s.1) (0,m) ⟨zero_le _,Nat.le_refl _,λj k l=>absurd l (not_lt_zero j),λj k l b=>by rw[getElem?_eq_none (by dsimp only at l;omega)] at b;cases b⟩ bC cO ?_;rintro⟨lo,hi⟩ ⟨hlh,hhm,L8,hhi⟩;dsimp only at hlh hhm L8 hhi ⊢;refine aP "rb~lh" (aW (λy=> ?_) λy=> ?_)
 ·simp only[cZ] at y;have aoO:lo≤(lo+hi)/2^1∧(lo+hi)/2^1<hi:=by rw[show (2:Nat)^1=2 by rfl];omega
  obtain⟨a,u⟩:∃a,a=(lo+hi)/2^1:=⟨_,Z⟩;rw[←u] at aoO;obtain⟨k,b⟩:∃k,ring[a]? =some k:=⟨_,getElem?_eq_getElem ay⟩;have Zm:=hr.ok k (mem_of_getElem? b);have vX:=Ky.dB Zm;refine aP "qseb~W" ?_;refine WL.val (V.qQ (i:=lo+hi) runUnderlying3 runUnderlying232 (ak Z) (λ_=>kN (M:=18446744073709551616) Z Z ay)) Z<|aP "~~O" ?_;rw[←u];refine WL.val (V.qQ (i:=a) runUnderlying232 runUnderlying3 (ak Z) (λ_=>KJ ay)) Z<|aj "ix" ?_;refine WL.val (V.dw (v:= .i k.num) TH (ak Z) (ak Z) (λ_=>by omega) (λ_=>by rw[Int.toNat_natCast];exact (hr.rd b 0 _ Z))) Z ?_;rw[Int.toNat_natCast];refine WL.val (V.tX (vs:=k.cells) ⟨isAgg99,sizeOf99⟩ (ak Z) vX aN (λ_=>hr.rd b)) Z<|WL.mv Z Z (WL.ny (first:=[]) (vs:=[_,_]) (captured:=[]) call197 (ak Z) ⟨ak Z,ak Z,trivial⟩ (Vw k n Zm) Z ?_);rintro _ _ ⟨rfl,rfl⟩;refine aj "Ph" (aW (λd=> ?_) λd=> ?_)
  ·simp only[cZ] at d;have N7:k.num<n:=by unfold uw at d;split at d;assumption;split at d<;>omega
   refine aP "g=N" ?_;exact⟨(a+1,hi),⟨by show a+1≤hi;omega,hhm,λj k' l Gg=>by
    dsimp only at l;rcases Nat.lt_or_ge j a with h | h
    ·have :=Dm j a k' k Gg b h;omega
    ·obtain rfl:j=a:=by omega
     rw[b] at Gg;cases Gg;exact N7,hhi⟩,(by show hi-(a+1)<hi-lo;omega),.cons Z bC,λw h=>h⟩
  ·simp only[cZ] at d;have N7:n≤k.num:=by unfold uw at d;split at d;omega;omega
   refine aj "gN" ?_;exact⟨(lo,a),⟨by show lo≤a;omega,by show a≤m;omega,L8,λj k' l Gg=>by
    dsimp only at l;rcases Nat.lt_or_ge a j with h | h
    ·have :=Dm a j k k' b Gg h;omega
    ·obtain rfl:j=a:=by omega
     rw[b] at Gg;cases Gg;exact N7⟩,(by show a-lo<hi-lo;omega),.cons Z bC,λw h=>h⟩
 ·simp only[cZ] at y;refine aj "W" ?_;obtain rfl:lo=hi:=by omega
  obtain⟨k,b,vX⟩:∃k:Ky,(lo<m→ring[lo]? =some k)∧k.cells.length=34:=by
   rcases Nat.lt_or_ge lo m with h | h
   ·exact⟨ring[lo]'ay,λ_=>getElem?_eq_getElem ay,Ky.dB (hr.ok _ (getElem_mem _))⟩
   ·exact⟨⟨0,replicate 32 0,false⟩,λH=>by omega,by simp[Ky.cells,au]⟩
  have sW:Ul ring n lo=(decide (lo<m)&&decide (uw k.num n=0)):=by
   unfold Ul;rcases Nat.lt_or_ge lo m with h | h
   ·rw[b h];dsimp only;rw[decide_eq_true h,Bool.true_and];congr 1;unfold uw;apply propext;constructor
    ·intro e;rw[if_neg ay,if_neg ay]
    ·intro e;split at e;cases e;split at e;cases e;omega
   ·rw[getElem?_eq_none ay,decide_eq_false ay];rfl
  refine aP "gx~lb!!!" ?_;refine WL.bI (oj:=_) Z Z Z GC.t (V.dw (v:= .i k.num) TH (OV.g Z id) (OV.g Z id) (λr=>by simp at r;omega) (λr=>by rw[Int.toNat_natCast];exact (hr.rd (b (by simp at r;omega)) 0 _ Z))) Z ?_;refine WL.bI (oj:=_) Z Z Z GC.t (V.tX (vs:=k.cells) (k:=lo*34) ⟨isAgg99,sizeOf99⟩ (OV.g Z id) vX aN (λr=>hr.rd (b (by simp at r;omega)))) Z ?_;refine aj "!" ?_;refine WL.Sg (oj:=_) (first:=[]) (vs:=[_,_]) (captured:=[]) Z Z Z GC.t call197 (OV.g Z id) ⟨OV.g Z id,OV.g Z id,trivial⟩ (λr=>Vw k n (hr.ok k (mem_of_getElem? (b (by simp at r;omega))))) Z ?_;refine aj "~SSF" ?_;exact aF.ret (H':=F) (bJ.eU Z Z Z) cO ⟨Z,lo,by
   rw[sW],L8,hhi⟩
theorem adu(r:List Ky)(n:Int)(i:Nat)(Dm:∀(i j:Nat) (k k':Ky),r[i]? =some k→r[j]? =some k'→i<j→k.num<k'.num)(h1:∀(j:Nat) (k:Ky),j<i→r[j]? =some k→k.num<n)(h2:∀(j:Nat) (k:Ky),i≤j→r[j]? =some k→n≤k.num) :
 (Ul r n i=true→r[i]? =findF r n∧(findF r n).isSome=true)∧(Ul r n i=false→findF r n=none):=by
 have l:∀k,findF r n=some k→∃j,r[j]? =some k∧k.num=n:=λk e=>by
  unfold findF at e;obtain⟨j,a⟩:=getElem?_of_mem (mem_of_find?_eq_some e);exact⟨j,a,by simpa using find?_some e⟩
 have d:findF r n=none→∀(j:Nat) (k:Ky),r[j]? =some k→k.num≠n:=λe j k a=>by
  unfold findF at e;have :=find?_eq_none.1 e k (mem_of_getElem? a)
  simpa using this
 constructor
 ·intro h;unfold Ul at h;cases hi:r[i]? with
  | none=>rw[hi] at h;cases h
  | some k =>
   rw[hi] at h;have m:k.num=n:=by simpa using h
   cases hf:findF r n with
   | none=>exact absurd m (d hf i k hi)
   | some k' =>
    obtain⟨j,a,Wx⟩:=l k' hf;rcases Nat.lt_trichotomy i j with b | rfl | b
    ·have :=Dm i j k k' hi a b;omega
    ·rw[hi] at a;exact⟨a,Z⟩
    ·have :=Dm j i k' k a hi b;omega
 ·intro h;unfold Ul at h;cases hf:findF r n with
  | none=>rfl
  | some k' =>
   obtain⟨j,a,Wx⟩:=l k' hf;exfalso;rcases Nat.lt_or_ge j i with b | b
   ·have :=h1 j k' b a;omega
   ·rcases Nat.eq_or_lt_of_le b with rfl | u
    ·rw[a] at h;simp[Wx] at h
    ·cases hi:r[i]? with
     | none=>rw[List.getElem?_eq_none_iff] at hi;have :=(List.getElem?_eq_some_iff.1 a).1;omega
     | some k =>
      have B:=Dm i j k k' hi a u;have y:=h2 i k (Nat.le_refl _) hi;omega
def qP(r:List Ky)(n:Int):Int:=if j6 r then (if (findF r n).isSome then 0 else 190) else 1
theorem SG(n:Int)(hr:Ring K F A m ring):aB prog 142 #[.slice A m cap,.i n] K F (λv H'=>H'=F∧∃i:Nat,v= .tuple #[.i (i:Int),.i (qP ring n)]∧(qP ring n=0→ring[i]? =findF ring n∧(findF ring n).isSome=true)):=by
 have e:=hr.len;refine aB.en func142 ntmps142 ?_;refine aj "alf" ?_;refine WL.t1 call134 Z (OZ hr) Z<|aj "9h" (aW (λb=> ?_) λb=> ?_)
 ·skip
  have Kv:j6 ring=false:=by simpa using b
  refine aj "aF" ?_;exact aF.ret (H':=F) (bJ.eU Z Z Z) cO ⟨Z,0,by unfold qP;rw[if_neg (by rw[Kv];decide)];rfl,λh=>by unfold qP at h;rw[if_neg (by rw[Kv];decide)] at h;cases h⟩
 ·skip
  have Kv:j6 ring=true:=by simpa using b
  have JG:=Kv;unfold j6 at JG;simp only[Bool.and_eq_true,decide_eq_true_eq] at JG;have Dm:=Lj _ _ JG.1;refine aj "Tb" ?_;refine WL.c3 call196 Z Z Z (Qq n hr ay Dm) Z ?_;rintro _ j ⟨l,i,rfl,uM,pI⟩;subst j;have a:=adu ring n i Dm uM pI;refine aj "Hf9h" (aW (λd=> ?_) λd=> ?_)
  ·skip
   have N7:=a.2 (by simpa using d);refine aj "aF" ?_;exact aF.ret (H':=F) (bJ.eU Z Z Z) cO ⟨Z,0,by unfold qP;rw[if_pos Kv,N7];rfl,λh=>by unfold qP at h;rw[if_pos Kv,N7] at h;cases h⟩
  ·skip
   have N7:=a.1 (by simpa using d);refine aj "TF" ?_;exact aF.ret (H':=F) (bJ.eU Z Z Z) cO ⟨Z,i,by unfold qP;rw[if_pos Kv,if_pos N7.2],λ_=>N7⟩
theorem Xl(n:Int)(hr:Ring K F A m ring):aK prog 82 #[.slice A m cap,.i n] K F (.tuple #[.agg (av .u8 (q9 ring n).1).toArray,.i (q9 ring n).2]):=by
 have h:=hr.len;have u:=hr.bd;refine aB.en func82 ntmps82 ?_;refine aP "az" λH=> ?_;refine aj "0" ?_;refine WL.c2 call142 Z Z (SG n hr.up) Z ?_;rintro _ y ⟨I,i,rfl,G⟩;subst y;refine aj "HtseuoJ" (aW (λb=> ?_) λb=> ?_)
 ·simp only[oK] at b;refine WC.sr (WL.val (V.lX (k:= .u8) (l:=replicate 32 0) (vs:=[]) trivial Z (PV )) Z (aP "bAd" ?_));exact aF.ret (H':=F) (bJ.two Z (R1.dh (l:=replicate 32 0) Z ⟨isAgg97,sizeOf97⟩) (R1.tmp Z)) eO ⟨by
   have :q9 ring n=(replicate 32 0,qP ring n):=by
    unfold q9 qP at *
    split
    ·rename_i d;rw[if_pos d] at b;split
     ·rename_i k a;rw[a] at b;exact absurd Z b
     ·rename_i a;rw[a];rfl
    ·rfl
   rw[this],Z⟩
 ·simp only[oK] at b;have Kv:qP ring n=0:=ay;obtain⟨UZ,RV⟩:=G Kv;obtain⟨k,a⟩:=Option.isSome_iff_exists.1 RV;rw[a] at UZ;have Zm:=hr.ok k (mem_of_getElem? UZ);have vX:=Zm.len;have B:i<m:=by have :=(List.getElem?_eq_some_iff.1 UZ).1;omega
  have jh:j6 ring=true:=by unfold qP at Kv;split at Kv;assumption;cases Kv
  have e:q9 ring n=if k.rev then (replicate 32 0,190) else (k.bytes,0):=by unfold q9;rw[if_pos jh,a]
  rw[e];refine aj "eb" ?_;refine WL.val (V.dw (v:= .i k.num) TH (ak Z) (ak Z) (λ_=>by omega) (λ_=>by rw[Int.toNat_natCast];exact (hr.rd UZ 0 _ Z).up)) Z ?_;rw[Int.toNat_natCast];refine WL.val (V.uY (k':=i*34) (v:= .i k.num) Uq (ak Z) (λ_=>(hr.rd UZ 0 _ Z).up)) Z<|WL.val (V.load (v:= .bool k.rev) isAgg4 (ak Z) (λ_=>(hr.rd UZ 33 _ (Ky.acD Zm)).up)) Z<|aj "oJ" (aW (λd=> ?_) λd=> ?_)
  ·skip
   rw[d];refine WC.sr (WL.val (V.lX (k:= .u8) (l:=replicate 32 0) (vs:=[]) trivial Z (PV )) Z (aP "Ad" ?_));exact aF.ret (H':=F) (bJ.two Z (R1.dh (l:=replicate 32 0) Z ⟨isAgg97,sizeOf97⟩) (R1.tmp Z)) eO ⟨Z,Z⟩
  ·skip
   rw[d];refine aj "Tb" ?_;refine WL.val (V.dw (v:= .i k.num) TH (ak Z) (ak Z) (λ_=>by omega) (λ_=>by rw[Int.toNat_natCast];exact (hr.rd UZ 0 _ Z).up)) Z ?_;rw[Int.toNat_natCast];refine WL.val (V.uY (k':=i*34) (v:= .i k.num) abW (ak Z) (λ_=>(hr.rd UZ 0 _ Z).up)) Z<|WL.val (V.tX (vs:=av .u8 k.bytes) ⟨isAgg97,sizeOf97⟩ (ak Z) (by rw[au,Zm.len]) aN (λ_ j v r=>by rw[Nat.add_assoc];exact (hr.rd UZ _ _ (Ky.aeG r)).up)) Z<|aP "Ad" ?_;exact aF.ret (H':=F) (bJ.two Z (R1.dh (l:=k.bytes) Z ⟨isAgg97,sizeOf97⟩) (R1.tmp Z)) eO ⟨Z,Z⟩
theorem rV{α:Type}{f:α→List Value}:∀(l:List α) (hf:∀x∈l,(f x).length=s),(l.flatMap f).length=l.length*s
 | [],_=>by simp
 | y::l,hf=>by rw[flatMap_cons,length_append,hf y (.head _),rV l (λz hz=>hf z (.tail _ hz)),length_cons,succ_mul,Nat.add_comm]
theorem abg(h8:aA 256 l):((strOfNums (bH l)).toList==(⟨#[109,97,110,105]⟩:ByteArray).toList)=decide (l=[109,97,110,105]):=by
 have a:aA 256 [109,97,110,105]:=by unfold aA;decide
 rw[show (⟨#[109,97,110,105]⟩:ByteArray)=strOfNums (bH [109,97,110,105]) from Z,sZ (kR h8) (kR a)];apply decide_eq_decide.2;constructor
 ·intro h;have :=congrArg (List.map Int.toNat) h
  simpa [bH,map_map,Function.comp_def] using this
 ·intro h;rw[h]
theorem aA.K8(h:aA 256 l):aA 256 (l.drop 4):=λx a=>h x (mem_of_mem_drop a)
abbrev sI.cells(M:sI)(A:Option Addr)(c:Nat):List Value:=[.i M.ver,.i M.sec,.i M.key,.i M.yS,.slice A M.gH.length c]
theorem U4(hs:Seq K F A m 1 (av .u8 b))(h8:aA 256 b)(hc:m≤c)(C:aH) :
 pF prog 137 #[ptr bb 0,ptr bm 0] K (C::ah bb 34 [.slice A m c]::ah bm 42 [.i 0,.i 0,.i 0,.i 0,.slice none 0 0]::F) Gc
  (λv H'=>∃H2,H'=C::H2∧∃M A' c' E,iL b=some M∧(∀H,JR K (E::H) A' M.gH.length M.gH)∧H2=ah bm 42 (M.cells A' c')::E::F)
  (λH'=>∃H2,H'=C::H2∧iL b=none∧H2=F):=by
 have x0:b.length=m:=by have :=hs.len;rwa [au,Nat.mul_one] at this
 have Mf:m<24→iL b=none:=λh=>by unfold iL;rw[if_pos (.inl ay)]
 refine aB.Er func137 Z ntmps137 Z ?_;simp only[kV,reduceAdd];refine WC.sr<|WL.val (V.load (v:= .slice A m c) isAgg34 (ak Z) (λ_=>(Rd.here Z).up)) Z<|WL.val (V.build (vs:=[(0,_)]) ⟨ak Z,trivial⟩ Z (aby _ _ _)) Z<|aj "~k" λR=> ?_;refine aj "i" ?_;refine WL.jG (vs:=[_,_]) call139 ⟨ak Z,ak Z,trivial⟩ (iJ (n:=4) hc) Z ?_ ?_
 ·rintro _ ⟨d,rfl⟩;exact⟨Z,Z,C::F,λw h=>h.bg 3 [0] Z,F,Z,Mf ay,Z⟩
 rintro _ _ ⟨y,rfl,rfl⟩;have Y:=hs.take y;rw[dU] at Y;have sV:=Seq.OJ hs y hc;have Dw:m-4≤c-4:=Nat.sub_le_sub_right hc 4;have qX:aA 256 (b.drop 4):=λx r=>h8 x (mem_of_mem_drop r);refine WL.val (V.iM (xs:=bH (b.take 4)) underlying34 underlying5 underlying9 (ak Z) (λ_=>by rw[←jX];exact Y.up.up.up.up)) Z<|WL.val (V.ajB (ak Z) (ak Z)) Z ?_;rw[abg (λx r=>h8 x (mem_of_mem_take r))];refine WL.jG (vs:=[_]) call138 ⟨ak Z,trivial⟩ (qF _) Z ?_ ?_
 ·rintro _ ⟨d,rfl⟩;exact⟨Z,Z,C::F,λw h=>h.bg 4 [1] Z,F,Z,by unfold iL;rw[if_pos (.inr (.inl (by simpa using d)))],Z⟩
 rintro _ _ ⟨aog,rfl,rfl⟩;refine aj "GaXXXX" ?_;refine WL.buildSlice (E:=214) (cs:=[_,_,_,_]) (vs:=[(0,_),(1,_),(2,_),(3,_)]) ⟨ak Z,ak Z,ak Z,ak Z,trivial⟩ Z (Ee _ _ _ _) Z (λx3=>aj "j~9R" ?_);refine WC.rounds 5 (aj "V3Ea~u<Ob" ?_);refine WL.jG (vs:=[_]) call140 ⟨ak Z,trivial⟩ (iV sV.up.up.up.up qX Dw) Z ?_ ?_
 ·rintro _ ⟨d,rfl⟩;exact⟨Z,Z,C::F,λw h=>h.bg 4 [1] Z,F,Z,Mf ay,Z⟩
 rintro _ _ ⟨y,rfl,rfl⟩;replace sV:=Seq.OJ sV y Dw;replace Dw:=Nat.sub_le_sub_right Dw 4;simp only[drop_drop,reduceAdd] at sV;replace qX:=aA.K8 qX;simp only[drop_drop,reduceAdd] at qX;refine aj "[~ocp~T~yV3Ea~u<Ob" ?_;refine WL.jG (vs:=[_]) call140 ⟨ak Z,trivial⟩ (iV sV.up.up.up.up qX Dw) Z ?_ ?_
 ·rintro _ ⟨d,rfl⟩;exact⟨Z,Z,C::F,λw h=>h.bg 4 [1] Z,F,Z,Mf ay,Z⟩
 rintro _ _ ⟨y,rfl,rfl⟩;replace sV:=Seq.OJ sV y Dw;replace Dw:=Nat.sub_le_sub_right Dw 4;simp only[drop_drop,reduceAdd] at sV;replace qX:=aA.K8 qX;simp only[drop_drop,reduceAdd] at qX;refine aj "[~ocp~w~yV3Ea~u<Ob" ?_;refine WL.jG (vs:=[_]) call140 ⟨ak Z,trivial⟩ (iV sV.up.up.up.up qX Dw) Z ?_ ?_
 ·rintro _ ⟨d,rfl⟩;exact⟨Z,Z,C::F,λw h=>h.bg 4 [1] Z,F,Z,Mf ay,Z⟩
 rintro _ _ ⟨y,rfl,rfl⟩;replace sV:=Seq.OJ sV y Dw;replace Dw:=Nat.sub_le_sub_right Dw 4;simp only[drop_drop,reduceAdd] at sV;replace qX:=aA.K8 qX;simp only[drop_drop,reduceAdd] at qX;refine aj "[~ocp~~|~yV3Ea~u<Ob" ?_;refine WL.jG (vs:=[_]) call140 ⟨ak Z,trivial⟩ (iV sV.up.up.up.up qX Dw) Z ?_ ?_
 ·rintro _ ⟨d,rfl⟩;exact⟨Z,Z,C::F,λw h=>h.bg 4 [1] Z,F,Z,Mf ay,Z⟩
 rintro _ _ ⟨y,rfl,rfl⟩;replace sV:=Seq.OJ sV y Dw;replace Dw:=Nat.sub_le_sub_right Dw 4;simp only[drop_drop,reduceAdd] at sV;replace qX:=aA.K8 qX;simp only[drop_drop,reduceAdd] at qX;refine aj "[~ocp" ?_;refine WL.val (V.aG (v':= .i (4)) (V.add (ak Z) (ak Z)) (λ_=>Z)) Z<|aj "~yV~IKe" ?_;refine WL.jG (vs:=[_]) call140 ⟨ak Z,trivial⟩ (iV sV.up.up.up.up qX Dw) Z ?_ ?_
 ·rintro _ ⟨d,rfl⟩;exact⟨Z,Z,C::F,λw h=>h.bg 4 [1] Z,F,Z,Mf ay,Z⟩
 rintro _ _ ⟨y,rfl,rfl⟩;replace sV:=Seq.OJ sV y Dw;replace Dw:=Nat.sub_le_sub_right Dw 4;simp only[drop_drop,reduceAdd] at sV;replace qX:=aA.K8 qX;simp only[drop_drop,reduceAdd] at qX;obtain⟨n,hn⟩:∃n,n=sP (b.drop 20):=⟨_,Z⟩;rw[←hn];refine aj "i~^" ?_;refine WL.jG (vs:=[_]) call138 ⟨ak Z,trivial⟩ (qF _) Z ?_ ?_
 ·rintro _ ⟨d,rfl⟩;exact⟨Z,Z,C::F,λw h=>h.bg 5 [2] Z,F,Z,by unfold iL;rw[if_pos (.inr (.inr (by simp at d;omega)))],Z⟩
 rintro _ _ ⟨N,rfl,rfl⟩;have arX:n≤8:=by simp at N;omega
 obtain⟨X,hX⟩:∃X,X=EN n (b.drop 24):=⟨_,Z⟩;have B:iL b=VB b X:=by
  unfold iL;rw[if_neg (by rintro (h | h | h);omega;exact h (by simpa using aog);omega),←hn,hX]
 have Q:X=none→iL b=none:=λh=>by rw[B,h];rfl
 refine aj "crR" ?_;refine WC.loop (σ:=Nat×(Option Addr×Nat×Nat)×List Nat×List yP×(Option Addr×Nat)) (λs=>[(1,ptr bm 0),(2,ptr R 0),(35,.i (n:Int)),(36,.i (s.1:Int))])
  (λs=>ah R 212 [.slice s.2.1.1 s.2.1.2.1 s.2.1.2.2]::C::ah bm 42 [.i ((sP (b.drop 4):Nat):Int),.i ((sP (b.drop 8):Nat):Int),.i ((sP (b.drop 12):Nat):Int),.i ((sP (b.drop 16):Nat):Int),.slice s.2.2.2.2.1 s.1 s.2.2.2.2.2]::aV (.slice s.2.2.2.2.1 s.1 s.2.2.2.2.2) 140 34 s.1 (s.2.2.2.1.flatMap yP.cells)::F)
  (λs=>s.1≤n∧Sl.Seq K F s.2.1.1 s.2.1.2.1 1 (av .u8 s.2.2.1)∧s.2.1.2.1≤s.2.1.2.2∧s.2.2.2.1.length=s.1∧(∀x∈s.2.2.2.1,x.Ok)∧aA 256 s.2.2.1∧X=(EN (n-s.1) s.2.2.1).map (λp=>(s.2.2.2.1++p.1,p.2))) (λs=>n-s.1)
  (0,(_,_,_),b.drop 24,[],(none,0)) ⟨zero_le _,sV,Dw,Z,λx r=>by (cases r),qX,by dsimp only;rw[hX,Nat.sub_zero];cases EN n (b.drop 24)<;>rfl⟩ bC (λw h=>((h.bg 5 [0,2,4] Z).gI 140 34).bg 4 [1,2,3,0] Z) ?_
 rintro⟨i,⟨Ar,mr,cr⟩,rest,acc,⟨As,ca⟩⟩ ⟨hi,Wv,JJ,hal,hao,tu,wu⟩;dsimp only at hi Wv JJ hal hao tu wu ⊢;have pG:rest.length=mr:=by have :=Wv.len;rwa [au,Nat.mul_one] at this
 refine aj "VJ" (aW (λW=> ?_) λW=> ?_)
 ·simp only[cZ] at W;rw[show n-i=n-(i+1)+1 by omega,EN] at wu;have e:mr<40→iL b=none:=λh=>Q (by rw[wu,if_pos ay];rfl);refine aj "Eav" λL=> ?_;refine aj "ce~9" ?_;refine WL.jG (vs:=[_]) call140 ⟨ak Z,trivial⟩ (iV Wv.up.up.up.up tu JJ) Z ?_ ?_
  ·rintro _ ⟨d,rfl⟩;exact⟨Z,Z,C::F,λw h=>h.bg 4 [1] Z,F,Z,e ay,Z⟩
  rintro _ _ ⟨y,rfl,rfl⟩;have Dq:=Seq.OJ Wv y JJ;refine WL.mv Z Z<|WL.jG (vs:=[_]) call140 ⟨ak Z,trivial⟩ (iV Dq.up.up.up.up (aA.K8 tu) (Nat.sub_le_sub_right JJ 4)) Z ?_ ?_
  ·rintro _ ⟨d,rfl⟩;exact⟨Z,Z,C::F,λw h=>h.bg 4 [1] Z,F,Z,e ay,Z⟩
  rintro _ _ ⟨O,rfl,rfl⟩;have EB:=Seq.OJ Dq O (Nat.sub_le_sub_right JJ 4);rw[drop_drop] at EB;refine aj "X" ?_;refine WL.store (cs:=[_]) sizeOf3 (ak Z) (ak Z) Z Z Z (by repeat (first | exact bT.here (cs':=[_,_,_,_,_,_,_,_,_,_,_,_,_,_,_,_,_,_,_,_,_,_,_,_,_,_,_,_,_,_,_,_,_,_]) Z Z | apply bT.up))<|aj "X~oG" ?_;have M7:mr-4-4≤cr-4-4:=Nat.sub_le_sub_right (Nat.sub_le_sub_right JJ 4) 4;rcases Nat.lt_or_ge (mr-4-4) 32 with G | G
  ·refine WC.MO (by kernel_rfl)<|WA.two (i:=0) (j:=2) cO (by kernel_rfl) Z Z ?_ ?_
   ·refine WL.val (V.fieldAddr Mj (ak Z)) Z (WL.nil ?_);refine WA.two (i:=1) (j:=2) cO (by kernel_rfl) Z Z ?_ ?_
    ·refine WL.val (V.aG (v':= .slice (some ⟨L,2,none⟩) 32 32) (V.qM (l:=0) (h:=32) (u:=32) (m:=32) zJ (ak Z) OO.none OO.none OO.none (by simp) aN aN aN) (λ_=>by simp)) Z (WL.nil ?_);refine WA.o 2 Z ?_;refine WL.mv Z Z (WL.nil ?_);refine WA.o 3 Z ?_;exact WL.jG (vs:=[_,_]) call139 ⟨ak Z,ak Z,trivial⟩ (iJ (n:=32) M7) Z (λH' a=>by obtain⟨_,rfl⟩:=a;exact⟨Z,Z,C::F,λw h=>h.bg 4 [1] Z,F,Z,e ay,Z⟩) (λv H' a=>absurd a.1 ay)
    ·refine WL.mv Z Z (WL.nil ?_);refine WA.two (i:=1) (j:=3) cO (by kernel_rfl) Z Z ?_ ?_
     ·refine WL.val (V.aG (v':= .slice (some ⟨L,2,none⟩) 32 32) (V.qM (l:=0) (h:=32) (u:=32) (m:=32) zJ (ak Z) OO.none OO.none OO.none (by simp) aN aN aN) (λ_=>by simp)) Z (WL.nil ?_);refine WA.o 3 Z ?_;exact WL.jG (vs:=[_,_]) call139 ⟨ak Z,ak Z,trivial⟩ (iJ (n:=32) M7) Z (λH' a=>by obtain⟨_,rfl⟩:=a;exact⟨Z,Z,C::F,λw h=>h.bg 4 [1] Z,F,Z,e ay,Z⟩) (λv H' a=>absurd a.1 ay)
     ·exact WL.jG (vs:=[_,_]) call139 ⟨ak Z,ak Z,trivial⟩ (iJ (n:=32) M7) Z (λH' a=>by obtain⟨_,rfl⟩:=a;exact⟨Z,Z,C::F,λw h=>h.bg 4 [1] Z,F,Z,e ay,Z⟩) (λv H' a=>absurd a.1 ay)
   ·refine WL.mv Z Z (WL.nil ?_);refine WA.two (i:=0) (j:=3) cO (by kernel_rfl) Z Z ?_ ?_
    ·refine WL.val (V.fieldAddr Mj (ak Z)) Z (WL.nil ?_);refine WA.two (i:=1) (j:=3) cO (by kernel_rfl) Z Z ?_ ?_
     ·refine WL.val (V.aG (v':= .slice (some ⟨L,2,none⟩) 32 32) (V.qM (l:=0) (h:=32) (u:=32) (m:=32) zJ (ak Z) OO.none OO.none OO.none (by simp) aN aN aN) (λ_=>by simp)) Z (WL.nil ?_);refine WA.o 3 Z ?_;exact WL.jG (vs:=[_,_]) call139 ⟨ak Z,ak Z,trivial⟩ (iJ (n:=32) M7) Z (λH' a=>by obtain⟨_,rfl⟩:=a;exact⟨Z,Z,C::F,λw h=>h.bg 4 [1] Z,F,Z,e ay,Z⟩) (λv H' a=>absurd a.1 ay)
     ·exact WL.jG (vs:=[_,_]) call139 ⟨ak Z,ak Z,trivial⟩ (iJ (n:=32) M7) Z (λH' a=>by obtain⟨_,rfl⟩:=a;exact⟨Z,Z,C::F,λw h=>h.bg 4 [1] Z,F,Z,e ay,Z⟩) (λv H' a=>absurd a.1 ay)
    ·exact WL.jG (vs:=[_,_]) call139 ⟨ak Z,ak Z,trivial⟩ (iJ (n:=32) M7) Z (λH' a=>by obtain⟨_,rfl⟩:=a;exact⟨Z,Z,C::F,λw h=>h.bg 4 [1] Z,F,Z,e ay,Z⟩) (λv H' a=>absurd a.1 ay)
  refine WC.noP<|WC.dM (C::ah bm 42 [.i ((sP (b.drop 4):Nat):Int),.i ((sP (b.drop 8):Nat):Int),.i ((sP (b.drop 12):Nat):Int),.i ((sP (b.drop 16):Nat):Int),.slice As i ca]::aV (.slice As i ca) 140 34 i (acc.flatMap yP.cells)::F) (by kernel_rfl)<|aj "40" ?_;refine WA.t 1 Z (V.aG (v':= .slice (some ⟨L,2,none⟩) 32 32) (V.qM (l:=0) (h:=32) (u:=32) (m:=32) zJ (ak Z) OO.none OO.none OO.none (by simp) aN aN aN) (λ_=>by simp)) ?_;refine aj "n2m3" ?_;refine WL.c2 call139 Z Z ((iJ (n:=32) M7).aoK (λH' a=>absurd a.1 ay)) Z ?_;rintro _ _ ⟨_,rfl,rfl⟩;have J:=EB.take G;rw[dU] at J;have Mc:=Seq.OJ EB G M7;rw[drop_drop] at Mc;obtain⟨s,UN⟩:∃s,s=yP.mk ((sP rest:Nat):Int) ((sP (rest.drop 4):Nat):Int) ((rest.drop 8).take 32):=⟨_,Z⟩;have UU:s.Ok:=by rw[UN];exact⟨by show ((rest.drop 8).take 32).length=32;rw[length_take,length_drop];omega,λx r=>tu x (mem_of_mem_drop (mem_of_mem_take r))⟩
  have mR:=yP.dB UU;have agk:((rest.drop 8).take 32).length=32:=by rw[length_take,length_drop];omega
  refine aj "cm4" ?_;refine WL.agd (q:=32) (news:=av .u8 ((rest.drop 8).take 32)) (H':=ah R 212 [.slice _ _ _]::ah L 140 s.cells::C::ah bm 42 [.i ((sP (b.drop 4):Nat):Int),.i ((sP (b.drop 8):Nat):Int),.i ((sP (b.drop 12):Nat):Int),.i ((sP (b.drop 16):Nat):Int),.slice As i ca]::aV (.slice As i ca) 140 34 i (acc.flatMap yP.cells)::F) dO (ak Z) (ak Z) J.up.up.up.up.up (Nat.le_refl _) (jB _ _) (bT.up (bT.here (by rw[au,agk];rfl) (by rw[mD _ _ _ (by rw[au,agk];exact le_of_ble_eq_true Z),au,agk,UN];simp[yP.cells,oU]))) Z<|aj "*pX" ?_;refine WL.val (V.load (v:= .slice As i ca) isAgg40 (ak Z) (λ_=>lD)) Z<|WL.val (V.fE (vs:=s.cells) ⟨isAgg140,sizeOf140⟩ (ak Z) mR (λ_=>fH.up (fH.all))) Z<|WL.buildSlice (E:=140) (cs:=s.cells) (vs:=[(0,.agg s.cells.toArray)]) ⟨ak Z,trivial⟩ Z (adK s.cells mR) Z (λx2=>aj "~~J" ?_);refine WL.append (m:=i) (q:=1) (news:=s.cells) underlying40 aj1 (ak Z) (ak Z) (Seq.all (by rw[mR])) (by simpa using yP.one s) ay Z Z (λU P aq2 ar4=>aj "X~oc8" ?_);refine⟨(i+1,(_,_,_),rest.drop 40,acc++[s],(U,P)),⟨by show i+1≤n;omega,Mc,Nat.sub_le_sub_right M7 32,by simp[hal],λx r=> ?_,λx r=>tu x (mem_of_mem_drop r), ?_⟩,(by show n-(i+1)<n-i;omega),.cons Z bC,λw h=> ?_⟩
  ·rcases mem_append.1 r with h | h
   ·exact hao x h
   ·rw[mem_singleton.1 h];exact UU
  ·rw[if_neg ay] at wu;rw[wu,←UN];cases EN (n-(i+1)) (rest.drop 40) with
   | none=>rfl
   | some p=>simp
  ·have h2:=h.bg 6 [2,4,5,0] Z;simp only[flatMap_append,flatMap_cons,flatMap_nil,append_nil];exact h2
 ·simp only[cZ] at W;refine aj "W" ?_;obtain rfl:i=n:=by omega
  rw[Nat.sub_self,EN] at wu;have I:X=some (acc,rest):=by rw[wu];simp
  subst hal;refine aj "gU" ?_;refine WL.val (V.load (v:= .slice Ar mr cr) isAgg34 (ak Z) (λ_=>Rd.here Z)) Z<|aj "j;" ?_;refine WL.jG (vs:=[_]) call138 ⟨ak Z,trivial⟩ (qF _) Z ?_ ?_
  ·rintro _ ⟨d,rfl⟩;exact⟨Z,Z,C::F,λw h=>h.bg 4 [1] Z,F,Z,by
    rw[B,I];cases rest with
    | nil=>simp at pG;subst pG;simp at d
    | cons _ _=>rfl,Z⟩
  rintro _ _ ⟨d,rfl,rfl⟩;have KC:rest=[]:=eq_nil_of_length_eq_zero (by simp at d;omega);rw[I,KC,VB] at B;refine aj "cpy" ?_;refine WL.jG (vs:=[_]) call141 ⟨ak Z,trivial⟩ (Xz (M:=⟨(sP (b.drop 4):Nat),(sP (b.drop 8):Nat),(sP (b.drop 12):Nat),(sP (b.drop 16):Nat),acc⟩) (A:=As) (m:=acc.length) ⟨(aV.seq (by rw[rV acc (λx r=>yP.dB (hao x r))])).up.up.up,Z,hao⟩ ay) Z ?_ ?_
  ·rintro _ ⟨d,rfl⟩;exact⟨Z,Z,C::F,λw h=>h.bg 4 [1] Z,F,Z,by rw[B,if_neg (by rw[d];decide)],Z⟩
  rintro _ _ ⟨d,rfl,rfl⟩;rw[if_pos d] at B;refine WL.nil ?_;exact⟨Z,_,C::ah bm 42 (sI.cells ⟨(sP (b.drop 4):Nat),(sP (b.drop 8):Nat),(sP (b.drop 12):Nat),(sP (b.drop 16):Nat),acc⟩ As ca)::aV (.slice As acc.length ca) 140 34 acc.length (acc.flatMap yP.cells)::F,bJ.none Z,λw h=>h.bg 4 [1,2,3] Z,_,Z,⟨(sP (b.drop 4):Nat),(sP (b.drop 8):Nat),(sP (b.drop 12):Nat),(sP (b.drop 16):Nat),acc⟩,As,ca,aV (.slice As acc.length ca) 140 34 acc.length (acc.flatMap yP.cells),B,λH=>⟨by show Sl.Seq K _ As acc.length 34 _;exact aV.seq (by rw[rV acc (λx r=>yP.dB (hao x r))]),Z,hao⟩,Z⟩
theorem aV.room(h:Sat K w (aV (.slice A m cap) E s m cs::H)):m≤cap:=by
 obtain⟨j,a,b,d,_⟩:=aV.shape h.head;injection b with _ _ e
 omega
theorem Um(hs:Seq K F A m 1 (av .u8 b))(h8:aA 256 b)(hc:m≤c)(hM:iL b=none) :
 aK prog 80 #[.slice A m c] K F (.tuple #[.agg (sI.zero.cells none 0).toArray,.i 4]):=by
 refine aB.en func80 ntmps80 ?_;refine aj "a~k" λd=> ?_;refine aj "v" λl=> ?_;refine aj "wv" λe=> ?_;refine aj "Q~~i~~m" ?_;refine WL.c1 call136 Z (LA (cap:=[ptr d 0,ptr e 0]) call137 (λC=>U4 hs.up h8 hc C)) Z ?_;rintro _ _ (⟨rfl,M,u,r,E,a,j,rfl⟩ | ⟨rfl,a,rfl⟩)
 ·rw[hM] at a;cases a
 refine aj "f9c3a^Cd" ?_;exact aF.ret (H':=F) (rA Z Z ⟨isAgg42,sizeOf42⟩ Z) (λw h=>h.tail) ⟨Z,Z⟩
theorem TY(hs:Seq K F A m 1 (av .u8 b))(h8:aA 256 b)(hc:m≤c)(hM:iL b=some M) :
 aB prog 80 #[.slice A m c] K F (λv H'=>∃A' c' E,v= .tuple #[.agg (M.cells A' c').toArray,.i 0]∧(∀H,JR K (E::H) A' M.gH.length M.gH)∧H'=E::F):=by
 refine aB.en func80 ntmps80 ?_;refine aj "a~k" λe=> ?_;refine aj "v" λr=> ?_;refine aj "wv" λj=> ?_;refine aj "Q~~i~~m" ?_;refine WL.c1 call136 Z (LA (cap:=[ptr e 0,ptr j 0]) call137 (λC=>U4 hs.up h8 hc C)) Z ?_;rintro _ _ (⟨rfl,l,A',c',E,a,d,rfl⟩ | ⟨rfl,a,rfl⟩)
 rotate_left
 ·rw[hM] at a;cases a
 rw[hM,Option.some.injEq] at a;subst a;refine aj "f927yCd" ?_;exact aF.ret (H':=E::F) (bJ.two Z (R1.jQ (vs:=M.cells A' c') Z ⟨isAgg42,sizeOf42⟩ Z tN) (R1.tmp Z)) (λw h=>h.bg 3 [1] Z) ⟨A',c',E,Z,d,Z⟩
def I7(b:List Nat):Int:=if (iL b).isSome then 0 else 4
theorem Xy(hs:Seq K F A m 1 (av .u8 b))(h8:aA 256 b)(hc:m≤c) :
 aB prog 80 #[.slice A m c] K F (λv H'=>∃A' c' E,v= .tuple #[.agg (((iL b).getD .zero).cells A' c').toArray,.i (I7 b)]∧(∀H,JR K (E::H) A' ((iL b).getD .zero).gH.length ((iL b).getD .zero).gH)∧H'=E::F):=by
 unfold I7;cases hM:iL b with
 | none =>
  intro w d;refine (Um hs h8 hc hM w d).mono ?_;rintro e r ⟨v,H',j,a,rfl,rfl⟩;exact⟨_,bK []::H',j,Sat.all (l:=[]) a,none,0,bK [],Z,λH=>⟨⟨Z,λi v h=>by simp[sI.zero] at h⟩,Z,λs hs=>by cases hs⟩,rfl⟩
 | some M=>exact TY hs h8 hc hM
theorem WU(hs:Seq K F A m 1 (av .u8 b))(hm:m≤1000000)(hc:m≤c) :
 aB prog 78 #[.slice A m c] K F (λv H'=>(m<64∧v= .tuple #[.slice none 0 0,.slice none 0 0,.i 4]∧H'=F) ∨
  (64≤m∧∃A1 c1 A2 c2,(m-64≤c1∧64≤c2)∧v= .tuple #[.slice A1 (m-64) c1,.slice A2 64 c2,.i 0]∧H'=aV (.slice A1 (m-64) c1) 5 1 (m-64) (av .u8 (b.take (m-64)))::aV (.slice A2 64 c2) 5 1 64 (av .u8 (b.drop (m-64)))::F)):=by
 have d:b.length=m:=by have :=hs.len;rwa [au,Nat.mul_one] at this
 refine aB.en func78 ntmps78 ?_;refine aj "allij)fPh" (aW (λa=> ?_) λa=> ?_)
 ·simp only[cZ] at a;refine aj "alF" ?_;exact aF.ret (H':=F) (bJ.Bl Z Z Z Z) cO (.inl ⟨by omega,Z,Z⟩)
 ·simp only[cZ] at a;have Wt:64≤m:=ay;have uM:=hs.take (show m-64≤m by omega);rw[dU] at uM;have pI:=Seq.rD hs (l:=m-64) (h:=m) (u:=c) ay (Nat.le_refl _) hc;rw[take_of_length_le (by rw[length_drop];omega),show m-(m-64)=64 by omega] at pI;refine aj "|~Xn0n1" ?_;refine WA.t 2 Z (V.aG (v':= .slice A (m-64) c) (V.slice (m:=m) (cap:=c) (l:=0) (h:=m-64) (u:=c) dO (ak Z) OO.none (OO.some (ak Z) (λ_=>by omega)) OO.none (by simp) ay ay ay) (λ_=>by rw[zK,Nat.sub_zero,Nat.sub_zero])) ?_;refine aj "n4n5" ?_;refine WA.t 6 Z (V.aG (v':= .slice (if c=m-64 then A else A.map (·.add ((m-64)*1))) 64 (c-(m-64))) (V.slice (m:=m) (cap:=c) (l:=m-64) (h:=m) (u:=c) dO (ak Z) (OO.some (ak Z) (λ_=>by omega)) OO.none OO.none (by simp) ay ay ay) (λ_=>by congr 1;omega)) ?_;refine WA.o 3 Z ?_;refine WL.c1 call125 Z (lY (by repeat (first | exact uM | apply Seq.up)) ay) Z ?_;rintro _ _ ⟨A1,c1,rfl,rfl⟩;refine WL.lG (λw h=>aV.room h) (λaQ=>aj "cm7" ?_);refine WL.c1 call125 Z (lY (by repeat (first | exact pI | apply Seq.up)) ay) Z ?_;rintro _ _ ⟨A2,c2,rfl,rfl⟩;refine WL.lG (λw h=>aV.room h) (λbA=>aj "c~A8~A9~A:~r~J" ?_);exact aF.ret (H':=aV (.slice A1 (m-64) c1) 5 1 (m-64) (av .u8 (b.take (m-64)))::aV (.slice A2 64 c2) 5 1 64 (av .u8 (b.drop (m-64)))::F) (bJ.Bl Z Z Z Z) (λw h=>h.bg 2 [1,0] Z) (.inr ⟨Wt,A1,c1,A2,c2,⟨aQ,bA⟩,Z,Z⟩)
def Lp(P:Program)(K:World):List (Nat×List Value)→List aH→(Int→List aH→Prop)→Prop
 | [],H,post=>post 0 H
 | q::l,H,post=>bP P q.1∧∀C,aB P q.1 q.2.toArray K (C::H) (λv H'=>∃(e:Int) (H2:List aH),v= .int .i64 e∧(∀w,Sat K w H'→Sat K w (C::H2))∧((e≠0∧post e H2)∨(e=0∧Lp P K l H2 post)))
theorem QL(hl:l.length=m)(hm:m≤1000)(h:Lp prog K l H post) :
 aB prog 74 #[.slice (some ⟨b,0,none⟩) m m] K (ah b 132 (l.map λq=> .func (.func q.1) #[] q.2.toArray)::H) (λv H'=>∃(e:Int) (H2:List aH),v= .i e∧post e H2∧H'=ah b 132 (l.map λq=> .func (.func q.1) #[] q.2.toArray)::H2):=by
 obtain⟨C,j⟩:∃C,C=ah b 132 (l.map λq=> .func (.func q.1) #[] q.2.toArray):=⟨_,Z⟩;rw[←j];refine aB.en func74 ntmps74 ?_;refine aj "afjR" ?_;refine WC.loop (σ:=Nat×List aH) (λs=>[(6,.slice (some ⟨b,0,none⟩) m m),(7,.i (m:Int)),(8,.i (s.1:Int))]) (λs=>C::s.2) (λs=>s.1≤m∧Lp prog K (l.drop s.1) s.2 post) (λs=>m-s.1) (0,H) ⟨zero_le _,h⟩ bC cO ?_;rintro⟨i,G⟩ ⟨hi,hq⟩;dsimp only at hi hq ⊢;refine aj "VJ" (aW (λd=> ?_) λd=> ?_)
 ·simp only[cZ] at d;obtain⟨q,Dn⟩:∃q,l[i]? =some q:=⟨_,getElem?_eq_getElem ay⟩;have kr:Rd K (C::G) (some ⟨b,i,none⟩) (.func (.func q.1) #[] q.2.toArray):=by rw[j];exact Rd.here (by rw[getElem?_map,Dn];rfl)
  rw[show l.drop i=q::l.drop (i+1) from (List.getElem?_eq_some_iff.1 Dn).2 ▸ drop_eq_getElem_cons _,Lp] at hq;refine aj "Ea" ?_;refine WL.val (V.aG (v':=ptr b i) (V.FW aj0 (ak Z) (ak Z) (λ_=>by omega)) (λ_=>by simp[ptr])) Z<|WL.val (V.load isAgg132 (ak Z) (λ_=>kr)) Z<|aj "i" ?_;refine WL.ny (first:=[]) (captured:=q.2) (vs:=[]) hq.1 (ak Z) trivial (hq.2 C) Z ?_;rintro _ _ ⟨e,H2,rfl,amO,wI⟩;refine WL.sub (Sub.refl _) amO<|aj "iuh" (aW (λa=> ?_) λa=> ?_)
  ·simp only[oK] at a;obtain⟨_,ak2⟩:=wI.resolve_right (λh=>a h.1);refine aj "ed" ?_;exact qR (C::H2) Z Z cO ⟨e,H2,Z,ak2,Z⟩
  ·simp only[oK] at a;obtain⟨_,Wm⟩:=wI.resolve_left (λh=>h.1 ay);refine aj "q8" ?_;exact⟨(i+1,H2),⟨by show i+1≤m;omega,Wm⟩,(by show m-(i+1)<m-i;omega),.cons Z bC,λw h=>h⟩
 ·simp only[cZ] at d;refine aj "W" ?_;rw[drop_of_length_le ay,Lp] at hq;refine aj "pd" ?_;exact qR (C::G) Z Z cO ⟨0,G,Z,hq,Z⟩
theorem afY(kr:Rd K F (some ⟨b,0,none⟩) (.slice A m c))(hr:Ring K F A m ring):aB prog 75 #[ptr b 0] K F (λv H'=>∃E,v= .i (if j6 ring then 0 else 1)∧H'=E::F):=by
 refine aB.en func75 ntmps75 ?_;refine aj "aw" ?_;refine WL.val (V.load (v:= .slice A m c) isAgg24 (ak Z) (λ_=>kr)) Z<|WL.c1 call76 Z (Uy hr) Z ?_;rintro _ _ ⟨d,e,a,E,rfl,rfl⟩;refine aj "5id" ?_;exact qR (E::F) Z Z cO ⟨E,Z,Z⟩
theorem afW(kr:Rd K F (some ⟨b,0,none⟩) (.slice S q cs))(hs:Seq K F S q 1 (av .u8 sd))(hq:q≤1000000)(hc:q≤cs) :
 aB prog 77 #[ptr b 0,ptr b1 0,ptr b2 0] K (ah b1 34 [x]::ah b2 34 [y]::F) (λv H'=>(q<64∧v= .i 4∧H'=ah b1 34 [.slice none 0 0]::ah b2 34 [.slice none 0 0]::F) ∨
  (64≤q∧∃A1 c1 A2 c2,(q-64≤c1∧64≤c2)∧v= .i 0∧H'=ah b1 34 [.slice A1 (q-64) c1]::ah b2 34 [.slice A2 64 c2]::aV (.slice A1 (q-64) c1) 5 1 (q-64) (av .u8 (sd.take (q-64)))::aV (.slice A2 64 c2) 5 1 64 (av .u8 (sd.drop (q-64)))::F)):=by
 refine aB.en func77 ntmps77 ?_;refine aj "aw" ?_;refine WL.val (V.load (v:= .slice S q cs) isAgg34 (ak Z) (λ_=>kr.up.up)) Z<|WL.c1 call78 Z (WU (b:=sd) hs.up.up hq hc) Z ?_;rintro _ _ (⟨Wt,rfl,rfl⟩ | ⟨Wt,A1,c1,A2,c2,Dw,rfl,rfl⟩);all_goals
  refine aj "5~M~o~oid" ?_;first
  | exact qR (ah b1 34 [.slice none 0 0]::ah b2 34 [.slice none 0 0]::F) Z Z cO (.inl ⟨Wt,Z,Z⟩)
  | exact aF.ret (H':=ah b1 34 [.slice A1 (q-64) c1]::ah b2 34 [.slice A2 64 c2]::aV (.slice A1 (q-64) c1) 5 1 (q-64) (av .u8 (sd.take (q-64)))::aV (.slice A2 64 c2) 5 1 64 (av .u8 (sd.drop (q-64)))::F) (bJ.tmp Z Z) (λw h=>h.bg 4 [2,3,0,1] Z) (.inr ⟨Wt,A1,c1,A2,c2,Dw,Z,Z⟩)
theorem ahi{x1:Int}(kr:Rd K F (some ⟨b,0,none⟩) (.slice A m c))(hs:Seq K F A m 1 (av .u8 bd))(h8:aA 256 bd)(hc:m≤c) :
 aB prog 79 #[ptr b 0,ptr bm 0] K (ah bm 42 [.i x0,.i x1,.i x2,.i x3,x4]::F) (λv H'=>∃A' c' E,v= .i (I7 bd)∧(∀H,JR K (E::H) A' ((iL bd).getD .zero).gH.length ((iL bd).getD .zero).gH)∧H'=ah bm 42 (((iL bd).getD .zero).cells A' c')::E::F):=by
 refine aB.en func79 ntmps79 ?_;refine aj "aw" ?_;refine WL.val (V.load (v:= .slice A m c) isAgg34 (ak Z) (λ_=>kr.up)) Z<|WL.c1 call80 Z (Xy (b:=bd) hs.up h8 hc) Z ?_;rintro _ _ ⟨A',c',E,rfl,a,rfl⟩;obtain⟨M,d⟩:∃M,M=(iL bd).getD .zero:=⟨_,Z⟩;rw[←d] at a ⊢;refine aj "5~Lid" ?_;exact qR (ah bm 42 (M.cells A' c')::E::F) Z Z (λw h=>h.bg 2 [1,0] Z) ⟨A',c',E,Z,a,Z⟩
theorem ahn(hz:z.length=32)(kr:Rd K F (some ⟨b,0,none⟩) (.slice A m c))(hkn:Rd K F (some ⟨bm,2,none⟩) (.i n))(hr:Ring K F A m ring) :
 aB prog 81 #[ptr b 0,ptr bm 0,ptr bk 0] K (ah bk 97 (av .u8 z)::F) (λv H'=>v= .i (q9 ring n).2∧H'=ah bk 97 (av .u8 (q9 ring n).1)::F):=by
 have vX:(q9 ring n).1.length=32:=by
  unfold q9;split
  ·split
   ·rename_i k d;split
    ·rfl
    ·exact (hr.ok k (mem_of_find?_eq_some d)).len
   ·rfl
  ·rfl
 obtain⟨Y,a⟩:∃Y,Y=q9 ring n:=⟨_,Z⟩;rw[←a] at vX ⊢;refine aB.en func81 ntmps81 ?_;refine aj "aw" ?_;refine WL.val (V.load (v:= .slice A m c) isAgg24 (ak Z) (λ_=>kr.up)) Z<|aj "X" ?_;refine WL.val (V.load (v:= .i n) isAgg3 (ak Z) (λ_=>hkn.up)) Z<|WL.t2 call82 Z Z ((Xl n hr.up).eq (v':= .tuple #[.agg (av .u8 Y.1).toArray,.i Y.2]) (by rw[a])) Z<|aP "5Aid" ?_;exact qR (ah bk 97 (av .u8 Y.1)::F) Z Z cO ⟨Z,Z⟩
theorem af2(hk:key.length=32)(hk8:aA 256 key)(hrk:fH K F bk 0 (av .u8 key))(RN:Rd K F (some ⟨bb,0,none⟩) (.slice A q cq))(tu:Rd K F (some ⟨bs,0,none⟩) (.slice A2 64 cs))
 (hb:Seq K F A q 1 (av .u8 bd)) (hb8:aA 256 bd) (hq:q≤1000000) (hs:Seq K F A2 64 1 (av .u8 sg)) (hs8:aA 256 sg) (qX:64≤cs) :
 aK prog 83 #[ptr bk 0,ptr bb 0,ptr bs 0] K F (.i (if kE (vl 256 key) bd (vl 256 (sg.take 32)) (vl 256 (sg.drop 32)) then 0 else 191)):=by
 have agt:vl 256 key<256^32:=hk ▸ nH hk8;have j:o8 (vl 256 key)= .agg (av .u8 key).toArray:=by unfold o8;rw[ng hk8 hk]
 obtain⟨X,l⟩:∃X,X=Ub (vl 256 key) bd (vl 256 (sg.take 32)) (vl 256 (sg.drop 32)):=⟨_,Z⟩;have a:=l ▸ aem (pub:=vl 256 key) (msg:=bd) (r:=vl 256 (sg.take 32)) (s:=vl 256 (sg.drop 32));obtain⟨b,m⟩:∃b,b=kE (vl 256 key) bd (vl 256 (sg.take 32)) (vl 256 (sg.drop 32)):=⟨_,Z⟩;rw[←m] at a ⊢;refine aB.en func83 ntmps83 ?_;refine aj "ata" ?_;refine WL.val (V.fE (vs:=av .u8 key) ⟨isAgg97,sizeOf97⟩ (ak Z) (by rw[au,hk]) (λ_=>hrk)) Z<|WL.val (V.load (v:= .slice A q cq) isAgg34 (ak Z) (λ_=>RN)) Z<|WL.val (V.load (v:= .slice A2 64 cs) isAgg34 (ak Z) (λ_=>tu)) Z<|WL.t3 call84 Z Z Z (by have h:=WK (cap:=cq) (cap2:=cs) agt hb hb8 ay hs hs8 qX;rw[j,←l] at h;exact h) Z<|aj "uh" (aW (λd=> ?_) λd=> ?_)
 ·simp only[oK] at d;have e:b=false:=Bool.eq_false_iff.2 λh=>d (by rw[a.2 h];rfl);refine aj "D" ?_;exact qR F Z Z cO ⟨by rw[e];rfl,Z⟩
 ·simp only[oK] at d;have e:b=true:=a.1 ay;refine aj "qD" ?_;exact qR F Z Z cO ⟨by rw[e];rfl,Z⟩
theorem agQ(hrm:Rd K F (some ⟨bm,1,none⟩) (.i s))(hrf:Rd K F (some ⟨bf,0,none⟩) (.i f)) :
 aK prog 85 #[ptr bm 0,ptr bf 0] K F (.i (if s<f then 230 else 0)):=by
 refine aB.en func85 ntmps85 ?_;refine aj "ataX" ?_;refine WL.val (V.load (v:= .i s) isAgg3 (ak Z) (λ_=>hrm)) Z<|WL.val (V.load (v:= .i f) isAgg3 (ak Z) (λ_=>hrf)) Z<|aj "Ph" (aW (λa=> ?_) λa=> ?_)
 ·simp only[cZ] at a;refine aj "D" ?_;exact qR F Z Z cO ⟨by rw[if_pos a],Z⟩
 ·simp only[cZ] at a;refine aj "qD" ?_;exact qR F Z Z cO ⟨by rw[if_neg a],Z⟩
def Dl(K:World)(b6 b8:Nat)(R:sI×Int)(F:List aH)(e:Int)(H2:List aH):Prop :=
 e=R.2∧∃x0 x1 x2 x3 A' n' c' E,H2=ah b6 42 [.i 0,.i 0,.i 0,.i 0,.slice none 0 0]::ah b8 42 [.i x0,.i x1,.i x2,.i x3,.slice A' n' c']::E::F∧(e≠0→R.1= .zero)∧(e=0→R.1.ver=x0∧R.1.sec=x1∧R.1.key=x2∧R.1.yS=x3∧R.1.gH.length=n'∧∀H,JR K (E::H) A' n' R.1.gH)
theorem Dl.err{x1:Int}(hR:R=(.zero,e))(he:e≠0):Dl K b6 b8 R F e (ah b6 42 [.i 0,.i 0,.i 0,.i 0,.slice none 0 0]::ah b8 42 [.i x0,.i x1,.i x2,.i x3,.slice A' n' c']::E::F) :=
 ⟨by rw[hR],x0,x1,x2,x3,A',n',c',E,Z,λ_=>by rw[hR],λh=>absurd h he⟩
theorem YG(hr:Ring K F A m ring)(hs:Seq K F S q 1 (av .u8 sd))(h8:aA 256 sd)(hq:q≤1000000)(hc:q≤cs) :
 Lp prog K [(75,[ptr b3 0]),(77,[ptr b5 0,ptr b9 0,ptr b10 0]),(79,[ptr b9 0,ptr b8 0]),(81,[ptr b3 0,ptr b8 0,ptr b11 0]),(83,[ptr b11 0,ptr b9 0,ptr b10 0]),(85,[ptr b8 0,ptr b4 0])]
  (ah b11 97 (av .u8 (replicate 32 0))::ah b10 34 [.slice none 0 0]::ah b9 34 [.slice none 0 0]::ah b8 42 [.i 0,.i 0,.i 0,.i 0,.slice none 0 0]::ah b6 42 [.i 0,.i 0,.i 0,.i 0,.slice none 0 0]::ah b5 34 [.slice S q cs]::ah b4 3 [.i aO]::ah b3 24 [.slice A m c]::F) (Dl K b6 b8 (eT ring aO sd) F):=by
 have mR:sd.length=q:=by have :=hs.len;rwa [au,Nat.mul_one] at this
 refine⟨call75,λC=>(afY (A:=A) (m:=m) (c:=c) (ring:=ring) lD (by repeat (first | exact hr | apply Ring.up))).mono ?_⟩;rintro _ _ ⟨Q,rfl,rfl⟩;cases h1:j6 ring with
 | false=>exact⟨_,ah b6 42 [.int .i64 0,.int .i64 0,.int .i64 0,.int .i64 0,.slice none 0 0]::ah b8 42 [.int .i64 0,.int .i64 0,.int .i64 0,.int .i64 0,.slice none 0 0]::ah b3 24 [.slice A m c]::F,Z,λw h=>h.bg 10 [1,6,5,9] Z,.inl ⟨by decide,Dl.err (by unfold eT;rw[if_pos h1];rfl) aN⟩⟩
 | true =>
 refine⟨_,ah b11 97 (av .u8 (replicate 32 0))::ah b10 34 [.slice none 0 0]::ah b9 34 [.slice none 0 0]::ah b8 42 [.i 0,.i 0,.i 0,.i 0,.slice none 0 0]::ah b6 42 [.i 0,.i 0,.i 0,.i 0,.slice none 0 0]::ah b5 34 [.slice S q cs]::ah b4 3 [.i aO]::ah b3 24 [.slice A m c]::F,Z,λw h=>h.tail,.inr ⟨Z, ?_⟩⟩;refine⟨call77,λC=>aB.mono (aB.sat (afW (F:=C::ah b11 97 (av .u8 (replicate 32 0))::ah b8 42 [.i 0,.i 0,.i 0,.i 0,.slice none 0 0]::ah b6 42 [.i 0,.i 0,.i 0,.i 0,.slice none 0 0]::ah b5 34 [.slice S q cs]::ah b4 3 [.i aO]::ah b3 24 [.slice A m c]::F) (b:=b5) (b1:=b9) (b2:=b10) (x:= .slice none 0 0) (y:= .slice none 0 0) (S:=S) (cs:=cs) (sd:=sd) lD hs.up.up.up.up.up.up.up hq hc) (λw h=>h.bg 9 [3,2,0,1,4,5,6,7,8] Z)) ?_⟩;rintro _ _ (⟨Wt,rfl,rfl⟩ | ⟨Wt,a,c1,A2,c2,⟨aQ,bA⟩,rfl,rfl⟩)
 ·exact⟨_,ah b6 42 [.i 0,.i 0,.i 0,.i 0,.slice none 0 0]::ah b8 42 [.i 0,.i 0,.i 0,.i 0,.slice none 0 0]::ah b3 24 [.slice A m c]::F,Z,λw h=>h.bg 9 [2,5,4,8] Z,.inl ⟨by decide,Dl.err (by unfold eT;rw[if_neg (by rw[h1];decide),if_pos ay]) aN⟩⟩
 refine⟨_,ah b9 34 [.slice a (q-64) c1]::ah b10 34 [.slice A2 64 c2]::aV (.slice a (q-64) c1) 5 1 (q-64) (av .u8 (sd.take (q-64)))::aV (.slice A2 64 c2) 5 1 64 (av .u8 (sd.drop (q-64)))::ah b11 97 (av .u8 (replicate 32 0))::ah b8 42 [.i 0,.i 0,.i 0,.i 0,.slice none 0 0]::ah b6 42 [.i 0,.i 0,.i 0,.i 0,.slice none 0 0]::ah b4 3 [.i aO]::ah b3 24 [.slice A m c]::F,Z,λw h=>h.bg 11 [4,0,1,2,3,5,6,7,9,10] Z,.inr ⟨Z, ?_⟩⟩;have RY:(sd.take (q-64)).length=q-64:=by rw[length_take];omega
 have O:(sd.drop (q-64)).length=64:=by rw[length_drop];omega
 have B:∀H,Sl.Seq K (aV (.slice a (q-64) c1) 5 1 (q-64) (av .u8 (sd.take (q-64)))::H) a (q-64) 1 (av .u8 (sd.take (q-64))):=λH=>aV.seq (by rw[au,RY,Nat.mul_one]);have GL:∀H,Sl.Seq K (aV (.slice A2 64 c2) 5 1 64 (av .u8 (sd.drop (q-64)))::H) A2 64 1 (av .u8 (sd.drop (q-64))):=λH=>aV.seq (by rw[au,O]);have u:aA 256 (sd.take (q-64)):=λx L=>h8 x (mem_of_mem_take L);have N:aA 256 (sd.drop (q-64)):=λx L=>h8 x (mem_of_mem_drop L);refine⟨call79,λC=>aB.mono (aB.sat (ahi (F:=C::ah b9 34 [.slice a (q-64) c1]::ah b10 34 [.slice A2 64 c2]::aV (.slice a (q-64) c1) 5 1 (q-64) (av .u8 (sd.take (q-64)))::aV (.slice A2 64 c2) 5 1 64 (av .u8 (sd.drop (q-64)))::ah b11 97 (av .u8 (replicate 32 0))::ah b6 42 [.i 0,.i 0,.i 0,.i 0,.slice none 0 0]::ah b4 3 [.i aO]::ah b3 24 [.slice A m c]::F) (b:=b9) (bm:=b8) (x0:=0) (x1:=0) (x2:=0) (x3:=0) (x4:= .slice none 0 0) (A:=a) (m:=q-64) (c:=c1) (bd:=sd.take (q-64)) (Rd.here Z).up (B _).up.up.up u aQ) (λw h=>h.bg 10 [6,0,1,2,3,4,5,7,8,9] Z)) ?_⟩;rintro _ _ ⟨j,d,e,rfl,P,rfl⟩;have wD:eT ring aO sd=IX ring aO (sd.take (q-64)) (sd.drop (q-64)) (iL (sd.take (q-64))):=by
  unfold eT;rw[if_neg (by rw[h1];decide),if_neg ay,mR]
 cases hM:iL (sd.take (q-64)) with
 | none =>
  rw[hM] at wD;exact⟨_,ah b6 42 [.i 0,.i 0,.i 0,.i 0,.slice none 0 0]::ah b8 42 (sI.zero.cells j d)::e::F,Z,λw h=>h.bg 11 [2,8,0,1] Z,.inl ⟨by unfold I7;rw[hM];decide,Dl.err (by rw[wD];unfold I7;rw[hM];rfl) (by unfold I7;rw[hM];decide)⟩⟩
 | some M =>
 rw[hM,IX] at wD;rw[hM] at P;refine⟨_,ah b11 97 (av .u8 (replicate 32 0))::ah b8 42 (M.cells j d)::e::ah b9 34 [.slice a (q-64) c1]::ah b10 34 [.slice A2 64 c2]::aV (.slice a (q-64) c1) 5 1 (q-64) (av .u8 (sd.take (q-64)))::aV (.slice A2 64 c2) 5 1 64 (av .u8 (sd.drop (q-64)))::ah b6 42 [.i 0,.i 0,.i 0,.i 0,.slice none 0 0]::ah b4 3 [.i aO]::ah b3 24 [.slice A m c]::F,Z,λw h=>h.bg 11 [2,7,0,1,3,4,5,6,8,9,10] Z,.inr ⟨by unfold I7;rw[hM];rfl, ?_⟩⟩;have vX:(q9 ring M.key).1.length=32∧aA 256 (q9 ring M.key).1:=adO hr.ok _;refine⟨call81,λC=>aB.mono (aB.sat (ahn (F:=C::ah b8 42 (M.cells j d)::e::ah b9 34 [.slice a (q-64) c1]::ah b10 34 [.slice A2 64 c2]::aV (.slice a (q-64) c1) 5 1 (q-64) (av .u8 (sd.take (q-64)))::aV (.slice A2 64 c2) 5 1 64 (av .u8 (sd.drop (q-64)))::ah b6 42 [.i 0,.i 0,.i 0,.i 0,.slice none 0 0]::ah b4 3 [.i aO]::ah b3 24 [.slice A m c]::F) (b:=b3) (bm:=b8) (bk:=b11) (n:=M.key) (z:=replicate 32 0) (A:=A) (m:=m) (c:=c) (ring:=ring) Z lD (Rd.here Z).up hr.up.up.up.up.up.up.up.up.up.up) (λw h=>h.bg 2 [1,0] Z)) ?_⟩;rintro _ _ ⟨rfl,rfl⟩;obtain⟨r,I⟩:∃r,r=q9 ring M.key:=⟨_,Z⟩;rw[←I] at vX wD ⊢;by_cases l:r.2=0
 rotate_left
 ·exact⟨_,ah b6 42 [.i 0,.i 0,.i 0,.i 0,.slice none 0 0]::ah b8 42 (M.cells j d)::e::F,Z,λw h=>h.bg 11 [1,8,2,3] Z,.inl ⟨l,Dl.err (by rw[wD,if_pos l]) l⟩⟩
 rw[if_neg (λh=>h l)] at wD;refine⟨_,ah b11 97 (av .u8 r.1)::ah b8 42 (M.cells j d)::e::ah b9 34 [.slice a (q-64) c1]::ah b10 34 [.slice A2 64 c2]::aV (.slice a (q-64) c1) 5 1 (q-64) (av .u8 (sd.take (q-64)))::aV (.slice A2 64 c2) 5 1 64 (av .u8 (sd.drop (q-64)))::ah b6 42 [.i 0,.i 0,.i 0,.i 0,.slice none 0 0]::ah b4 3 [.i aO]::F,Z,λw h=>h.bg 11 [1,0,2,3,4,5,6,7,8,9] Z,.inr ⟨l, ?_⟩⟩;refine⟨call83,λC=>(af2 (F:=C::ah b11 97 (av .u8 r.1)::ah b8 42 (M.cells j d)::e::ah b9 34 [.slice a (q-64) c1]::ah b10 34 [.slice A2 64 c2]::aV (.slice a (q-64) c1) 5 1 (q-64) (av .u8 (sd.take (q-64)))::aV (.slice A2 64 c2) 5 1 64 (av .u8 (sd.drop (q-64)))::ah b6 42 [.i 0,.i 0,.i 0,.i 0,.slice none 0 0]::ah b4 3 [.i aO]::F) (bk:=b11) (bb:=b9) (bs:=b10) (A:=a) (q:=q-64) (cq:=c1) (A2:=A2) (cs:=c2) (key:=r.1) (bd:=sd.take (q-64)) (sg:=sd.drop (q-64)) vX.1 vX.2 (fH.up fH.all) lD lD (B _).up.up.up.up.up.up u ay (GL _).up.up.up.up.up.up.up N bA).mono ?_⟩;rintro _ _ ⟨rfl,rfl⟩;obtain⟨G,J⟩:∃G,G=kE (vl 256 r.1) (sd.take (q-64)) (vl 256 ((sd.drop (q-64)).take 32)) (vl 256 ((sd.drop (q-64)).drop 32)):=⟨_,Z⟩;rw[←J] at wD ⊢;cases G with
 | false=>exact⟨_,ah b6 42 [.int .i64 0,.int .i64 0,.int .i64 0,.int .i64 0,.slice none 0 0]::ah b8 42 (M.cells j d)::e::F,Z,λw h=>h.bg 10 [0,8,2,3] Z,.inl ⟨by decide,Dl.err (by rw[wD,if_pos Z];rfl) aN⟩⟩
 | true =>
 rw[if_neg aN] at wD;refine⟨_,ah b8 42 (M.cells j d)::e::ah b6 42 [.i 0,.i 0,.i 0,.i 0,.slice none 0 0]::ah b4 3 [.i aO]::F,Z,λw h=>h.bg 10 [0,2,3,8,9] Z,.inr ⟨Z, ?_⟩⟩;refine⟨call85,λC=>(agQ (F:=C::ah b8 42 (M.cells j d)::e::ah b6 42 [.i 0,.i 0,.i 0,.i 0,.slice none 0 0]::ah b4 3 [.i aO]::F) (bm:=b8) (bf:=b4) (s:=M.sec) (f:=aO) (Rd.here Z).up (Rd.here Z).up.up.up.up).mono ?_⟩;rintro _ _ ⟨rfl,rfl⟩;by_cases Zo:M.sec<aO
 ·exact⟨_,ah b6 42 [.i 0,.i 0,.i 0,.i 0,.slice none 0 0]::ah b8 42 (M.cells j d)::e::F,Z,λw h=>h.bg 5 [0,3,1,2] Z,.inl ⟨by rw[if_pos Zo];decide,Dl.err (by rw[wD,if_pos Zo,if_pos Zo]) (by rw[if_pos Zo];decide)⟩⟩
 ·rw[if_neg Zo] at wD;exact⟨_,ah b6 42 [.i 0,.i 0,.i 0,.i 0,.slice none 0 0]::ah b8 42 (M.cells j d)::e::F,Z,λw h=>h.bg 5 [0,3,1,2] Z,.inr ⟨by rw[if_neg Zo],by rw[wD];exact⟨Z,M.ver,M.sec,M.key,M.yS,j,M.gH.length,d,e,Z,λh=>absurd Z h,λ_=>⟨Z,Z,Z,Z,Z,P⟩⟩⟩⟩
theorem ahj(c1 c2 c3 c4 c5 c6:Array Value)(w:World):(Instr.buildSlice 206 6 [(0,.func (.func 75) #[] c1),(1,.func (.func 77) #[] c2),(2,.func (.func 79) #[] c3),(3,.func (.func 81) #[] c4),(4,.func (.func 83) #[] c5),(5,.func (.func 85) #[] c6)].toArray).run prog w= .ok (.slice (some ⟨w.heap.size,0,none⟩) 6 6) (w.alloc (.cells [.func (.func 75) #[] c1,.func (.func 77) #[] c2,.func (.func 79) #[] c3,.func (.func 81) #[] c4,.func (.func 83) #[] c5,.func (.func 85) #[] c6].toArray 132)):=by kernel_rfl
theorem AO(hr:Ring K F A m ring)(hs:Seq K F S q 1 (av .u8 sd))(h8:aA 256 sd)(hq:q≤1000000)(hc:q≤cs) :
 aB prog 20 #[.slice A m c,.i aO,.slice S q cs] K F (λv H'=>∃A' c' E,v= .tuple #[.agg ((eT ring aO sd).1.cells A' c').toArray,.i (eT ring aO sd).2]∧(∀H,JR K (E::H) A' (eT ring aO sd).1.gH.length (eT ring aO sd).1.gH)∧H'=E::F):=by
 obtain⟨R,b⟩:∃R,R=eT ring aO sd:=⟨_,Z⟩;rw[←b];refine aB.en func20 ntmps20 ?_;refine aj "a~k" λN=> ?_;refine aj "~k" λI=> ?_;refine aj "~k" λW=> ?_;refine aj "v" λJ=> ?_;refine aj "wv" λL=> ?_;refine aj "Qv" λO=> ?_;refine aj "v" λB=> ?_;refine aj "Qv" λr=> ?_;refine aj "Q~2~~~h~~i~~~h~~~h~~i" ?_;refine WL.buildSlice (E:=132) (cs:=[_,_,_,_,_,_]) (vs:=[(0,_),(1,_),(2,_),(3,_),(4,_),(5,_)]) ⟨ak Z,ak Z,ak Z,ak Z,ak Z,ak Z,trivial⟩ Z (ahj _ _ _ _ _ _) Z (λu=>WL.c1 call74 Z (QL (m:=6) Z aN (YG hr hs h8 hq hc)) Z ?_);rw[←b];rintro _ _ ⟨e,M,rfl,⟨y,P,x1,U,Q,A',G,c',E,rfl,d,jh⟩,rfl⟩;subst y;refine aj "fuh" (aW (λa=> ?_) λa=> ?_)
 ·simp only[oK] at a;refine aj "a^bCd" ?_;exact aF.ret (H':=bK []::F) (rA Z Z ⟨isAgg42,sizeOf42⟩ Z) (λw h=>Sat.all (l:=[]) (h.bg 4 [] Z)) ⟨none,0,bK [],by rw[d a];rfl,λH=>by rw[d a];exact⟨⟨Z,λi v j=>by simp[sI.zero] at j⟩,Z,λs hs=>by cases hs⟩,rfl⟩
 ·simp only[oK] at a;refine aj "|" ?_;have Kv:R.2=0:=ay;obtain⟨rfl,rfl,rfl,rfl,rfl,aoT⟩:=jh Kv;refine aj "pyCd" ?_;exact aF.ret (H':=E::F) (bJ.two Z (R1.jQ (vs:=R.1.cells A' c') Z ⟨isAgg42,sizeOf42⟩ Z tN) (R1.tmp Z)) (λw h=>h.bg 4 [3] Z) ⟨A',c',E,by rw[Kv],aoT,Z⟩
structure La where
 slot:Int
 yS:Int
 sec:Int
 jS:List (Int×List Nat)
def La.zero:La:=⟨0,0,0,[]⟩
abbrev La.cells(l:La)(A:Option Addr)(c:Nat)(err:Int):List Value:=[.i l.slot,.i l.yS,.i l.sec,.slice A l.jS.length c,.i err]
def EO:List yP→List (List Nat)→Bool
 | s::l,d::ds=> !(!decide ((d.length:Int)=s.bytes)|| !decide (sum256 d=s.bG))&&EO l ds
 | _,_=>true
theorem Xi(d:List (List Nat)):EO [] d=true:=by cases d<;>rfl
def yC(l:List yP)(ds:List (List Nat)):List (Int×List Nat):=(l.zip ds).map λp=>(p.1.load,p.2)
def kW(r:List Ky)(aO:Int)(sd:List Nat)(ds:List (List Nat)):La×Int :=
 if (eT r aO sd).2≠0 then (.zero,(eT r aO sd).2) else
 if ds.length≠(eT r aO sd).1.gH.length then (.zero,231) else
 if EO (eT r aO sd).1.gH ds then (⟨0,(eT r aO sd).1.yS,(eT r aO sd).1.sec,yC (eT r aO sd).1.gH ds⟩,0) else (.zero,231)
abbrev VA(p:Int×Bs):List Value:=[.i p.1,p.2.v]
def clA(p:Int×Bs):aH:=aV p.2.v 5 1 p.2.m (av .u8 p.2.l)
structure kD(K:World)(F:List aH)(A:Option Addr)(ps:List (Int×Bs)):Prop where
 seq:Seq K F A ps.length 2 (ps.flatMap VA)
 ok:∀p∈ps,Seq K F p.2.A p.2.m 1 (av .u8 p.2.l)
structure ajm(K:World)(F:List aH)(D:Option Addr)(k:Nat)(ds:List Bs):Prop where
 seq:Seq K F D k 1 (ds.map Bs.v)
 ok:∀p∈ds,Seq K F p.A p.m 1 (av .u8 p.l)∧aA 256 p.l∧p.m≤1000000
theorem ajm.up{K:World}{F:List aH}{D:Option Addr}{k:Nat}{ds:List Bs}{C:aH}(h:ajm K F D k ds):ajm K (C::F) D k ds:=⟨h.seq.up,λp a=>⟨(h.ok p a).1.up,(h.ok p a).2⟩⟩
theorem uz(hA:C∈l)(h:Seq K [C] B m s vs):Seq K (bK l::H) B m s vs:=⟨h.len,λi v a=>Rd.xM hA (h.rd i v a)⟩
theorem FB(hr:Ring K F A m ring)(hs:Seq K F S q 1 (av .u8 sd))(h8:aA 256 sd)(hq:q≤1000000)(hc:q≤cs)(hd:ajm K F D k ds)(hk:k≤1000000) :
 aB prog 105 #[.slice A m c,.i aO,.slice S q cs,.slice D k kd] K F (λv H'=>∃A' c' ps E,v= .tuple #[.agg ((kW ring aO sd (ds.map Bs.l)).1.cells A' c' 0).toArray,.i (kW ring aO sd (ds.map Bs.l)).2]∧(kW ring aO sd (ds.map Bs.l)).1.jS=ps.map (λp=>(p.1,p.2.l))∧(∀H,kD K (E::H) A' ps)∧H'=E::F):=by
 have vX:ds.length=k:=by have :=hd.seq.len;rwa [length_map,Nat.mul_one] at this
 obtain⟨R,hR⟩:∃R,R=eT ring aO sd:=⟨_,Z⟩;obtain⟨X,a⟩:∃X,X=kW ring aO sd (ds.map Bs.l):=⟨_,Z⟩;have hz:∀e,X=(.zero,e)→∃A' c' ps E,Value.tuple #[.agg (La.zero.cells none 0 0).toArray,.i e]= .tuple #[.agg (X.1.cells A' c' 0).toArray,.i X.2]∧X.1.jS=ps.map (λp:Int×Bs=>(p.1,p.2.l))∧(∀H,kD K (E::H) A' ps)∧bK []::F=E::F:=λe he=>⟨none,0,[],bK [],by rw[he],by rw[he];rfl,λH=>⟨⟨Z,λi v hi=>by simp at hi⟩,λp Q=>by cases Q⟩,rfl⟩;unfold kW at a;rw[←hR] at a;have x5:=a;unfold kW;rw[←hR,←a];refine aB.en func105 ntmps105 ?_;refine aj "av" λb8=> ?_;refine aj "ix" ?_;refine WL.c3 call20 Z Z Z (AO (aO:=aO) hr.up hs.up h8 hq hc) Z ?_;rintro _ _ ⟨As,ca,E,rfl,hE,rfl⟩;rw[←hR] at hE ⊢;refine aj "5v" λx6=> ?_;refine aj "Cfuh" (aW (λh0=> ?_) λh0=> ?_)
 ·simp only[oK] at h0;rw[if_pos h0] at a;refine aj "a^bCd" ?_;exact aF.ret (H':=bK []::F) (rA Z Z ⟨isAgg37,sizeOf37⟩ Z) (λw h=>Sat.all (l:=[]) (h.bg 3 [] Z)) (hz _ a)
 ·simp only[oK] at h0;rw[if_neg (λh=>h h0)] at a;refine aj "qrjkjuh" (aW (λh1=> ?_) λh1=> ?_)
  ·simp only[oK] at h1;rw[if_pos (by rw[length_map];omega)] at a;refine aj "a^Cd" ?_;exact aF.ret (H':=bK []::F) (rA Z Z ⟨isAgg37,sizeOf37⟩ Z) (λw h=>Sat.all (l:=[]) (h.bg 3 [] Z)) (hz _ a)
  ·simp only[oK] at h1;rw[if_neg (by rw[length_map];omega)] at a;refine aj "7kk" ?_;refine WL.val (V.build (vs:=[(1,_),(2,_)]) ⟨ak Z,ak Z,trivial⟩ Z (WX _ _)) Z<|aj "v" λx0=> ?_;refine aj "CGakjR" ?_;obtain⟨n,hn⟩:∃n,n=R.1.gH.length:=⟨_,Z⟩;rw[←hn] at h1 ⊢;have x4:k=n:=ay;obtain⟨P,W⟩:∃P,P=EO R.1.gH (ds.map Bs.l):=⟨_,Z⟩;rw[←W] at a;have x2:(yC R.1.gH (ds.map Bs.l)).length=n:=by unfold yC;rw[length_map,length_zip,length_map];omega
   have M:∀H,JR K (E::H) As n R.1.gH:=by rw[hn];exact hE
   refine WC.loop (σ:=Nat×Option Addr×Nat×List (Int×Bs)) (λs=>[(3,.slice D k kd),(8,ptr b8 0),(12,ptr x0 0),(39,.slice As n ca),(40,.i (n:Int)),(41,.i (s.1:Int))])
    (λs=>ah x0 37 [.i 0,.i R.1.yS,.i R.1.sec,.slice s.2.1 s.1 s.2.2.1,.i 0]::aV (.slice s.2.1 s.1 s.2.2.1) 118 2 s.1 (s.2.2.2.flatMap VA)::bK (s.2.2.2.reverse.map clA)::E::ah b8 37 [.i 0,.i 0,.i 0,.slice none 0 0,.i 0]::F)
    (λs=>s.1≤n∧s.2.2.2.length=s.1∧s.2.2.2.map (λp=>(p.1,p.2.l))=(yC R.1.gH (ds.map Bs.l)).take s.1∧(∀p∈s.2.2.2,p.2.l.length=p.2.m)∧EO (R.1.gH.drop s.1) ((ds.map Bs.l).drop s.1)=P) (λs=>n-s.1)
    (0,none,0,[]) ⟨zero_le _,Z,Z,λp Q=>by (cases Q),W.symm⟩ bC (λw h=>((Sat.all (l:=[]) (h.bg 4 [0,2,3] rfl)).gI 118 2).bg 4 [2,0,1,3] rfl) ?_
   rintro⟨i,A',c',ps⟩ ⟨hi,l7,Bw,hpw,hq3⟩;dsimp only at hi l7 Bw hpw hq3 ⊢;refine aj "VJ" (aW (λI=> ?_) λI=> ?_)
   ·simp only[cZ] at I;obtain⟨s,ZJ⟩:∃s,R.1.gH[i]? =some s:=⟨_,getElem?_eq_getElem ay⟩;obtain⟨p,N⟩:∃p,ds[i]? =some p:=⟨_,getElem?_eq_getElem ay⟩;have UU:=(M []).ok s (mem_of_getElem? ZJ);have mR:=yP.dB UU;obtain⟨qY,V4,asT⟩:=hd.ok p (mem_of_getElem? N);have adj:p.l.length=p.m:=by have :=qY.len;rwa [au,Nat.mul_one] at this
    have r:Rd K F (D.map (·.add ((i:Int).toNat*1))) p.v:=by rw[Int.toNat_natCast,Nat.mul_one];exact hd.seq.rd i _ (by rw[getElem?_map,N];rfl)
    have uX:(ds.map Bs.l)[i]? =some p.l:=by rw[getElem?_map,N];rfl
    have JD:(!(!decide ((p.m:Int)=s.bytes)|| !decide (sum256 p.l=s.bG))&&EO (R.1.gH.drop (i+1)) ((ds.map Bs.l).drop (i+1)))=P:=by
     rw[←hq3,show R.1.gH.drop i=s::R.1.gH.drop (i+1) from (List.getElem?_eq_some_iff.1 ZJ).2 ▸ drop_eq_getElem_cons _,show (ds.map Bs.l).drop i=p.l::(ds.map Bs.l).drop (i+1) from (List.getElem?_eq_some_iff.1 uX).2 ▸ drop_eq_getElem_cons _,EO,adj]
    have Zw:(yC R.1.gH (ds.map Bs.l))[i]? =some (s.load,p.l):=by unfold yC;rw[getElem?_map,(getElem?_zip_eq_some (z:=(s,p.l))).2 ⟨ZJ,uX⟩];rfl
    obtain⟨O,L⟩:∃O,O=sum256 p.l:=⟨_,Z⟩;have anE:O.length=32:=by rw[L];exact JB _
    rw[←L] at JD;refine aj "Y" ?_;refine WL.val (V.dw (v:= .i s.load) akq (ak Z) (ak Z) (λ_=>by omega) (λ_=>by rw[Int.toNat_natCast];exact ((M _).rd ZJ 0 _ Z).up.up.up)) Z ?_;rw[Int.toNat_natCast];refine WL.val (V.tX (vs:=s.cells) ⟨isAgg140,sizeOf140⟩ (ak Z) mR aN (λ_ j v hj=>((M _).rd ZJ j v hj).up.up.up)) Z<|aj "v" λx3=> ?_;refine WL.sg Z Z<|WL.store (cs:=s.cells) sizeOf140 (ak Z) (ak Z) Z mR (yP.one s) (bT.whole (by rw[mR];rfl))<|aj "GL~i$$" ?_;refine WQ.val (V.dw (v:=p.v) adb (ak Z) (ak Z) (λ_=>by omega) (λ_=>by repeat (first | exact r | apply Rd.up))) Z<|WQ.val (V.load (v:=p.v) isAgg34 (ak Z) (λ_=>by repeat (first | exact r | apply Rd.up))) Z<|aj "~~W~t" ?_;refine WQ.val (V.load (v:= .i s.bytes) isAgg3 (ak Z) (λ_=>Rd.here Z)) Z<|WQ.val (V.neq (ak Z) (ak Z)) Z (aj "$~~a~~a" ?_);refine WQ.bI (oj:=_) Z Z Z GC.f (V.dw (v:=p.v) adb (OV.g Z id) (OV.g Z id) (λ_=>by omega) (λ_=>by repeat (first | exact r | apply Rd.up))) Z<|WQ.bI (oj:=_) Z Z Z GC.f (V.load (v:=p.v) isAgg34 (OV.g Z id) (λ_=>by repeat (first | exact r | apply Rd.up))) Z<|WQ.nL (oj:=_) (vs:=[_]) Z Z Z GC.f call174 ⟨OV.g Z id,trivial⟩ (λhg=>(T9 (m:=p.m) (cap:=p.cap) (A:=p.A) (data:=p.l) (by repeat (first | exact qY | apply Seq.up)) V4 ay).eq (v':= .agg (av .u8 O).toArray) (by rw[L])) Z<|aj "~~5" ?_;refine WQ.bI (oj:=_) Z Z Z GC.f (V.fE (vs:=av .u8 s.bG) ⟨isAgg97,sizeOf97⟩ (OV.g Z id) (by rw[au,UU.len]) (λ_=>fH.here (prefix_rfl))) Z<|WQ.bI (oj:=_) Z Z Z GC.f (V.Qc (by kernel_rfl) (OV.g Z id) (OV.g Z id) (iW.av underlying97 sizeOf5 isAgg5 underlying5 anE UU.len)) Z<|aj "~~M~dJ" (aW (λh3=> ?_) λh3=> ?_)
    ·have UR:P=false:=by rw[←JD,show (!decide ((p.m:Int)=s.bytes)|| !decide (O=s.bG))=true from by simpa using h3];rfl
     rw[UR,if_neg aN] at a;refine aj "a^~Ld" ?_;exact aF.ret (H':=bK []::F) (rA Z Z ⟨isAgg37,sizeOf37⟩ Z) (λw h=>Sat.all (l:=[]) (h.bg 6 [] Z)) (hz _ a)
    ·have UR:EO (R.1.gH.drop (i+1)) ((ds.map Bs.l).drop (i+1))=P:=by rw[←JD,show (!decide ((p.m:Int)=s.bytes)|| !decide (O=s.bG))=false from by simpa using h3];rfl
     refine WC.skip<|WC.sub (Sub.refl _) (λw h=>h.bg 4 [1,2,3,0] Z)<|WC.dM (ah x3 140 s.cells::E::ah b8 37 [.i 0,.i 0,.i 0,.slice none 0 0,.i 0]::F) (by kernel_rfl)<|aj "4042" ?_;refine WA.t 3 Z (V.load (v:= .i s.load) isAgg3 (ak Z) (λ_=>Rd.here Z)) ?_;refine aj "n4n5" ?_;refine WA.t 6 Z (V.dw (v:=p.v) adb (ak Z) (ak Z) (λ_=>by omega) (λ_=>by repeat (first | exact r | apply Rd.up))) ?_;refine WA.t 7 Z (V.load (v:=p.v) isAgg34 (ak Z) (λ_=>by repeat (first | exact r | apply Rd.up))) ?_;refine WA.two (i:=1) (j:=8) eO (by kernel_rfl) Z Z ?_ ?_
     ·refine WL.val (V.load (v:= .slice A' i c') isAgg35 (ak Z) (λ_=>lD)) Z<|aj "cm8" ?_;refine WL.c1 call125 Z (lY (by repeat (first | exact qY | apply Seq.up)) ay) Z ?_;rintro _ _ ⟨d,b,rfl,rfl⟩;refine WL.nil (WA.t 9 Z (V.build (vs:=[(0,_),(1,_)]) ⟨ak Z,ak Z,trivial⟩ Z (Iu _ _ _ _)) ?_);refine WA.o 10 Z ?_;refine WL.buildSlice (E:=118) (cs:=[_,_]) (vs:=[(0,_)]) ⟨ak Z,trivial⟩ Z (El _ _) Z (λY=> ?_);refine aj "cm;~~P" ?_;refine WL.append (m:=i) (q:=1) (news:=VA (s.load,⟨d,p.m,b,p.l⟩)) underlying35 ace (ak Z) (ak Z) (Seq.all Z) (by intro u J;simp only[VA,mem_cons,not_mem_nil,or_false] at J;rcases J with rfl | rfl<;>rfl) ay Z Z (λy B ai6 ajn=>aj "c4<m=~o*8" ?_);refine⟨(i+1,y,B,ps++[(s.load,⟨d,p.m,b,p.l⟩)]),⟨by show i+1≤n;omega,by simp[l7], ?_,λU BA=> ?_,UR⟩,(by show n-(i+1)<n-i;omega),.cons Z bC,λw h=> ?_⟩
      ·rw[map_append,Bw,take_add_one,Zw];rfl
      ·rcases mem_append.1 BA with G | G
       ·exact hpw U G
       ·rw[mem_singleton.1 G];exact adj
      ·have I:=((h.bg 8 [2,4,3,0,6,7] Z).Bc).bg 5 [1,2,0,3,4] Z;simp only[flatMap_append,flatMap_cons,flatMap_nil,append_nil,reverse_append,reverse_cons,reverse_nil,nil_append,cons_append,map_cons];exact I
     ·refine WL.c1 call125 Z (lY (by repeat (first | exact qY | apply Seq.up)) ay) Z ?_;rintro _ _ ⟨d,b,rfl,rfl⟩;refine WL.nil (WA.t 9 Z (V.build (vs:=[(0,_),(1,_)]) ⟨ak Z,ak Z,trivial⟩ Z (Iu _ _ _ _)) ?_);refine WA.two (i:=1) (j:=10) eO (by kernel_rfl) Z Z ?_ ?_
      ·refine WL.val (V.load (v:= .slice A' i c') isAgg35 (ak Z) (λ_=>lD)) Z<|aj "cm:" ?_;refine WL.buildSlice (E:=118) (cs:=[_,_]) (vs:=[(0,_)]) ⟨ak Z,trivial⟩ Z (El _ _) Z (λY=> ?_);refine aj "cm;~~P" ?_;refine WL.append (m:=i) (q:=1) (news:=VA (s.load,⟨d,p.m,b,p.l⟩)) underlying35 ace (ak Z) (ak Z) (Seq.all Z) (by intro u J;simp only[VA,mem_cons,not_mem_nil,or_false] at J;rcases J with rfl | rfl<;>rfl) ay Z Z (λy B ai6 ajn=>aj "c4<m=~o*8" ?_);refine⟨(i+1,y,B,ps++[(s.load,⟨d,p.m,b,p.l⟩)]),⟨by show i+1≤n;omega,by simp[l7], ?_,λU BA=> ?_,UR⟩,(by show n-(i+1)<n-i;omega),.cons Z bC,λw h=> ?_⟩
       ·rw[map_append,Bw,take_add_one,Zw];rfl
       ·rcases mem_append.1 BA with G | G
        ·exact hpw U G
        ·rw[mem_singleton.1 G];exact adj
       ·have I:=((h.bg 8 [2,4,3,0,6,7] Z).Bc).bg 5 [1,2,0,3,4] Z;simp only[flatMap_append,flatMap_cons,flatMap_nil,append_nil,reverse_append,reverse_cons,reverse_nil,nil_append,cons_append,map_cons];exact I
      ·refine WL.buildSlice (E:=118) (cs:=[_,_]) (vs:=[(0,_)]) ⟨ak Z,trivial⟩ Z (El _ _) Z (λY=>aj "cm1" ?_);refine WL.val (V.load (v:= .slice A' i c') isAgg35 (ak Z) (λ_=>lD)) Z<|aj "cm;~~P" ?_;refine WL.append (m:=i) (q:=1) (news:=VA (s.load,⟨d,p.m,b,p.l⟩)) underlying35 ace (ak Z) (ak Z) (Seq.all Z) (by intro u J;simp only[VA,mem_cons,not_mem_nil,or_false] at J;rcases J with rfl | rfl<;>rfl) ay Z Z (λy B ai6 ajn=>aj "c4<m=~o*8" ?_);refine⟨(i+1,y,B,ps++[(s.load,⟨d,p.m,b,p.l⟩)]),⟨by show i+1≤n;omega,by simp[l7], ?_,λU BA=> ?_,UR⟩,(by show n-(i+1)<n-i;omega),.cons Z bC,λw h=> ?_⟩
       ·rw[map_append,Bw,take_add_one,Zw];rfl
       ·rcases mem_append.1 BA with G | G
        ·exact hpw U G
        ·rw[mem_singleton.1 G];exact adj
       ·have I:=((h.bg 8 [2,4,3,0,6,7] Z).Bc).bg 5 [1,2,0,3,4] Z;simp only[flatMap_append,flatMap_cons,flatMap_nil,append_nil,reverse_append,reverse_cons,reverse_nil,nil_append,cons_append,map_cons];exact I
   ·simp only[cZ] at I;refine aj "W" ?_;obtain rfl:i=n:=by omega
    rw[drop_of_length_le ay,Xi] at hq3;rw[←hq3,if_pos Z] at a;rw[take_of_length_le ay] at Bw;refine aj "py~Ld" ?_;exact aF.ret (H':=bK [aV (.slice A' i c') 118 2 i (ps.flatMap VA),bK (ps.reverse.map clA)]::F) (rA Z Z ⟨isAgg37,sizeOf37⟩ Z) (λw h=>Sat.all (l:=[_,_]) (h.bg 5 [1,2] Z)) ⟨A',c',ps,_,by rw[a];show _=Value.tuple #[.agg #[_,_,_,.slice A' (yC _ _).length c',_],_];rw[x2],by rw[a];exact Bw.symm,λH=>⟨by rw[l7];exact uz (.head _) (aV.seq (by rw[rV (s:=2) (f:=VA) ps (λx _=>Z),l7])),λp Q=>uz (.tail _ (.head _)) (uz (C:=clA p) (mem_map.2 ⟨p,mem_reverse.2 Q,Z⟩) (aV.seq (by rw[au,hpw p Q,Nat.mul_one])))⟩,Z⟩
theorem _root_.Go.Sl.aK.perm{P:Program}{K:World}{F F':List aH}{f:FuncId}{args:Array Value}{u:Value}(h:aK P f args K F' u)(h1:∀w,Sat K w F→Sat K w F')(h2:∀w,Sat K w F'→Sat K w F):aK P f args K F u :=
 aB.afS (aB.sat h h1) λv d ⟨b,a⟩=>⟨F,by rw[a];exact h2,b,Z⟩
theorem _root_.Go.Sl.aK.mem{P:Program}{K:World}{A:aH}{H:List aH}{f:FuncId}{args:Array Value}{u:Value}(h:∀F,aK P f args K (A::F) u)(hm:A∈H):aK P f args K H u:=by
 obtain⟨s,t,rfl⟩:=List.append_of_mem hm;exact aK.perm (h (s++t)) (λw a=>Sat.afD perm_middle a) (λw a=>Sat.afD perm_middle.symm a)
theorem E5{α:Type}{f:α→List Value}{s:Nat}:∀(l:List α) (hf:∀x∈l,(f x).length=s) (k i:Nat) (x y:α) (v:Value),l[k]? =some x→i<s→f y=(f x).set i v→(l.flatMap f).set (k*s+i) v=(l.set k y).flatMap f
 | [],_,k,i,x,y,v,h,_,_=>by simp at h
 | z::l,hf,0,i,x,y,v,h,hi,hy=>by
  simp only[getElem?_cons_zero,Option.some.injEq] at h;subst h;rw[set_cons_zero,flatMap_cons,flatMap_cons,Nat.zero_mul,Nat.zero_add,set_append,if_pos (by rw[hf z (.head _)];exact hi),hy]
 | z::l,hf,k+1,i,x,y,v,h,hi,hy=>by
  have ih:=E5 l (λz a=>hf z (.tail _ a)) k i x y v (by simpa using h) hi hy;have a:=hf z (.head _);rw[set_cons_succ,flatMap_cons,flatMap_cons,set_append,if_neg (by rw[a,succ_mul];omega),a,←ih];congr 2;rw[succ_mul];omega
theorem bT.slS{K:World}{H:List aH}{gb o m s cap E:Nat}{cs:List Value}{v:Value}(ho:o<m*s):bT K (aV (.slice (some ⟨gb,0,none⟩) m cap) E s m cs::H) gb o [v] (aV (.slice (some ⟨gb,0,none⟩) m cap) E s m (cs.set o v)::H):=by
 have nS:∀w:World,RA w w:=λw=>⟨Z,Z,Z,Nat.le_refl _⟩;refine⟨λI Y7 k u=> ?_,⟨_,.head _,Z⟩,λw a=> ?_,λw a=> ?_⟩
 ·rcases mem_cons.1 Y7 with rfl | h
  ·exact⟨_,.head _,u⟩
  ·exact⟨_,.tail _ h,u⟩
 ·obtain⟨r,⟨j,B,e,l⟩,d⟩:=Sat.nU (K:=w) ⟨nS w,a⟩;exact (bT.at_ (K:=w) (T:=E) (cs:=cs++r) (v:=v) (by rw[length_append];omega)).may w d.2
 ·obtain⟨r,⟨j,B,e,l⟩,d⟩:=Sat.nU (K:=w) ⟨nS w,a⟩;have G:=(bT.at_ (K:=w) (H:=H) (b:=gb) (T:=E) (o:=o) (cs:=cs++r) (v:=v) (by rw[length_append];omega)).sat w d.2;have y:=Sat.BX (K:=w.setCells gb o [v]) (s:=s) (m:=m) (cap:=cap) ⟨nS _,G⟩ (by rw[length_set];exact j) e l;rw[set_append_left _ _ ay,take_left' (by rw[length_set];omega)] at y;exact y.2
theorem bT.slL{K:World}{H:List aH}{gb o m s cap E:Nat}{cs vs:List Value}(ho:o+vs.length≤m*s):bT K (aV (.slice (some ⟨gb,0,none⟩) m cap) E s m cs::H) gb o vs (aV (.slice (some ⟨gb,0,none⟩) m cap) E s m (cs.take o++vs++cs.drop (o+vs.length))::H):=by
 have nS:∀w:World,RA w w:=λw=>⟨Z,Z,Z,Nat.le_refl _⟩;refine⟨λL Y7 k y=> ?_,⟨_,.head _,Z⟩,λw a=> ?_,λw a=> ?_⟩
 ·rcases mem_cons.1 Y7 with rfl | h
  ·exact⟨_,.head _,y⟩
  ·exact⟨_,.tail _ h,y⟩
 ·obtain⟨r,⟨I,J,j,u⟩,d⟩:=Sat.nU (K:=w) ⟨nS w,a⟩;exact (bT.row (K:=w) (T:=E) (cs:=cs++r) (vs:=vs) (by rw[length_append];omega)).may w d.2
 ·obtain⟨r,⟨I,J,j,u⟩,d⟩:=Sat.nU (K:=w) ⟨nS w,a⟩;have l:=(bT.row (K:=w) (H:=H) (b:=gb) (T:=E) (o:=o) (cs:=cs++r) (vs:=vs) (by rw[length_append];omega)).sat w d.2;have e:(cs++r).take o++vs++(cs++r).drop (o+vs.length)=(cs.take o++vs++cs.drop (o+vs.length))++r:=by
   rw[take_append_of_le_length ay,drop_append_of_le_length ay,append_assoc];simp[append_assoc]
  rw[e] at l;have B:(cs.take o++vs++cs.drop (o+vs.length)).length=m*s:=by
   rw[length_append,length_append,length_take,length_drop];omega
  have G:=Sat.BX (K:=w.setCells gb o vs) (s:=s) (m:=m) (cap:=cap) ⟨nS _,l⟩ (by rw[length_append,B];rw[length_append] at I;omega) j u;rw[take_left' B] at G;exact G.2
theorem aeE{α:Type}{f:α→List Value}{s:Nat}:∀(l:List α) (hf:∀x∈l,(f x).length=s) (k i:Nat) (x y:α) (vs:List Value),l[k]? =some x→i+vs.length≤s→f y=(f x).take i++vs++(f x).drop (i+vs.length)→(l.flatMap f).take (k*s+i)++vs++(l.flatMap f).drop (k*s+i+vs.length)=(l.set k y).flatMap f
 | [],_,k,i,x,y,vs,h,_,_=>by simp at h
 | z::l,hf,0,i,x,y,vs,h,hi,hy=>by
  simp only[getElem?_cons_zero,Option.some.injEq] at h;subst h;have hz:=hf z (.head _);rw[set_cons_zero,flatMap_cons,flatMap_cons,Nat.zero_mul,Nat.zero_add,take_append_of_le_length ay,drop_append_of_le_length ay,hy];simp[append_assoc]
 | z::l,hf,k+1,i,x,y,vs,h,hi,hy=>by
  have b:=aeE l (λz hz=>hf z (.tail _ hz)) k i x y vs (by simpa using h) hi hy;have hz:=hf z (.head _);have a:(k+1)*s+i=(f z).length+(k*s+i):=by rw[hz,succ_mul];omega
  rw[set_cons_succ,flatMap_cons,flatMap_cons,a,Nat.add_assoc,List.take_length_add_append,List.drop_length_add_append,←b];simp[append_assoc]
section
variable{K:World}{F:List aH}{A:Option Addr}{n cap:Nat}
theorem ahI:aB prog 177 #[.slice A n cap] K F (λv H'=>∃b1,v= .func (.func 234) #[] #[ptr b1 0]∧H'=ah b1 47 [.slice A n cap]::F):=by
 refine aB.en func177 ntmps177 ?_;refine aj "a~k" λb1=> ?_;refine aj "w~2d" ?_;exact qR (ah b1 _ _::F) Z Z cO ⟨b1,Z,Z⟩
theorem ahS{σ:Type}{l b1:Nat}{Y1 Y2:aH}{cs:Nat→Value}(G:σ→List aH)(I:Nat→σ→Prop)(Stop:List aH→Prop)(hn:n≤1000000)
 (hb:∀s,Rd K (Y1::Y2::G s) (some ⟨b1,0,none⟩) (.slice A n cap)) (UW:∀j s,j<n→Rd K (Y1::Y2::G s) (A.map (·.add (j*1))) (cs j))
 (Ba:∀j s,j<n→I (j+1) s→jY prog K none l #[.i (j:Int),cs j] (Y1::Y2::G s) (λb H'=>(b=true∧∃s',I j s'∧H'=Y1::Y2::G s')∨(b=false∧Stop H'))) {s0:σ} (h0:I n s0) :
 aB prog 234 #[.func (.yield l) #[] #[],ptr b1 0] K (Y1::Y2::G s0) (λv H'=>(∃s,I 0 s∧H'=Y1::Y2::G s)∨Stop H'):=by
 refine aB.aaR func234 Z ntmps234 Z ?_;simp only[kV,reduceAdd];refine WC.sr<|WL.val (V.load isAgg47 (ak Z) (λH=>hb s0)) Z<|aj "j~Dos" ?_;refine WC.loop (σ:=Nat×σ) (λs=>[(0,.func (.yield l) #[] #[]),(1,ptr b1 0),(3,.i ((s.1:Int)-1))]) (λs=>Y1::Y2::G s.2) (λs=>s.1≤n∧I s.1 s.2) (λs=>s.1) (n,s0) ⟨Nat.le_refl _,h0⟩ bC cO ?_;rintro⟨i,s⟩ ⟨hi,hIi⟩;dsimp only at hi hIi ⊢;refine aj "r~gh" (aW (λaL=> ?_) λaL=> ?_)
 ·simp only[ge_iff_le,cZ] at aL;have Kv:=aL;obtain⟨j,rfl⟩:∃j,i=j+1:=⟨i-1,by omega⟩;have Wx:j<n:=ay;have m:=Ba j s Wx hIi;rw[show ((j+1:Nat):Int)-1=(j:Int) by omega];refine aj "Yb" ?_;refine WL.val (V.load isAgg47 (ak Z) (λH=>hb s)) Z<|WL.mv Z Z<|WL.val (V.dw adb (ak Z) (ak Z) (λ_=>by omega) (λ_=>by rw[Int.toNat_natCast];exact UW j s Wx)) Z<|WL.val (V.load isAgg34 (ak Z) (λ_=>by rw[Int.toNat_natCast];exact UW j s Wx)) Z<|WL.afm (r:=none) (l:=l) (vs:=[_,_]) (ak Z) ⟨ak Z,ak Z,trivial⟩ m Z ?_;rintro J u B;refine aj "9h" (aW (λa=> ?_) λa=> ?_)
  ·skip
   simp only[Bool.not_eq_true',Bool.not_eq_false'] at a;have alH:Stop u:=by
    rcases B with ⟨d,_⟩ | ⟨_,d⟩
    ·rw[d] at a;cases a
    ·exact d
   exact WC.ret<|aF.ret (H':=u) (bJ.none Z) cO (.inr alH)
  ·skip
   simp only[Bool.not_eq_true',Bool.not_eq_false'] at a;obtain⟨e,y,rfl⟩:∃e,I j e∧u=Y1::Y2::G e:=by
    rcases B with ⟨_,d⟩ | ⟨d,_⟩
    ·exact d
    ·rw[d] at a;cases a
   refine aj "qg~DN" ?_;exact⟨(j,e),⟨Nat.le_of_lt Wx,y⟩,lt_succ_self j,.cons Z bC,λw h=>h⟩
 ·simp only[ge_iff_le,cZ] at aL;have Kv:=aL;refine WC.exit ?_;obtain rfl:i=0:=by omega
  exact aF.normal (H':=Y1::Y2::G s) (bJ.none Z) cO (.inl ⟨s,hIi,Z⟩)
theorem ahO:aB prog 112 #[.slice A n cap] K F (λv H'=>∃b1,v= .func (.func 178) #[] #[ptr b1 0]∧H'=ah b1 183 [.slice A n cap]::F):=by
 refine aB.en func112 ntmps112 ?_;refine aj "a~k" λb1=> ?_;refine aj "w~2d" ?_;exact qR (ah b1 _ _::F) Z Z cO ⟨b1,Z,Z⟩
theorem ah3{σ:Type}{l b1:Nat}{Y1 Y2:aH}{cs:Nat→List Value}(G:σ→List aH)(I:Nat→σ→Prop)(Stop:List aH→Prop)(hn:n≤1000000)
 (hb:∀s,Rd K (Y1::Y2::G s) (some ⟨b1,0,none⟩) (.slice A n cap)) (JM:∀j,(cs j).length=2) (UW:∀j s,j<n→∀q v,(cs j)[q]? =some v→Rd K (Y1::Y2::G s) (A.map (·.add (j*2+q))) v)
 (Ba:∀j s,j<n→I (j+1) s→jY prog K none l #[.i (j:Int),.agg (cs j).toArray] (Y1::Y2::G s) (λb H'=>(b=true∧∃s',I j s'∧H'=Y1::Y2::G s')∨(b=false∧Stop H'))) {s0:σ} (h0:I n s0) :
 aB prog 178 #[.func (.yield l) #[] #[],ptr b1 0] K (Y1::Y2::G s0) (λv H'=>(∃s,I 0 s∧H'=Y1::Y2::G s)∨Stop H'):=by
 refine aB.aaR func178 Z ntmps178 Z ?_;simp only[kV,reduceAdd];refine WC.sr<|WL.val (V.load isAgg183 (ak Z) (λJ=>hb s0)) Z<|aj "j~Dos" ?_;refine WC.loop (σ:=Nat×σ) (λs=>[(0,.func (.yield l) #[] #[]),(1,ptr b1 0),(3,.i ((s.1:Int)-1))]) (λs=>Y1::Y2::G s.2) (λs=>s.1≤n∧I s.1 s.2) (λs=>s.1) (n,s0) ⟨Nat.le_refl _,h0⟩ bC cO ?_;rintro⟨i,s⟩ ⟨hi,hIi⟩;dsimp only at hi hIi ⊢;refine aj "r~gh" (aW (λaL=> ?_) λaL=> ?_)
 ·simp only[ge_iff_le,cZ] at aL;have Kv:=aL;obtain⟨j,rfl⟩:∃j,i=j+1:=⟨i-1,by omega⟩;have Wx:j<n:=ay;have m:=Ba j s Wx hIi;rw[show ((j+1:Nat):Int)-1=(j:Int) by omega];refine aj "Yb" ?_;refine WL.val (V.load isAgg183 (ak Z) (λJ=>hb s)) Z<|WL.mv Z Z<|WL.val (V.aG (v':=sp A (j*2)) (V.dw alZ (ak Z) (ak Z) (λ_=>by omega) (λ_=>by rw[Int.toNat_natCast];exact UW j s Wx 0 _ (getElem?_eq_getElem (show 0<(cs j).length by rw[JM];decide)))) (λ_=>by rw[Int.toNat_natCast])) Z ?_;refine WL.val (V.tX (vs:=cs j) ⟨isAgg190,sizeOf190⟩ (ak Z) (JM j) aN (λ_ q v H=>UW j s Wx q v H)) Z<|WL.afm (r:=none) (l:=l) (vs:=[_,_]) (ak Z) ⟨ak Z,ak Z,trivial⟩ m Z ?_;rintro L u B;refine aj "9h" (aW (λd=> ?_) λd=> ?_)
  ·skip
   simp only[Bool.not_eq_true',Bool.not_eq_false'] at d;have alH:Stop u:=by
    rcases B with ⟨a,_⟩ | ⟨_,a⟩
    ·rw[a] at d;cases d
    ·exact a
   exact WC.ret<|aF.ret (H':=u) (bJ.none Z) cO (.inr alH)
  ·skip
   simp only[Bool.not_eq_true',Bool.not_eq_false'] at d;obtain⟨e,y,rfl⟩:∃e,I j e∧u=Y1::Y2::G e:=by
    rcases B with ⟨_,a⟩ | ⟨a,_⟩
    ·exact a
    ·rw[a] at d;cases d
   refine aj "qg~DN" ?_;exact⟨(j,e),⟨Nat.le_of_lt Wx,y⟩,lt_succ_self j,.cons Z bC,λw h=>h⟩
 ·simp only[ge_iff_le,cZ] at aL;have Kv:=aL;refine WC.exit ?_;obtain rfl:i=0:=by omega
  exact aF.normal (H':=Y1::Y2::G s) (bJ.none Z) cO (.inl ⟨s,hIi,Z⟩)
end
theorem K3(hg:S.g.aU)(T:St)(aS:Int):(dZ S T aS).1.d.length≤1000000:=by
 have FR:=bQ.vL hg;unfold dZ;repeat (split;exact zero_le _)
 rename_i d _;show (List.take _ _).length≤_;rw[length_take];refine Nat.le_trans (Nat.min_le_left _ _) ?_;have a:iR S.g (S.bY (T.lF aS) 0).d=0:=by
  rcases Decidable.em (iR S.g (S.bY (T.lF aS) 0).d=0) with h | h
  ·exact h
  ·exact absurd h d
 unfold gQ;cases hp:jr S.g (S.bY (T.lF aS) 0).d with
 | none =>
  rw[iR,hp] at a;dsimp only at a;split at a<;>cases a
 | some h =>
  have b:=(um hg hp).2.1;unfold Hd.may bQ.fits at b;simp only[Bool.and_eq_true,decide_eq_true_eq] at b;show h.len.toNat≤_;omega
theorem UG(h:iL b=some M):M.gH.length≤8:=by
 unfold iL at h;split at h
 ·cases h
 ·unfold VB at h;split at h
  ·split at h
   ·rename_i a;injection h with h
    subst h;unfold sI.ok at a;simp only[Bool.and_eq_true,decide_eq_true_eq] at a;exact a.1.2
   ·cases h
  ·cases h
theorem TD(r:List Ky)(aO:Int)(b:List Nat):(eT r aO b).1.gH.length≤8:=by
 unfold eT;split
 ·exact zero_le _
 split
 ·exact zero_le _
 cases hM:iL (b.take (b.length-64)) with
 | none=>exact zero_le _
 | some M =>
  rw[IX];repeat (split;exact zero_le _)
  exact UG hM
def jV(S:aD)(slot:Int):Nat→Nat→St→List (List Nat)×Int×St
 | 0,_,T=>([],0,T)
 | n+1,i,T=>if (kZ slot (i:Int)).2≠0 then ([],(kZ slot (i:Int)).2,T) else
  if (dZ S T (kZ slot (i:Int)).1).1.err≠0 then ([],(dZ S T (kZ slot (i:Int)).1).1.err,(dZ S T (kZ slot (i:Int)).1).2) else
  ((dZ S T (kZ slot (i:Int)).1).1.d::(jV S slot n (i+1) (dZ S T (kZ slot (i:Int)).1).2).1,(jV S slot n (i+1) (dZ S T (kZ slot (i:Int)).1).2).2)
def PX(S:aD)(ring:List Ky)(aO slot:Int)(G:aD.Got×St):La×Int×St :=
 if G.1.err≠0 then (.zero,G.1.err,G.2) else
 if (eT ring aO G.1.d).2≠0 then (.zero,(eT ring aO G.1.d).2,G.2) else
 if (jV S slot (eT ring aO G.1.d).1.gH.length 0 G.2).2.1≠0 then (.zero,(jV S slot (eT ring aO G.1.d).1.gH.length 0 G.2).2) else
 ({ (kW ring aO G.1.d (jV S slot (eT ring aO G.1.d).1.gH.length 0 G.2).1).1 with slot:=slot },(kW ring aO G.1.d (jV S slot (eT ring aO G.1.d).1.gH.length 0 G.2).1).2,(jV S slot (eT ring aO G.1.d).1.gH.length 0 G.2).2.2)
def jE(S:aD)(T:St)(ring:List Ky)(aO slot:Int):La×Int×St:=PX S ring aO slot (dZ S T (kZ slot (-1)).1)
def bsA(p:Bs):aH:=aV p.v 5 1 p.m (av .u8 p.l)
theorem XW{T:bZ}{C:Cw}(hC:C.Ok)(hg:C.g=g)(hT:T.Ok g)(hr:Ring K F A m ring):aB prog 70 #[ptr bs 0,.slice A m c,.i aO,.i slot] K (C.A bc::dA bd bc g::T.A bs bd g::F)
 (λv H'=>∃(T':bZ) (A':Option Addr) (c':Nat) (ps:List (Int×Bs)) (E:aH),T'.Ok g∧T'.aC=(jE C.aC T.aC ring aO slot).2.2∧v= .tuple #[.agg ((jE C.aC T.aC ring aO slot).1.cells A' c' 0).toArray,.i (jE C.aC T.aC ring aO slot).2.1] ∧
  (jE C.aC T.aC ring aO slot).1.jS=ps.map (λp=>(p.1,p.2.l))∧(∀H,kD K (E::H) A' ps)∧H'=C.A bc::dA bd bc g::T'.A bs bd g::E::F):=by
 obtain⟨X,a⟩:∃X,X=jE C.aC T.aC ring aO slot:=⟨_,Z⟩;obtain⟨G,Q⟩:∃G,G=(dZ C.aC T.aC (kZ slot (-1)).1):=⟨_,Z⟩;have R:∀(e:Int) (T':bZ),T'.Ok g→X=(.zero,e,T'.aC)→∃(d:bZ) (A':Option Addr) (c':Nat) (ps:List (Int×Bs)) (E:aH),d.Ok g∧d.aC=X.2.2∧Value.tuple #[.agg (La.zero.cells none 0 0).toArray,.i e]= .tuple #[.agg (X.1.cells A' c' 0).toArray,.i X.2.1]∧X.1.jS=ps.map (λp:Int×Bs=>(p.1,p.2.l))∧(∀H,kD K (E::H) A' ps)∧C.A bc::dA bd bc g::T'.A bs bd g::bK []::F=C.A bc::dA bd bc g::d.A bs bd g::E::F :=
  λe T' Oo W=>⟨T',none,0,[],bK [],Oo,by rw[W],by rw[W],by rw[W];rfl,λH=>⟨⟨Z,λi v U=>by simp at U⟩,λp b=>by cases b⟩,rfl⟩
 have yO:C.aC.g.aU:=hC.aU;have nS:aA 256 G.1.d:=by rw[Q];exact hC.yj _ _
 have I:G.1.d.length≤1000000:=by rw[Q];exact K3 yO _ _
 rw[←a];unfold jE at a;rw[←Q] at a;obtain⟨h,hh⟩:∃h,h=eT ring aO G.1.d:=⟨_,Z⟩;unfold PX at a;rw[←hh] at a;refine aB.en func70 ntmps70 ?_;refine aj "av" λb8=> ?_;refine aj "i" ?_;refine WL.t2 call23 Z Z (xR slot (-1) _ _) Z<|aj "H0~Y" ?_;refine WL.c2 call26 Z Z (AA hC hg hT _) Z ?_;rintro _ _ ⟨A1,c1,y,oZ,t1,rfl,rfl⟩;rw[←Q] at t1 ⊢;refine WL.lG (λw h=>aV.room h) (λafI=>aj "5~Mllfuh" (aW (λN=> ?_) λN=> ?_))
 ·simp only[oK] at N;rw[if_pos N] at a;refine aj "a^bCd" ?_;exact aF.ret (H':=C.A bc::dA bd bc g::y.A bs bd g::bK []::F) (rA Z Z ⟨isAgg37,sizeOf37⟩ Z) (λw h=>(Sat.all (l:=[]) (h.bg 5 [1,2,3] Z)).bg 4 [1,2,3,0] Z) (R _ y oZ (by rw[a,t1]))
 ·simp only[oK] at N;rw[if_neg (λh=>h N)] at a;refine aj "Tx" ?_;refine WL.c3 call20 Z Z Z (AO (aO:=aO) (ring:=ring) (sd:=G.1.d) hr.up.up.up.up.up (aV.seq (by rw[au,Nat.mul_one])) nS I afI) Z ?_;rintro _ _ ⟨As,ca,E1,rfl,hE,rfl⟩;rw[←hh] at hE ⊢;refine aj "5v" λx7=> ?_;refine aj "Cfuh" (aW (λO=> ?_) λO=> ?_)
  ·simp only[oK] at O;rw[if_pos O] at a;refine aj "a^bCd" ?_;exact aF.ret (H':=C.A bc::dA bd bc g::y.A bs bd g::bK []::F) (rA Z Z ⟨isAgg37,sizeOf37⟩ Z) (λw h=>(Sat.all (l:=[]) (h.bg 7 [3,4,5] Z)).bg 4 [1,2,3,0] Z) (R _ y oZ (by rw[a,t1]))
  ·simp only[oK] at O;rw[if_neg (λh=>h O)] at a;refine aj "7takjR" ?_;obtain⟨n,hn⟩:∃n,n=h.1.gH.length:=⟨_,Z⟩;rw[←hn] at a ⊢;have x5:n≤8:=by rw[hn,hh];exact TD _ _ _
   obtain⟨Q0,M⟩:∃Q0,Q0=jV C.aC slot n 0 G.2:=⟨_,Z⟩;rw[←M] at a;refine WC.loop (σ:=Nat×bZ×Option Addr×Nat×List Bs) (λs=>[(0,ptr bs 0),(1,.slice A m c),(2,.i aO),(3,.i slot),(8,ptr b8 0),(12,.slice A1 G.1.d.length c1),(16,.slice s.2.2.1 s.1 s.2.2.2.1),(52,.i (n:Int)),(53,.i (s.1:Int))])
    (λs=>C.A bc::dA bd bc g::s.2.1.A bs bd g::aV (.slice s.2.2.1 s.1 s.2.2.2.1) 34 1 s.1 (s.2.2.2.2.map Bs.v)::bK (s.2.2.2.2.reverse.map bsA)::E1::aV (.slice A1 G.1.d.length c1) 5 1 G.1.d.length (av .u8 G.1.d)::ah b8 37 [.i 0,.i 0,.i 0,.slice none 0 0,.i 0]::F)
    (λs=>s.1≤n∧s.2.1.Ok g∧s.2.2.2.2.length=s.1∧(∀p∈s.2.2.2.2,aA 256 p.l∧p.l.length=p.m∧p.m≤1000000)∧Q0=(s.2.2.2.2.map Bs.l++(jV C.aC slot (n-s.1) s.1 s.2.1.aC).1,(jV C.aC slot (n-s.1) s.1 s.2.1.aC).2)) (λs=>n-s.1)
    (0,y,none,0,[]) ⟨zero_le _,oZ,Z,λp b=>by (cases b),by dsimp only;rw[M,Nat.sub_zero,t1];rfl⟩ bC (λw h=>((Sat.all (l:=[]) (h.bg 7 [3,4,5,1,2,6] Z)).gI 34 1).bg 8 [2,3,4,0,1,5,6,7] Z) ?_
   rintro⟨i,Tc,A16,c16,ds⟩ ⟨U,hTc,wF,hdo,Dn⟩;dsimp only at U hTc wF hdo Dn ⊢;refine aj "VJ" (aW (λB=> ?_) λB=> ?_)
   ·simp only[cZ] at B;rw[show n-i=n-(i+1)+1 by omega,jV] at Dn;obtain⟨L,hL⟩:∃L,L=kZ slot (i:Int):=⟨_,Z⟩;rw[←hL] at Dn;obtain⟨J,P⟩:∃J,J=dZ C.aC Tc.aC L.1:=⟨_,Z⟩;rw[←P] at Dn;have x4:aA 256 J.1.d:=by rw[P];exact hC.yj _ _
    have BF:J.1.d.length≤1000000:=by rw[P];exact K3 yO _ _
    refine aj "Y0" ?_;refine WL.t2 call23 Z Z ((xR slot (i:Int) _ _).eq (v':= .tuple #[.i L.1,.i L.2]) (by rw[hL])) Z<|aj "Hfuh" (aW (λr=> ?_) λr=> ?_)
    ·simp only[oK] at r;rw[if_pos r] at Dn;rw[Dn,if_pos r] at a;refine aj "a^b~Ld" ?_;exact aF.ret (H':=C.A bc::dA bd bc g::Tc.A bs bd g::bK []::F) (rA Z Z ⟨isAgg37,sizeOf37⟩ Z) (λw h=>(Sat.all (l:=[]) (h.bg 8 [0,1,2] Z)).bg 4 [1,2,3,0] Z) (R _ Tc hTc a)
    ·simp only[oK] at r;rw[if_neg (λh=>h r)] at Dn;refine aj "Tb" ?_;refine WL.c2 call26 Z Z (AA hC hg hTc _) Z ?_;rintro _ _ ⟨A2,c2,d,BH,t2,rfl,rfl⟩;rw[←P] at t2 ⊢;refine aj "5~Mllfuh" (aW (λj=> ?_) λj=> ?_)
     ·simp only[oK] at j;rw[if_pos j] at Dn;rw[Dn,if_pos j] at a;refine aj "a^b~Ld" ?_;exact aF.ret (H':=C.A bc::dA bd bc g::d.A bs bd g::bK []::F) (rA Z Z ⟨isAgg37,sizeOf37⟩ Z) (λw h=>(Sat.all (l:=[]) (h.bg 9 [1,2,3] Z)).bg 4 [1,2,3,0] Z) (R _ d BH (by rw[a,t2]))
     ·simp only[oK] at j;rw[if_neg (λh=>h j)] at Dn;refine aj "qgb" ?_;refine WL.buildSlice (E:=34) (cs:=[_]) (vs:=[(0,_)]) ⟨ak Z,trivial⟩ Z (Lv _ _ _) Z (λx6=>aj "~~J" ?_);refine WL.append (m:=i) (q:=1) (news:=[Bs.v ⟨A2,J.1.d.length,c2,J.1.d⟩]) underlying47 aiF (ak Z) (ak Z) (Seq.all Z) (by intro u hu;rw[mem_singleton.1 hu];rfl) ay Z Z (λx0 x2 amZ anG=>aj "o8" ?_);refine⟨(i+1,d,x0,x2,ds++[⟨A2,J.1.d.length,c2,J.1.d⟩]),⟨by show i+1≤n;omega,BH,by simp[wF],λp' BA=> ?_, ?_⟩,(by show n-(i+1)<n-i;omega),.cons Z bC,λw h=> ?_⟩
      ·rcases mem_append.1 BA with h' | h'
       ·exact hdo p' h'
       ·rw[mem_singleton.1 h'];exact⟨x4,Z,BF⟩
      ·dsimp only;rw[Dn,t2];simp
      ·have B:=((h.bg 10 [2,6,3,4,5,0,7,8,9] Z).Bc).bg 8 [1,2,3,4,0,5,6,7] Z;simp only[map_append,map_cons,map_nil,reverse_append,reverse_cons,reverse_nil,nil_append,cons_append];exact B
   ·simp only[cZ] at B;refine aj "W" ?_;obtain rfl:i=n:=by omega
    rw[Nat.sub_self,jV,append_nil] at Dn;rw[Dn,if_neg (λh=>h Z)] at a;obtain⟨Y,hY⟩:∃Y,Y=kW ring aO G.1.d (ds.map Bs.l):=⟨_,Z⟩;rw[←hY] at a;refine aj "gxb" ?_;refine WL.c4 call105 Z Z Z Z (FB (aO:=aO) (ring:=ring) (sd:=G.1.d) (ds:=ds) hr.up.up.up.up.up.up.up.up (aV.seq (by rw[au,Nat.mul_one])).up.up.up.up.up.up nS I afI ⟨(aV.seq (by rw[length_map,wF,Nat.mul_one])).up.up.up,λp b=>⟨(uz (C:=bsA p) (mem_map.2 ⟨p,mem_reverse.2 b,Z⟩) (aV.seq (by rw[au,(hdo p b).2.1,Nat.mul_one]))).up.up.up.up,(hdo p b).1,(hdo p b).2.2⟩⟩ ay) Z ?_;rintro _ _ ⟨A',c',ps,E2,rfl,l7,x3,rfl⟩;rw[←hY] at l7 ⊢;refine aj "5v" λQB=> ?_;refine aj "CiX~ZQyb~Ld" ?_;exact aF.ret (H':=C.A bc::dA bd bc g::Tc.A bs bd g::E2::F) (rA Z Z ⟨isAgg37,sizeOf37⟩ Z) (λw h=>h.bg 10 [2,3,4,1] Z) ⟨Tc,A',c',ps,E2,hTc,by rw[a],by rw[a],by rw[a];exact l7,x3,Z⟩
abbrev wrC(p:Int×Bs):List Value:=[.i p.1,p.2.v]
def acr(cap:Int)(l:List (List Nat)):Bool:=l.any λd=>decide (cap<(d.length:Int))
def acF(cap:Int)(sd:List Nat)(ds:List (List Nat)):Int :=
 if sd.length<64 then 4 else if I7 (sd.take (sd.length-64))≠0 then 4 else
 if 4<((iL (sd.take (sd.length-64))).getD .zero).gH.length∨((iL (sd.take (sd.length-64))).getD .zero).gH.length≠ds.length then 1 else
 if acr cap (sd::ds) then 2 else 0
def adx:Int→List (List Nat)→List (Int×List Nat)
 | _,[]=>[]
 | a,d::l=>(a,d)::adx (a+1) l
theorem acp:∀(a:Int) (l:List (List Nat)),(adx a l).length=l.length
 | _,[]=>rfl
 | a,d::l=>by rw[adx,length_cons,acp,length_cons]
theorem afx:∀ {a:Int} {l:List (List Nat)} {j:Nat} {d:List Nat},l[j]? =some d→(adx a l)[j]? =some (a+(j:Int),d)
 | a,[],j,d,h=>by simp at h
 | a,x::l,0,d,h=>by simp at h;subst h;simp[adx]
 | a,x::l,j+1,d,h=>by
  rw[adx,getElem?_cons_succ,afx (by simpa using h)];congr 2;omega
theorem agI(c:Int):∀(a:Int) (l:List (List Nat)),(adx a l).any (λp=>decide (c<(p.2.length:Int)))=acr c l
 | _,[]=>rfl
 | a,d::l=>by rw[adx,any_cons,agI c (a+1) l];rfl
def acv(x:aY)(sd:List Nat)(ds:List (List Nat)):List (Int×List Nat):=adx (2+5*(1-x.f)) ds++[(1+5*(1-x.f),sd),(0,bU (x.install (1-x.f)).1)]
theorem acI{x:aY}(h:x.ok=true):(x.install (1-x.f)).1.ok=true∧(x.install (1-x.f)).2=0:=by
 have b:=aY.lJ h;have hs:1-x.f=0∨1-x.f=1:=ay;unfold aY.install;rw[if_neg (by rw[aY.GZ h hs];omega)];refine⟨?_,Z⟩;unfold aY.put;rcases b.1 with a | a
 all_goals
  rw[a];simp[aY.ok];omega
section
variable{bs bd bc:Nat}{g:bQ}{T:bZ}{C:Cw}{K:World}{F:List aH}{S D:Option Addr}{q cs k kd:Nat}{sd:List Nat}{ds:List Bs}{x:aY}
theorem agG{x:aY}(hx:(x.install (1-x.f)).1.ok=true){c:Int}(hc:9≤c)(sd:List Nat)(ds:List (List Nat)):(acv x sd ds).any (λp=>decide (c<(p.2.length:Int)))=acr c (sd::ds):=by
 have a:(bU (x.install (1-x.f)).1).length=9:=by unfold bU;rw[gZ,aY.fC hx]
 unfold acv;rw[List.any_append,agI,any_cons,any_cons,a,decide_eq_false (show ¬c<((9:Nat):Int) by omega)];unfold acr;rw[any_cons];simp[Bool.or_comm]
theorem ac3(hC:C.Ok)(hg:C.g=g)(hT:T.Ok g)(hl:11≤(T.stands.length:Int))(dL:lK C.aC T.aC=(x,0,T.aC))(hx:x.ok=true):aB prog 48 #[ptr bs 0] K (C.A bc::dA bd bc g::T.A bs bd g::F)
 (λv H'=>∃T':bZ,T'.Ok g∧T'.aC=T.aC∧v= .tuple #[.i (1-x.f),.i 0]∧H'=C.A bc::dA bd bc g::T'.A bs bd g::F):=by
 have b:=aY.lJ hx;refine aB.en func48 ntmps48 ?_;refine aj "ali" ?_;refine WL.c1 call24 Z (vB hC hg hT hl) Z ?_;rintro _ _ ⟨T',Oo,a,rfl,rfl⟩;rw[dL] at a ⊢;dsimp only[aY.v];refine aj "5v" λd=> ?_;refine aj "Cfu27k)F" ?_;exact aF.ret (H':=C.A bc::dA bd bc g::T'.A bs bd g::F) (bJ.eU Z Z Z) (λw h=>h.drop 1) ⟨T',Oo,a,Z,Z⟩
theorem ajp(hC:C.Ok)(hg:C.g=g)(hT:T.Ok g)(hl:11≤(T.stands.length:Int))(dL:lK C.aC T.aC=(x,0,T.aC))(hx:x.ok=true)(hs:Seq K F S q 1 (av .u8 sd))(h8:aA 256 sd)(hq:q≤1000000)(hqc:q≤cs)(hd:ajm K F D k ds)(hdc:∀p∈ds,p.m≤p.cap)(hk:k≤1000) :
 aB prog 111 #[ptr bs 0,.i (1-x.f),.slice S q cs,.slice D k kd] K (C.A bc::dA bd bc g::T.A bs bd g::F) (λv H'=>∃T':bZ,T'.Ok g∧T'.aC=T.aC ∧
  ((acF g.cap sd (ds.map Bs.l)≠0∧v= .tuple #[.slice none 0 0,.i (acF g.cap sd (ds.map Bs.l))]∧H'=C.A bc::dA bd bc g::T'.A bs bd g::F) ∨
   (acF g.cap sd (ds.map Bs.l)=0∧∃(A':Option Addr) (c':Nat) (W:List (Int×Bs)) (b:Nat),W.map (λp=>(p.1,p.2.l))=(acv x sd (ds.map Bs.l)).reverse∧v= .tuple #[.slice A' W.length c',.i 0] ∧
    (∀p∈W,Seq K (ah b 5 (ints .u8 (x.install (1-x.f)).1.bytes)::F) p.2.A p.2.m 1 (av .u8 p.2.l)∧aA 256 p.2.l∧p.2.m≤p.2.cap) ∧
    H'=C.A bc::dA bd bc g::T'.A bs bd g::aV (.slice A' W.length c') 190 2 W.length (W.flatMap wrC)::ah b 5 (ints .u8 (x.install (1-x.f)).1.bytes)::F))):=by
 have mR:sd.length=q:=by have :=hs.len;rwa [au,Nat.mul_one] at this
 have wF:ds.length=k:=by have :=hd.seq.len;rwa [length_map,Nat.mul_one] at this
 obtain⟨R,d⟩:∃R,R=acF g.cap sd (ds.map Bs.l):=⟨_,Z⟩;rw[←d];unfold acF at d;rw[mR,length_map,wF] at d;obtain⟨M,hM⟩:∃M,M=(iL (sd.take (q-64))).getD .zero:=⟨_,Z⟩;rw[←hM] at d;have yO:g.aU:=by rw[←hg];exact hC.aU
 have FR:=bQ.vL yO;have uN:∀ {e:Int} {T':bZ} {Y:bZ→Prop},T'.Ok g→T'.aC=T.aC→R=e→e≠0→∃T2:bZ,T2.Ok g∧T2.aC=T.aC∧((R≠0∧Value.tuple #[.slice none 0 0,.i e]= .tuple #[.slice none 0 0,.i R]∧C.A bc::dA bd bc g::T'.A bs bd g::F=C.A bc::dA bd bc g::T2.A bs bd g::F)∨Y T2):=λ{e T' Y} B O h3 h4=>⟨T',B,O,.inl ⟨by rw[h3];exact h4,by rw[h3],Z⟩⟩;refine aB.aaG func111 Z ntmps111 Z ?_;simp only[kV,reduceAdd];refine aj "ali" ?_;refine WL.sub (Sub.refl _) cO (WL.c1 call78 Z (WU hs.up.up.up hq hqc) Z ?_);rintro z9 y2 alJ;obtain⟨A1,m1,c1,A2,m2,c2,rfl,hX⟩:∃(A1:Option Addr) (m1 c1:Nat) (A2:Option Addr) (m2 c2:Nat),z9= .tuple #[.slice A1 m1 c1,.slice A2 m2 c2,.i (if q<64 then 4 else 0)]∧((q<64∧y2=C.A bc::dA bd bc g::T.A bs bd g::F)∨(64≤q∧m1=q-64∧q-64≤c1∧y2=aV (.slice A1 (q-64) c1) 5 1 (q-64) (av .u8 (sd.take (q-64)))::aV (.slice A2 64 c2) 5 1 64 (av .u8 (sd.drop (q-64)))::C.A bc::dA bd bc g::T.A bs bd g::F)):=by
  rcases alJ with ⟨L,k2,k3⟩ | ⟨L,A1,c1,A2,c2,k4,k2,k3⟩
  ·exact⟨none,0,0,none,0,0,by rw[k2,if_pos L],.inl ⟨L,k3⟩⟩
  ·exact⟨A1,_,c1,A2,_,c2,by rw[k2,if_neg ay],.inr ⟨L,Z,k4.1,k3⟩⟩
 refine aj "5~Mllfuh" (aW (λh0=> ?_) λh0=> ?_)
 ·skip
  have amE:q<64:=by
   by_cases h:q<64
   ·exact h
   ·rw[if_neg h] at h0;simp at h0
  rcases hX with ⟨_,rfl⟩ | ⟨L,_⟩
  rotate_left
  ·omega
  rw[if_pos amE] at d;refine aj "eF" ?_;exact mZ.ret (H':=C.A bc::dA bd bc g::T.A bs bd g::F) (bJ.eU Z Z Z) cO (by rw[if_pos amE];exact uN hT Z d aN)
 ·skip
  have amE:64≤q:=by
   by_cases h:q<64
   ·rw[if_pos h] at h0;simp at h0
   ·omega
  rcases hX with ⟨L,_⟩ | ⟨_,rfl,aQ,rfl⟩
  ·omega
  rw[if_neg ay] at d;obtain⟨x5,anf⟩:∃b,b=sd.take (q-64):=⟨_,Z⟩;have BI:x5.length=q-64:=by rw[anf,length_take];omega
  have z6:aA 256 x5:=by rw[anf];exact λy hy=>h8 y (mem_of_mem_take hy)
  rw[←anf] at d hM ⊢;refine aj "T" ?_;refine WL.c1 call80 Z (Xy (b:=x5) (aV.seq (by rw[au,BI,Nat.mul_one])) z6 aQ) Z ?_;rintro _ _ ⟨As,ca,E,rfl,hE,rfl⟩;rw[←hM] at hE ⊢;dsimp only[sI.cells];refine aj "5v" λu4=> ?_;refine aj "Cfuh" (aW (λaQ=> ?_) λaQ=> ?_)
  ·simp only[oK] at aQ;have B:=aQ;rw[if_pos B] at d;refine aj "eF" ?_;exact mZ.ret (H':=C.A bc::dA bd bc g::T.A bs bd g::F) (bJ.eU Z Z Z) (λw h=>h.drop 4) (by rw[show I7 x5=4 by unfold I7 at B ⊢;split at B;exact absurd Z B;exact if_neg (by assumption)];exact uN hT Z d aN)
  ·simp only[oK] at aQ;have B:=aQ;rw[if_neg (λh=>h B)] at d;refine aj "|akj~Hb_@~p~z~p~QIh" (aW (λO=> ?_) λO=> ?_)
   ·simp only[iC] at O;rw[if_pos ay] at d;refine aj "aF" ?_;exact mZ.ret (H':=C.A bc::dA bd bc g::T.A bs bd g::F) (bJ.eU Z Z Z) (λw h=>h.drop 4) (uN hT Z d aN)
   ·simp only[iC] at O;rw[if_neg ay] at d;refine aj "T" ?_;refine WL.sub (H':=C.A bc::dA bd bc g::T.A bs bd g::F) (Sub.refl _) (λw h=>h.drop 4)<|WL.c1 call24 Z (vB hC hg hT hl) Z ?_;rintro _ _ ⟨T',Oo,t',rfl,rfl⟩;rw[dL] at t' ⊢;dsimp only[aY.v] at t' ⊢;refine aj "5v" λu1=> ?_;refine aj "Cfu2|" ?_;obtain⟨a,x2⟩:∃a,a=(x.install (1-x.f)).1:=⟨_,Z⟩;have P:a.ok=true:=by rw[x2];exact (acI hx).1
    rw[←x2];have asR:=(aY.lJ hx).1;obtain⟨J,y4⟩:∃J,J=1-x.f:=⟨_,Z⟩;have asW:J=0∨J=1:=ay;refine aj "pyb" ?_;refine WL.t2 call176 Z Z ((ae7 x (1-x.f) _ _).eq (v':= .tuple #[.agg #[.i a.f,.i a.t0,.bool a.g0,.i a.t1,.bool a.g1],.i 0]) (by rw[x2,(acI hx).2])) Z<|aj "5CQy" ?_;refine WL.c1 call131 Z (EP a _ _) Z ?_;rintro _ _ (⟨_,bS,rfl,rfl⟩ | ⟨L,_⟩)
    rotate_left
    ·rw[P] at L;cases L
    have uI:(bU a).length=9:=by unfold bU;rw[gZ,aY.fC P]
    have z4:aA 256 (bU a):=iP (aY.gJ P);have z1:av .u8 (bU a)=ints .u8 a.bytes:=by unfold bU;rw[mJ (aY.gJ P)]
    refine aj "Hi" ?_;refine WL.t2 call23 Z Z ((xR (1-x.f) (-1) _ _).eq (v':= .tuple #[.i (1+5*(1-x.f)),.i 0]) (by rcases asR with h | h<;>rw[h]<;>rfl)) Z<|aj "5v" λx4=> ?_;refine aj "~+i" ?_;refine WL.val (V.build (vs:=[(0,_),(1,_)]) ⟨ak Z,ak Z,trivial⟩ Z (ac1 _ _ _ _)) Z (aj "<b" ?_);refine WL.val (V.build (vs:=[(0,_),(1,_)]) ⟨ak Z,ak Z,trivial⟩ Z (ac1 _ _ _ _)) Z<|WL.buildSlice (E:=190) (cs:=[_,_,_,_]) (vs:=[(0,_),(1,_)]) ⟨ak Z,ak Z,trivial⟩ Z (afH _ _ _ _) Z (λx8=>aj "v" λQ=> ?_);refine aj "~+GL" ?_;have u0:1+5*(1-x.f)=1+5*J:=by rw[y4]
    rw[u0];obtain⟨W0,x0⟩:∃W0:List (Int×Bs),W0=[((0:Int),Bs.mk (some ⟨bS,0,none⟩) 9 9 (bU a)),(1+5*J,Bs.mk S q cs sd)]:=⟨_,Z⟩;obtain⟨Ok,x9⟩:∃Ok:Int×Bs→Prop,Ok=λp=>Seq K (ah bS 5 (ints .u8 a.bytes)::F) p.2.A p.2.m 1 (av .u8 p.2.l)∧aA 256 p.2.l∧p.2.m≤p.2.cap:=⟨_,Z⟩;refine WC.sub (H':=aV (.slice (some ⟨x8,0,none⟩) 2 2) 190 2 2 (W0.flatMap wrC)::ah Q 183 [.slice (some ⟨x8,0,none⟩) 2 2]::ah x4 3 [.i (1+5*J)]::C.A bc::dA bd bc g::T'.A bs bd g::ah bS 5 (ints .u8 a.bytes)::F) (Sub.refl _) (λw h=>by
     have O:=h.bg 8 [1,0,2,5,6,7,3] Z;rw[x0];exact Sat.BX (m:=2) (s:=2) (cap:=2) (cs:=[.i 0,.slice (some ⟨bS,0,none⟩) 9 9,.i (1+5*J),.slice S q cs]) O Z aN aN) ?_
    refine aj "g" ?_;refine WL.c1 call177 Z (ahI) Z ?_;rintro _ _ ⟨x3,rfl,rfl⟩;refine aj "cs" ?_;obtain⟨DL,y0⟩:∃DL,DL=adx (2+5*J) (ds.map Bs.l):=⟨_,Z⟩;have axk:DL.length=k:=by rw[y0,acp,length_map];exact wF
    obtain⟨G,hG⟩:∃G:Option Addr×Nat×List (Int×Bs)→List aH,G=λs=>ah x3 47 [.slice D k kd]::aV (.slice s.1 s.2.2.length s.2.1) 190 2 s.2.2.length (s.2.2.flatMap wrC)::ah Q 183 [.slice s.1 s.2.2.length s.2.1]::ah x4 3 [.i (1+5*J)]::C.A bc::dA bd bc g::T'.A bs bd g::ah bS 5 (ints .u8 a.bytes)::F:=⟨_,Z⟩;obtain⟨I,hI⟩:∃I:Nat→Option Addr×Nat×List (Int×Bs)→Prop,I=λi s=>(∀p∈s.2.2,Ok p)∧s.2.2.length=2+(k-i)∧s.2.2.map (λp=>(p.1,p.2.l))=W0.map (λp=>(p.1,p.2.l))++(DL.drop i).reverse:=⟨_,Z⟩;refine WC.range (gf:=234) (lb:=[ptr x3 0]) (Done:=λH1=>∃s,I 0 s∧H1=G s) (X:=λc H1=>False) Z call234 (λr l e1 e2 e3 hA=> ?_) (λD' H1 ZB=> ?_) (λD' c H1 Wz=>Wz.elim);have L9:∀j,j<k→ds[j]? =some (ds.getD j ⟨none,0,0,[]⟩):=λj U=>by rw[getD,getElem?_eq_getElem ay];rfl
    have y6:∀j,j<k→Rd K F (D.map (·.add (j*1))) (ds.getD j ⟨none,0,0,[]⟩).v:=λj U=>by
     rw[Nat.mul_one];refine hd.seq.rd j _ ?_;rw[getElem?_map,L9 j U];rfl
    suffices Ba:∀j s,j<k→I (j+1) s→jY prog K none l #[.i (j:Int),(ds.getD j ⟨none,0,0,[]⟩).v] (r.A l .ready none::jT r.D::G s) (λb H'=>(b=true∧∃s',I j s'∧H'=r.A l .ready none::jT r.D::G s')∨(b=false∧False)) from by
     have B:=ahS (K:=K) (A:=D) (n:=k) (cap:=kd) (l:=l) (b1:=x3) (Y1:=r.A l .ready none) (Y2:=jT r.D) (cs:=λj=>(ds.getD j ⟨none,0,0,[]⟩).v) G I (λ_=>False) ay (λs=>by rw[hG];exact (Rd.here Z).up.up) (λj s U=>by rw[hG];repeat (first | exact y6 j U | apply Rd.up)) Ba (s0:=(some ⟨x8,0,none⟩,2,W0)) (by
      rw[hI];refine⟨λp N=> ?_,by rw[x0];simp,by rw[drop_of_length_le ay];simp⟩;rw[x0] at N;simp only[mem_cons,not_mem_nil,or_false] at N;rw[x9];rcases N with rfl | rfl
      ·exact⟨by dsimp only;rw[z1];exact Seq.all (by simp[ints,aY.fC P]),z4,Nat.le_refl _⟩
      ·exact⟨hs.up,h8,hqc⟩)
     rw[hG] at B;dsimp only at B;rw[show W0.length=2 by rw[x0];rfl] at B;exact B.mono λv H' h=>by
      rcases h with ⟨s,B,O⟩ | h
      ·exact⟨none,_,O,s,B,by rw[hG]⟩
      ·exact h.elim
    rintro j s U y3;obtain⟨p,N⟩:∃p,p=ds.getD j ⟨none,0,0,[]⟩:=⟨_,Z⟩;have x6:ds[j]? =some p:=by rw[N];exact L9 j U
    rw[←N];refine jY.mono (CS (n:=110) (args:=[.i (j:Int),p.v]) (post:=λjj H1=>jj=none∧∃s',I j s'∧H1=jT r.D::G s') (by rw[e1];rfl) (by rw[e1];simp) hA ?_) (λb2 H' ⟨jj,H1,oH,⟨y5,s',z7,z3⟩,eH⟩=> .inl ⟨by rw[oH,y5];rfl,s',z7,by rw[eH,y5,z3];rfl⟩);rw[e1,e2];obtain⟨L,k2,k3⟩:(∀p∈s.2.2,Ok p)∧s.2.2.length=2+(k-(j+1))∧s.2.2.map (λp=>(p.1,p.2.l))=W0.map (λp=>(p.1,p.2.l))++(DL.drop (j+1)).reverse:=by rw[hI] at y3;exact y3
    obtain⟨A1,c1,W⟩:=s;dsimp only at L k2 k3;refine WC.sub (E:=(86,_)::(85,_)::_) (H':=r.A l .ready none::jT r.D::(λs:Option Addr×Nat×List (Int×Bs)=>ah x3 47 [.slice D k kd]::aV (.slice s.1 s.2.2.length s.2.1) 190 2 s.2.2.length (s.2.2.flatMap wrC)::ah Q 183 [.slice s.1 s.2.2.length s.2.1]::ah x4 3 [.i (1+5*J)]::C.A bc::dA bd bc g::T'.A bs bd g::ah bS 5 (ints .u8 a.bytes)::F) (A1,c1,W)) (Sub.refl _) (λw h=>by rw[hG] at h;exact h) ?_;dsimp only
    ·skip
     refine aj "aopo" ?_;refine⟨_,λw h=>h, ?_⟩;rw[e3];refine aj "sp<<ZbZb" ?_;refine WL.val (V.build (vs:=[(0,_),(1,_)]) ⟨ak Z,ak Z,trivial⟩ Z (ac1 _ _ _ _)) Z<|WL.buildSlice (E:=190) (cs:=[_,_]) (vs:=[(0,_)]) ⟨ak Z,trivial⟩ Z (ahJ _ _) Z (λu3=> ?_);refine WL.sub (Sub.refl _) (λw h=>h.bg 5 [4,0,1,2,3] Z)<|WL.append (m:=W.length) (q:=1) (news:=wrC (1+5*J+1+(j:Int),p)) underlying183 aql (ak Z) (ak Z) (Seq.all Z) (λu hu=>by simp only[mem_cons,not_mem_nil,or_false] at hu;rcases hu with rfl | rfl<;>rfl) ay Z Z (λz2 z0 awh axK=>aj "~oc" ?_);refine⟨_,λw h=>h.bg 6 [2,3,4,0,5] Z,Z,(z2,z0,W++[(1+5*J+1+(j:Int),p)]), ?_, ?_⟩
     ·rw[hI];refine⟨λy hy=> ?_,by dsimp only;rw[length_append,k2];simp;omega, ?_⟩
      ·rcases mem_append.1 hy with hy | hy
       ·exact L y hy
       ·rw[mem_singleton.1 hy,x9];obtain⟨B,O,h3⟩:=hd.ok p (mem_of_getElem? x6);exact⟨B.up,O,hdc p (mem_of_getElem? x6)⟩
      ·dsimp only;have z5:DL[j]? =some (2+5*J+(j:Int),p.l):=by rw[y0];exact afx (by rw[getElem?_map,x6];rfl)
       have JI:DL.drop j=(2+5*J+(j:Int),p.l)::DL.drop (j+1):=(List.getElem?_eq_some_iff.1 z5).2 ▸ drop_eq_getElem_cons _;rw[map_append,k3,JI,reverse_cons,append_assoc];congr 2;simp only[map_cons,map_nil];rw[show 1+5*J+1+(j:Int)=2+5*J+(j:Int) by omega]
     ·rw[hG];dsimp only;rw[length_append,flatMap_append];rfl
    ·skip
     obtain⟨⟨A3,c3,W⟩,ZH,rfl⟩:=ZB;obtain⟨L,k2,k3⟩:(∀p∈W,Ok p)∧W.length=2+(k-0)∧W.map (λp=>(p.1,p.2.l))=W0.map (λp=>(p.1,p.2.l))++(DL.drop 0).reverse:=by rw[hI] at ZH;exact ZH
     have x7:W.map (λp=>(p.1,p.2.l))=(acv x sd (ds.map Bs.l)).reverse:=by
      rw[k3,x0,y0];unfold acv;rw[reverse_append,←x2,←y4];rfl
     refine WC.sub (H':=jT D'::(λs:Option Addr×Nat×List (Int×Bs)=>ah x3 47 [.slice D k kd]::aV (.slice s.1 s.2.2.length s.2.1) 190 2 s.2.2.length (s.2.2.flatMap wrC)::ah Q 183 [.slice s.1 s.2.2.length s.2.1]::ah x4 3 [.i (1+5*J)]::C.A bc::dA bd bc g::T'.A bs bd g::ah bS 5 (ints .u8 a.bytes)::F) (A3,c3,W)) (Sub.refl _) (λw h=>by rw[hG] at h;exact h) ?_;dsimp only;rw[x9] at L;have ZG:=agG (x:=x) (by rw[←x2];exact P) (show 9≤g.cap by omega) sd (ds.map Bs.l);rw[←ZG] at d;have Bw:∀p∈W,p.2.l.length=p.2.m:=λp N=>by have :=(L p N).1.len;rwa [au,Nat.mul_one] at this
     have UW:∀ {i:Nat} {p:Int×Bs},W[i]? =some p→∀q v,(wrC p)[q]? =some v→∀H,Rd K (aV (.slice A3 W.length c3) 190 2 W.length (W.flatMap wrC)::H) (A3.map (·.add (i*2+q))) v:=λ{i p} N q v hv H=>(aV.seq (rW (f:=wrC) (s:=2) (λ_=>Z) W)).rd _ _ (JK (f:=wrC) (s:=2) (λ_=>Z) W i q p v N hv);refine aj "La<jR" ?_;refine WC.loop (σ:=Nat) (λi=>[(0,ptr bs 0),(19,ptr Q 0),(96,.slice A3 W.length c3),(97,.i (W.length:Int)),(98,.i (i:Int))]) (λ_=>jT D'::aV (.slice A3 W.length c3) 190 2 W.length (W.flatMap wrC)::ah Q 183 [.slice A3 W.length c3]::C.A bc::dA bd bc g::T'.A bs bd g::ah bS 5 (ints .u8 a.bytes)::F) (λi=>i≤W.length∧∀j p,j<i→W[j]? =some p→(p.2.m:Int)≤g.cap) (λi=>W.length-i) 0 ⟨zero_le _,λj p U=>absurd U (not_lt_zero j)⟩ bC (λw h=>h.bg 5 [0,2,3] Z) ?_;rintro i ⟨hi,nT⟩;refine aj "VJ" (aW (λh4=> ?_) λh4=> ?_)
     ·simp only[cZ] at h4;have y1:i<W.length:=ay;obtain⟨p,N⟩:∃p,W[i]? =some p:=⟨_,getElem?_eq_getElem y1⟩;have Bv:(i:Int).toNat=i:=ay;refine aj "Ea" ?_;refine WL.val (V.aG (v':=sp A3 (i*2)) (V.dw alZ (ak Z) (ak Z) (λ_=>by omega) (λ_=>by rw[Bv];exact (UW N 0 _ Z _).up)) (λ_=>by rw[Bv])) Z<|WL.val (V.tX (vs:=wrC p) ⟨isAgg190,sizeOf190⟩ (ak Z) Z aN (λ_ q v hq=>(UW N q v hq _).up)) Z<|aj "v" λu2=> ?_;refine aj "~.G~i~t~F~~W$" ?_;refine WQ.call (vs:=[_]) call50 ⟨ak Z,trivial⟩ (aK.mem (λF=>X4 (bs:=bs) (bd:=bd) (T:=T') (F:=F) yO) (by repeat (first | exact .head _ | apply Mem.tail))) Z<|aj "~[~dJ" (aW (λh5=> ?_) λh5=> ?_)
      ·simp only[cZ] at h5;have an9:(acv x sd (ds.map Bs.l)).any (λp=>decide (g.cap<(p.2.length:Int)))=true:=any_eq_true.2 ⟨(p.1,p.2.l),mem_reverse.1 (x7 ▸ mem_map.2 ⟨p,mem_of_getElem? N,Z⟩),by dsimp only;rw[Bw p (mem_of_getElem? N)];simpa using h5⟩;rw[if_pos an9] at d;refine aj "aF" ?_;exact mZ.agu (H':=C.A bc::dA bd bc g::T'.A bs bd g::F) _ (λw h=>h.bg 2 [1,0] Z) (bJ.eU Z Z Z) (λw h=>h.bg 7 [3,4,5] Z) (uN Oo t' d aN)
      ·simp only[cZ] at h5;refine aj "q8" ?_;exact⟨i+1,⟨y1,λj p' U BA=>by
        rcases Nat.lt_or_ge j i with h | h
        ·exact nT j p' h BA
        ·obtain rfl:j=i:=by omega
         rw[N] at BA;injection BA with BA
         subst BA;omega⟩,(by show W.length-(i+1)<W.length-i;omega),.cons Z bC,λw h=>h.tail⟩
     ·simp only[cZ] at h4;refine aj "Ka<F" ?_;obtain rfl:i=W.length:=by omega
      have an9:¬(acv x sd (ds.map Bs.l)).any (λp=>decide (g.cap<(p.2.length:Int)))=true:=λh=>by
       obtain⟨y,B,O⟩:=any_eq_true.1 h;have h3:y∈W.map (λp=>(p.1,p.2.l)):=by rw[x7];exact mem_reverse.2 B
       obtain⟨p,h4,rfl⟩:=mem_map.1 h3;obtain⟨j,U⟩:=getElem?_of_mem h4;have h6:=nT j p (List.getElem?_eq_some_iff.1 U).1 U;dsimp only at O;rw[Bw p h4] at O;simp at O;omega
      rw[if_neg an9] at d;exact mZ.agu (H':=C.A bc::dA bd bc g::T'.A bs bd g::aV (.slice A3 W.length c3) 190 2 W.length (W.flatMap wrC)::ah bS 5 (ints .u8 a.bytes)::F) _ cO (bJ.eU Z Z Z) (λw h=>h.bg 6 [1+1,3,4,0,5] Z) ⟨T',Oo,t',.inr ⟨d,A3,c3,W,bS,x7,Z,L,Z⟩⟩
end
end Go.Proofs.YtcedojacbhnbiaaGreat
