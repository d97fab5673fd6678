import Derived.Test.YtcedojacbhnbiaaGreatP3
set_option autoImplicit true
set_option linter.all false
set_option maxHeartbeats 2000000
set_option maxRecDepth 20000
set_option relaxedAutoImplicit true
namespace Go.Proofs.YtcedojacbhnbiaaGreat
open Go.Sl Go.RowKit Tryz List Nat
def force{α:Type}(n:Nat)(f:Nat→α):α:=Nat.rec (f 0) (λk _=>f (k+1)) n
theorem force_eq{α:Type}(n:Nat)(f:Nat→α):force n f=f n:=by cases n<;>rfl
def fB:List Nat:=[2,3,5,7,11,13,17,19,23,29,31,37,41,43,47,53,59,61,67,71,73,79,83,89,97,101,103,107,109,113,127,131,137,139,149,151,157,163,167,173,179,181,191,193,197,199,211,223,227,229,233,239,241,251,257,263,269,271,277,281,283,293,307,311,313,317,331,337,347,349,353,359,367,373,379,383,389,397,401,409]
def Ka:List Nat:=[4794697086780616226,8158064640168781261,13096744586834688815,16840607885511220156,4131703408338449720,6480981068601479193,10538285296894168987,12329834152419229976,15566598209576043074,1334009975649890238,2608012711638119052,6128411473006802146,8268148722764581231,9286055187155687089,11230858885718282805,13951009754708518548,16472876342353939154,17275323862435702243,1135362057144423861,2597628984639134821,3308224258029322869,5365058923640841347,6679025012923562964,8573033837759648693,10970295158949994411,12119686244451234320,12683024718118986047,13788192230050041572,14330467153632333762,15395433587784984357,489312712824947311,1452737877330783856,2861767655752347644,3322285676063803686,5560940570517711597,5996557281743188959,7280758554555802590,8532644243296465576,9350256976987008742,10552545826968843579,11727347734174303076,12113106623233404929,14000437183269869457,14369950271660146224,15101387698204529176,15463397548674623760,17586052441742319658,1182934255886127544,1847814050463011016,2177327727835720531,2830643537854262169,3796741975233480872,4115178125766777443,5681478168544905931,6601373596472566643,7507060721942968483,8399075790359081724,8693463985226723168,9568029438360202098,10144078919501101548,10430055236837252648,11840083180663258601,13761210420658862357,14299343276471374635,14566680578165727644,15097957966210449927,16922976911328602910,17689382322260857208,500013540394364858,748580250866718886,1242879168328830382,1977374033974150939,2944078676154940804,3659926193048069267,4368137639120453308,4836135668995329356,5532061633213252278,6448918945643986474,6902733635092675308,7801388544844847127]
def Sz:List Nat:=[7640891576956012808,13503953896175478587,4354685564936845355,11912009170470909681,5840696475078001361,11170449401992604703,2270897969802886507,6620516959819538809]
def rC:List Nat:=[1116352408,1899447441,3049323471,3921009573,961987163,1508970993,2453635748,2870763221,3624381080,310598401,607225278,1426881987,1925078388,2162078206,2614888103,3248222580,3835390401,4022224774,264347078,604807628,770255983,1249150122,1555081692,1996064986,2554220882,2821834349,2952996808,3210313671,3336571891,3584528711,113926993,338241895,666307205,773529912,1294757372,1396182291,1695183700,1986661051,2177026350,2456956037,2730485921,2820302411,3259730800,3345764771,3516065817,3600352804,4094571909,275423344,430227734,506948616,659060556,883997877,958139571,1322822218,1537002063,1747873779,1955562222,2024104815,2227730452,2361852424,2428436474,2756734187,3204031479,3329325298]
def uR:List Nat:=[1779033703,3144134277,1013904242,2773480762,1359893119,2600822924,528734635,1541459225]
def fQ(p pw sh:Nat):Nat→Nat→Nat
 | 0,out=>out
 | i+1,out=>fQ p pw sh i (bif ble ((out+2^i)^pw) (p*2^sh) then out+2^i else out)
theorem ad6:fB.map (λp=>fQ p 3 192 71 0%18446744073709551616)=Ka:=by kernel_rfl
theorem aez:(fB.take 8).map (λp=>fQ p 2 128 71 0%18446744073709551616)=Sz:=by kernel_rfl
theorem adp:(fB.take 64).map (λp=>fQ p 3 96 36 0%4294967296)=rC:=by kernel_rfl
theorem adG:(fB.take 8).map (λp=>fQ p 2 64 37 0%4294967296)=uR:=by kernel_rfl
structure O8 where
 (a b c d e f g h:Nat)
def O8.of(s:List Nat):O8:=⟨s.getD 0 0,s.getD 1 0,s.getD 2 0,s.getD 3 0,s.getD 4 0,s.getD 5 0,s.getD 6 0,s.getD 7 0⟩
def be(l:List Nat):Nat:=l.foldl (λa x=>256*a+x) 0
section
variable(M:Nat)
def QD(s:List Nat)(o:O8):List Nat :=
 [(s.getD 0 0+o.a)%M,(s.getD 1 0+o.b)%M,(s.getD 2 0+o.c)%M,(s.getD 3 0+o.d)%M,(s.getD 4 0+o.e)%M,(s.getD 5 0+o.f)%M,(s.getD 6 0+o.g)%M,(s.getD 7 0+o.h)%M]
def Ui(s1 s0:Nat→Nat)(o:O8)(k w:Nat):O8 :=
 force ((o.h+s1 o.e+(o.e &&& o.f ^^^ (M-1-o.e) &&& o.g)+k+w)%M) λt1 =>
 force (s0 o.a+(o.a &&& o.b ^^^ o.a &&& o.c ^^^ o.b &&& o.c)) λt2 =>
 force ((t1+t2)%M) λa=>force ((o.d+t1)%M) λe=>⟨a,o.a,o.b,o.c,e,o.e,o.f,o.g⟩
def yK(s1 s0:Nat→Nat):List Nat→List Nat→O8→O8
 | k::ks,w::ws,o=>yK s1 s0 ks ws (Ui M s1 s0 o k w)
 | _,_,o=>o
def ac9(z1 z0:Nat→Nat)(w:List Nat):Nat:=(w.getD 15 0+z0 (w.getD 14 0)+w.getD 6 0+z1 (w.getD 1 0))%M
def xu(z1 z0:Nat→Nat):Nat→List Nat→List Nat
 | 0,w=>w
 | k+1,w=>force (ac9 M z1 z0 w) λx=>xu z1 z0 k (x::w)
def abA(q:Nat):Nat→List Nat→List Nat→List Nat
 | 0,_,w=>w
 | k+1,data,w=>force (be (data.take q)) λx=>abA q k (data.drop q) (x::w)
def abZ(s1 s0 z1 z0:Nat→Nat)(q n:Nat)(ks s data:List Nat):List Nat :=
 QD M s (yK M s1 s0 ks (xu M z1 z0 n (abA q 16 data [])).reverse (O8.of s))
end
def pY(x n:Nat):Nat:=x*2^(64-n)%18446744073709551616 ||| x/2^n
def xF(s data:List Nat):List Nat :=
 abZ 18446744073709551616 (λx=>pY x 14 ^^^ pY x 18 ^^^ pY x 41) (λx=>pY x 28 ^^^ pY x 34 ^^^ pY x 39)
  (λx=>pY x 19 ^^^ pY x 61 ^^^ x/2^6) (λx=>pY x 1 ^^^ pY x 8 ^^^ x/2^7) 8 64 Ka s data
def pR(x n:Nat):Nat:=x*2^(32-n)%4294967296 ||| x/2^n
def gV(s data:List Nat):List Nat :=
 abZ 4294967296 (λx=>pR x 6 ^^^ pR x 11 ^^^ pR x 25) (λx=>pR x 2 ^^^ pR x 13 ^^^ pR x 22)
  (λx=>pR x 17 ^^^ pR x 19 ^^^ x/2^10) (λx=>pR x 7 ^^^ pR x 18 ^^^ x/2^3) 4 48 rC s data
def dz(f:List Nat→List Nat→List Nat)(q:Nat):Nat→List Nat→List Nat→List Nat
 | 0,_,s=>s
 | k+1,data,s=>dz f q k (data.drop q) (f s (data.take q))
def lT(q r n:Nat):List Nat:=128::replicate (q-1-(n+r)%q) 0++replicate (r-8) 0++(bG 256 8 (8*n)).reverse
def oQ(data:List Nat):List Nat:=(dz xF 128 ((data.length+(lT 128 16 data.length).length)/128) (data++lT 128 16 data.length) Sz).flatMap λx=>(bG 256 8 x).reverse
def sum256(data:List Nat):List Nat:=(dz gV 64 ((data.length+(lT 64 8 data.length).length)/64) (data++lT 64 8 data.length) uR).flatMap λx=>(bG 256 4 x).reverse
example:oQ [97,98,99]=[0xdd,0xaf,0x35,0xa1,0x93,0x61,0x7a,0xba,0xcc,0x41,0x73,0x49,0xae,0x20,0x41,0x31,0x12,0xe6,0xfa,0x4e,0x89,0xa9,0x7e,0xa2,0x0a,0x9e,0xee,0xe6,0x4b,0x55,0xd3,0x9a,0x21,0x92,0x99,0x2a,0x27,0x4f,0xc1,0xa8,0x36,0xba,0x3c,0x23,0xa3,0xfe,0xeb,0xbd,0x45,0x4d,0x44,0x23,0x64,0x3c,0xe8,0x0e,0x2a,0x9a,0xc9,0x4f,0xa5,0x4c,0xa4,0x9f]:=by kernel_rfl
example:sum256 [97,98,99]=[0xba,0x78,0x16,0xbf,0x8f,0x01,0xcf,0xea,0x41,0x41,0x40,0xde,0x5d,0xae,0x22,0x23,0xb0,0x03,0x61,0xa3,0x96,0x17,0x7a,0x9c,0xb4,0x10,0xff,0x61,0xf2,0x00,0x15,0xad]:=by kernel_rfl
def fP:Nat:=57896044618658097711785492504343953926634992332820282019728792003956564819949
def vT(x y:Nat):Nat:=(x+y)%fP
def abw(x:Nat):Nat:=(fP-x)%fP
def uF(x y:Nat):Nat:=vT x (abw y)
def fG(x y:Nat):Nat:=x*y%fP
def Ei(x:Nat)(bit:Nat→Bool):Nat→Nat→Nat
 | 0,out=>out
 | i+1,out=>Ei x bit i (bif bit i then fG (fG out out) x else fG out out)
def Ec(a:Nat):Nat:=Ei a (λi=>testBit (fP-2) i) 255 1
def fI:Nat:=Ei 2 (λi=> !beq i 2) 253 1
def Ac(x:Nat):Nat×Bool :=
 let r:=Ei x (λi=>blt 0 i) 252 1
 let s:=bif beq (fG r r) x then r else fG r fI
 bif beq (fG s s) x then (bif beq (s%2) 1 then abw s else s,true) else (0,false)
def cD:Nat:=fG (uF 0 121665) (Ec 121666)
def cTw:Nat:=vT cD cD
def uK(p:Nat×Nat):Bool:=blt p.1 fP&&blt p.2 fP&&beq (uF (fG p.2 p.2) (fG p.1 p.1)) (vT 1 (fG cD (fG (fG p.1 p.1) (fG p.2 p.2))))
structure Pl where
 (x y z t:Nat)
def Pl.of(p:Nat×Nat):Pl:=⟨p.1,p.2,1,fG p.1 p.2⟩
def Pl.plain(p:Pl):Nat×Nat:=(fG p.x (Ec p.z),fG p.y (Ec p.z))
def Pl.plus(p q:Pl)(tw:Nat):Pl :=
 let a:=fG (uF p.y p.x) (uF q.y q.x)
 let b:=fG (vT p.y p.x) (vT q.y q.x)
 let c:=fG (fG p.t tw) q.t
 let w:=fG (vT p.z p.z) q.z
 ⟨fG (uF b a) (uF w c),fG (vT w c) (vT b a),fG (uF w c) (vT w c),fG (uF b a) (vT b a)⟩
def zC(one:Pl)(tw n:Nat):Nat→Pl→Pl
 | 0,out=>out
 | i+1,out=>zC one tw n i (bif testBit n i then (out.plus out tw).plus one tw else out.plus out tw)
def nN(n k:Nat)(p:Nat×Nat):Nat×Nat:=bif uK p then (zC (Pl.of p) cTw n (8*k) (Pl.of (0,1))).plain else (0,0)
def Pm(p q:Nat×Nat):Nat×Nat:=bif uK p&&uK q then ((Pl.of p).plus (Pl.of q) cTw).plain else (0,0)
def adB(p:Nat×Nat):Nat:=bif uK p then p.2+p.1%2*57896044618658097711785492504343953926634992332820282019728792003956564819968 else 0
def eZ(b:Nat):Option (Nat×Nat) :=
 let y:=b%57896044618658097711785492504343953926634992332820282019728792003956564819968
 bif blt y fP then
  let yy:=fG y y
  let r:=Ac (fG (uF yy 1) (Ec (vT (fG cD yy) 1)))
  bif r.2 then
   bif blt b 57896044618658097711785492504343953926634992332820282019728792003956564819968 then some (r.1,y) else bif beq r.1 0 then none else some (uF 0 r.1,y)
  else none
 else none
def cB:Nat×Nat:=(15112221349535400772501151409588531511454012693041857206046113283949847762202,46316835694926478169428394003475163141307993866256225615783033603165251855960)
theorem ai0:eZ (fG 4 (Ec 5))=some cB:=by kernel_rfl
def cL:Nat:=7237005577332262213973186563042994240857116359379907606001950938285454250989
def HV(l:List Nat):Nat:=vl 256 (oQ l)%cL
def Wo(n:Nat):Nat:=adB (nN n 32 cB)
def agP(b:Nat):Nat:=b%28948022309329048855892746252171976963317496166410141009864396001978282409984/8*8+28948022309329048855892746252171976963317496166410141009864396001978282409984
def Nv(seed:Nat):Nat×List Nat:=(agP (vl 256 ((oQ (bG 256 32 seed)).take 32)),(oQ (bG 256 32 seed)).drop 32)
def Ms(seed:Nat):Nat:=Wo (Nv seed).1
def Vg(seed:Nat)(msg:List Nat):Nat×Nat :=
 let n:=HV ((Nv seed).2++msg)
 let r:=Wo n
 let k:=HV (bG 256 32 r++bG 256 32 (Ms seed)++msg)
 (r,(k*(Nv seed).1+n)%cL)
def kE(pub:Nat)(msg:List Nat)(r s:Nat):Bool :=
 match eZ pub,eZ r with
 | some p,some q=>blt s cL&&(let a:=nN s 32 cB;let b:=Pm q (nN (HV (bG 256 32 r++bG 256 32 pub++msg)) 32 p);beq a.1 b.1&&beq a.2 b.2)
 | _,_=>false
example:kE (Ms 7) [1,2,3] (Vg 7 [1,2,3]).1 (Vg 7 [1,2,3]).2=true:=by kernel_rfl
example:kE (Ms 7) [1,2,4] (Vg 7 [1,2,3]).1 (Vg 7 [1,2,3]).2=false:=by kernel_rfl
theorem acK{x1:Nat}(hx:x=x1*4294967296+x0)(hy:y=y1*4294967296+y0)(h0:x0<4294967296)(h1:x1<4294967296)(h2:y0<4294967296)(h3:y1<4294967296) :
 ((
  x1*y1%18446744073709551616+((x1*y0%18446744073709551616+x0*y0%18446744073709551616/4294967296)%18446744073709551616)/4294967296)%18446744073709551616 +
  ((((x1*y0%18446744073709551616+x0*y0%18446744073709551616/4294967296)%18446744073709551616)%4294967296)+x0*y1%18446744073709551616)%18446744073709551616/4294967296)%18446744073709551616=x*y/18446744073709551616:=by
 have e:x*y=x1*y1*18446744073709551616+(x1*y0+x0*y1)*4294967296+x0*y0:=by
  subst hx hy;rw[Nat.mul_add,Nat.add_mul,Nat.add_mul,Nat.add_mul];rw[show x1*4294967296*(y1*4294967296)=x1*y1*18446744073709551616 by rw[Nat.mul_mul_mul_comm],show x0*(y1*4294967296)=x0*y1*4294967296 by rw[Nat.mul_assoc],show x1*4294967296*y0=x1*y0*4294967296 by rw[Nat.mul_right_comm]];omega
 have m:∀ {a b:Nat},a<4294967296→b<4294967296→a*b≤18446744065119617025:=λd h=>Nat.le_trans (Nat.mul_le_mul (le_of_lt_succ d) (le_of_lt_succ h)) aN;have l:=m h0 h2;have j:=m h1 h2;have n:=m h0 h3;have k:=m h1 h3;rw[e]
 generalize x0*y0=p at *
 generalize x1*y0=q at *
 generalize x0*y1=r at *
 generalize x1*y1=s at *
 omega
theorem ku{x y:Nat}(hx:x<18446744073709551616)(hy:y<18446744073709551616) :
 aK prog 293 #[.int .u64 (x:Int),.int .u64 (y:Int)] K F (.tuple #[.int .u64 ((x*y/18446744073709551616:Nat):Int),.int .u64 ((x*y%18446744073709551616:Nat):Int)]):=by
 refine aB.en func293 ntmps293 ?_;refine aj "ali" ?_;refine WL.val (V.CY (j:=4294967295) 64 (ak Z) (ak Z)) Z (aj "i" ?_);refine WL.val (V.wK (j:=32) (ak Z) (ak Z)) Z (aj "i" ?_);refine WL.val (V.CY (j:=4294967295) 64 (ak Z) (ak Z)) Z (aj "i" ?_);refine WL.val (V.wK (j:=32) (ak Z) (ak Z)) Z (aj "0" ?_);refine WL.val (V.Tx (M:=18446744073709551616) (ak Z) (ak Z)) Z (aj "0" ?_);refine WL.val (V.Tx (M:=18446744073709551616) (ak Z) (ak Z)) Z (WL.mv Z Z (WL.val (V.wK (j:=32) (ak Z) (ak Z)) Z (WL.val (V.Rz (M:=18446744073709551616) (ak Z) (ak Z)) Z (aj "i" ?_))));refine WL.val (V.CY (j:=4294967295) 64 (ak Z) (ak Z)) Z (aj "i" ?_);refine WL.val (V.wK (j:=32) (ak Z) (ak Z)) Z (aj "ix" ?_);refine WL.val (V.Tx (M:=18446744073709551616) (ak Z) (ak Z)) Z (WL.val (V.Rz (M:=18446744073709551616) (ak Z) (ak Z)) Z (aj "0" ?_));refine WL.val (V.Tx (M:=18446744073709551616) (ak Z) (ak Z)) Z (WL.mv Z Z (WL.val (V.Rz (M:=18446744073709551616) (ak Z) (ak Z)) Z (WL.mv Z Z (WL.val (V.wK (j:=32) (ak Z) (ak Z)) Z (WL.val (V.Rz (M:=18446744073709551616) (ak Z) (ak Z)) Z (aj "0" ?_))))));refine WL.val (V.Tx (M:=18446744073709551616) (ak Z) (ak Z)) Z (aj "d" ?_);refine aF.ret (H':=F) (bJ.eU Z Z Z) cO ⟨?_,Z⟩;have a:∀z:Nat,z &&& 4294967295=z%4294967296:=λz=>and_two_pow_sub_one_eq_mod z 32;simp only[a,show (2:Nat)^32=4294967296 from Z];rw[acK (x:=x) (y:=y) ay ay ay ay ay ay]
abbrev o8(n:Nat):Value:= .agg (av .u8 (bG 256 32 n)).toArray
abbrev w4(n:Nat):Value:= .agg (av .u64 (bG 18446744073709551616 4 n)).toArray
theorem jl(n:Nat):(bG 256 32 n).length=32:=rfl
theorem mH:aK prog 247 #[] K F (w4 fP):=by
 refine aB.en func247 ntmps247 ?_;refine WC.sr<|WL.jN .u64 4 zeroValue318 Z Z (λa=>aj "Q" ?_);refine WL.val (V.lX (k:= .u64) (l:=[_,_,_,_]) (vs:=[(0,_),(1,_),(2,_),(3,_)]) ⟨ak Z,ak Z,ak Z,ak Z,trivial⟩ Z (II _ _ _ _)) Z (WL.iD sizeOf318 (ak Z) (ak Z) ?_);refine aj "6" ?_;exact aF.ret (H':=F) (bJ.one Z (R1.dh (l:=bG 18446744073709551616 4 fP) Z ⟨isAgg318,sizeOf318⟩)) eO ⟨Z,Z⟩
theorem uU(h:b<2^k):a*2^k ||| b=a*2^k+b:=by
 rw[←shiftLeft_eq,shiftLeft_add_eq_or_of_lt h]
theorem Gy(hB:0<B)(h:i≤k):bG B k (n%B^i)=bG B i n++replicate (k-i) 0:=by
 obtain⟨j,rfl⟩:=Nat.le.dest h;rw[acX,nV,div_eq_of_lt (mod_lt _ (Nat.pow_pos hB)),qz,Nat.add_sub_cancel_left]
theorem VZ(hB:0<B)(h:i<k):(bG B k (n%B^i)).set i (n/B^i%B)=bG B k (n%B^(i+1)):=by grind [Gy,ab9]
theorem aaN(hB:0<B)(h:i<k):(bG B k (n%B^i)).set i 0=bG B k (n%B^i):=by
 have b:bG B k (n%B^i)=bG B i n++replicate (k-i) 0:=Gy hB ay;obtain⟨j,a⟩:∃j,k-i=j+1:=⟨k-i-1,by omega⟩;rw[b,set_append,aI,if_neg ay,Nat.sub_self,a,replicate_succ,set_cons_zero]
theorem zV{l:List Nat}(h:i<l.length):(l.set i x).getD i 0=x:=by simp[getD,h]
theorem getD_set_ne{l:List Nat}(h:i≠j):(l.set i x).getD j 0=l.getD j 0:=by simp[getD,getElem?_set,h]
theorem mg(n:Nat)(h:i<k):n%B^k/B^i%B=n/B^i%B:=by
 have a:=bV B k (n%B^k) i h;rw[nV,bV B k n i h] at a;exact a.symm
theorem oD(l:List Nat)(i d:Nat)(h:i<l.length):vl B ((l.set i d).take (i+1))=vl B (l.take i)+B^i*d:=by simp_all [Cr,take_set_of_le,Nat.le_refl,getD]
theorem mod_succ(x B k:Nat):x%B^(k+1)=x%B^k+B^k*(x/B^k%B):=mod_pow_succ
theorem WR(hk:k<8):n/18446744073709551616^i%18446744073709551616/256^(8-k)*2^8%18446744073709551616 ||| n/256^(8*i+(7-k))%256=n/18446744073709551616^i%18446744073709551616/256^(8-(k+1)):=by
 obtain⟨q,a⟩:∃q,q=n/18446744073709551616^i%18446744073709551616:=⟨_,Z⟩;have b:n/256^(8*i+(7-k))%256=q/256^(7-k)%256:=by
  rw[a,show (18446744073709551616:Nat)=256^8 by decide,mg _ ay,←Nat.pow_mul,Nat.div_div_eq_div_mul,←Nat.pow_add]
 have h:q<18446744073709551616:=by rw[a];exact mod_lt _ aN
 have d:q/256^(8-k)=q/256^(7-k)/256:=by rw[Nat.div_div_eq_div_mul,show 8-k=(7-k)+1 by omega,Nat.pow_succ]
 rw[←a,b,d,show 8-(k+1)=7-k by omega];have e:q/256^(7-k)≤q:=div_le_self _ _
 generalize q/256^(7-k)=z at *
 rw[mod_eq_of_lt ay,uU ay];omega
theorem FM{P:Nat}(h:o+yy=xx+b*P)(hd:d+yi+b=xi+b'*W):o+P*d+(yy+P*yi)=xx+P*xi+b'*(P*W):=by grind
theorem Tv{P:Nat}(h:o+b*P=xx+yy)(hd:d+b'*W=xi+yi+b):o+P*d+b'*(P*W)=xx+P*xi+(yy+P*yi):=by grind
theorem CG(h:aA 18446744073709551616 l)(hl:l.length=4):vl 18446744073709551616 l<115792089237316195423570985008687907853269984665640564039457584007913129639936:=by
 have :=nH h;rw[hl] at this;exact this
def agh(z u:Nat):Nat:=(z%18446744073709551616+u*38%18446744073709551616+0)/18446744073709551616
def agT(z u:Nat):Nat:=(z/18446744073709551616%18446744073709551616+u*38/18446744073709551616+agh z u)/18446744073709551616
def aga(z u:Nat):Nat:=(z/18446744073709551616/18446744073709551616%18446744073709551616+0+agT z u)/18446744073709551616
def ab3(z u:Nat):Nat:=(z/18446744073709551616/18446744073709551616/18446744073709551616%18446744073709551616+0+aga z u)/18446744073709551616
def fdL(z u:Nat):List Nat:=[(z%18446744073709551616+u*38%18446744073709551616+0)%18446744073709551616,(z/18446744073709551616%18446744073709551616+u*38/18446744073709551616+agh z u)%18446744073709551616,(z/18446744073709551616/18446744073709551616%18446744073709551616+0+agT z u)%18446744073709551616,(z/18446744073709551616/18446744073709551616/18446744073709551616%18446744073709551616+0+aga z u)%18446744073709551616]
theorem afZ(hz:z<115792089237316195423570985008687907853269984665640564039457584007913129639936)(hu:u<18446744073709551616):vl 18446744073709551616 (fdL z u)+ab3 z u*115792089237316195423570985008687907853269984665640564039457584007913129639936=z+u*38:=by
 unfold fdL ab3 aga agT agh;simp only[vl];omega
theorem LU(z u:Nat):aA 18446744073709551616 (fdL z u):=λy a=>by
 simp only[fdL,mem_cons,not_mem_nil,or_false] at a;rcases a with rfl | rfl | rfl | rfl<;>exact mod_lt _ aN
theorem Qe(z u:Nat):(z+u*115792089237316195423570985008687907853269984665640564039457584007913129639936)%fP=(z+u*38)%fP:=by grind [fP,add_mul_mod_self_left]
theorem qD(n:Nat):aK prog 245 #[o8 n] K F (w4 n):=by
 refine aB.en func245 ntmps245 ?_;refine aj "a." λd=> ?_;refine WL.jN .u64 4 zeroValue318 Z Z (λb=> ?_);refine aj "Q" ?_;refine WL.jN .u64 4 zeroValue318 Z Z (λa=> ?_);refine aj "crcs" ?_;refine WC.loop (σ:=Nat) (λi=>[(1,ptr d 0),(2,ptr b 0),(3,ptr a 0),(6,.i ((i:Nat):Int))]) (λi=>ah a 318 (av .u64 (bG 18446744073709551616 4 (n%18446744073709551616^i)))::ah b 318 (av .u64 (replicate 4 0))::ah d 97 (av .u8 (bG 256 32 n))::F) (λi=>i≤4) (λi=>4-i) 0 (zero_le _) bC (λw h=>Sat.aT h (by rw[Nat.pow_zero,mod_one,qz])) ?_;rintro i e;refine WC.sr (WL.val (V.zI (j:=4) (ak Z) (ak Z)) Z ?_);refine aj "GJ" (aW (λaL=> ?_) λaL=> ?_)
 ·simp only[cZ] at aL;refine aj "Ywos" ?_;refine WC.loop (σ:=Nat) (λk=>[(1,ptr d 0),(2,ptr b 0),(3,ptr a 0),(6,.i ((i:Nat):Int)),(4,.i ((i:Nat):Int)),(5,.i (7-(k:Int)))]) (λk=>ah a 318 (av .u64 ((bG 18446744073709551616 4 (n%18446744073709551616^i)).set i (n/18446744073709551616^i%18446744073709551616/256^(8-k))))::ah b 318 (av .u64 (replicate 4 0))::ah d 97 (av .u8 (bG 256 32 n))::F) (λk=>k≤8) (λk=>8-k) 0 (zero_le _) bC (λw h=>Sat.aT h (by rw[show n/18446744073709551616^i%18446744073709551616/256^(8-0)=0 from div_eq_of_lt (mod_lt _ aN),aaN aN aL])) ?_;rintro k l;refine aj "r~gh" (aW (λaQ=> ?_) λaQ=> ?_)
  ·simp only[cZ] at aQ;rw[show (7:Int)-(k:Int)=((7-k:Nat):Int) by omega];refine aj "E" ?_;refine WC.Gp (by kernel_rfl) ?_;refine aj "n0n1" ?_;refine WA.t 2 Z (V.fV nK (ak Z) (ak Z)) ?_;refine aj "n5" ?_;refine WA.t 6 Z (V.Ob (i:=8) (ak Z) (ak Z)) ?_;refine aj "n7" ?_;refine WA.t 8 Z (V.wN (ak Z) (ak Z)) ?_;refine WA.t 9 Z (V.fV zJ (ak Z) (ak Z)) ?_;refine WA.t 10 Z (V.d9 isAgg5 (ak Z)) ?_;refine WA.t 11 Z (V.qQ runUnderlying5 runUnderlying306 (ak Z)) ?_;refine WA.o 3 Z ?_;refine WL.val (V.d9 isAgg306 (ak Z)) Z (WL.nil (WA.t 4 Z (V.G7 (j:=8) (M:=18446744073709551616) (ak Z) (ak Z)) ?_));refine WA.t 12 Z (V.Zv 64 (ak Z) (ak Z)) ?_;refine WA.t 13 Z (V.fV nK (ak Z) (ak Z)) ?_;refine WA.o 14 Z ?_;refine WL.gq sizeOf306 (ak Z) (ak Z) ?_;refine aj "*g~DN" ?_;refine⟨k+1,(by show k+1≤8;omega),(by show 8-(k+1)<8-k;omega),.cons Z (.cons Z (.cons Z (.cons Z (.cons Z (.cons (look_eq Z (by simp;omega)) (.nil _)))))),λw h=>Sat.aT h ?_⟩;rw[set_set,zV (by rw[aI];exact aL),bV _ _ _ _ ay,WR ay]
  ·simp only[cZ] at aQ;refine WC.exit ?_;obtain rfl:k=8:=by omega
   refine WC.region (WL.val (V.wN (j:=1) (ak Z) (ak Z)) Z (aj ">" ?_));refine⟨i+1,(by show i+1≤4;omega),(by show 4-(i+1)<4-i;omega),.cons Z bC,λw h=>Sat.aT h ?_⟩;rw[Nat.sub_self,Nat.pow_zero,Nat.div_one,VZ aN aL]
 ·simp only[cZ] at aL;refine aj "W" ?_;obtain rfl:i=4:=by omega
  rw[nV];refine WC.region (WL.val (V.jd ⟨isAgg318,sizeOf318⟩ (ak Z)) Z (WL.iD sizeOf318 (ak Z) (ak Z) ?_));refine aj "6" ?_;exact aF.ret (H':=F) (bJ.one Z (R1.dh Z ⟨isAgg318,sizeOf318⟩)) eO ⟨Z,Z⟩
theorem mK(n:Nat):aK prog 254 #[w4 n] K F (o8 n):=by
 refine aB.en func254 ntmps254 ?_;refine aj "a." λe=> ?_;refine WL.jN .u8 32 zeroValue97 Z Z (λb=>aj "Q" ?_);refine WL.jN .u8 32 zeroValue97 Z Z (λa=>aj "Ga" ?_);refine WL.val (V.jd ⟨isAgg318,sizeOf318⟩ (ak Z)) Z (aj "R" ?_);refine WC.loop (σ:=Nat) (λi=>[(2,ptr b 0),(3,ptr a 0),(7,w4 n),(8,.i ((i:Nat):Int))]) (λi=>ah a 97 (av .u8 (bG 256 32 (n%256^(8*i))))::ah b 97 (av .u8 (replicate 32 0))::F) (λi=>i≤4) (λi=>4-i) 0 (zero_le _) bC (λw h=>Sat.aT (h.bg 3 [0,1] Z) (by rw[Nat.mul_zero,Nat.pow_zero,mod_one,qz])) ?_;rintro i d;refine WC.sr (WL.val (V.zI (j:=4) (ak Z) (ak Z)) Z ?_);refine aj "GJ" (aW (λaL=> ?_) λaL=> ?_)
 ·simp only[cZ] at aL;refine aj "Y" ?_;refine WL.val (V.abx nK isAgg306 (ak Z) (ak Z)) Z (aj "lics" ?_);refine WC.loop (σ:=Nat) (λk=>[(2,ptr b 0),(3,ptr a 0),(7,w4 n),(8,.i ((i:Nat):Int)),(4,.i ((i:Nat):Int)),(5,.int .u64 ((n/18446744073709551616^i%18446744073709551616:Nat):Int)),(12,.i ((k:Nat):Int))]) (λk=>ah a 97 (av .u8 (bG 256 32 (n%256^(8*i+k))))::ah b 97 (av .u8 (replicate 32 0))::F) (λk=>k≤8) (λk=>8-k) 0 (zero_le _) (.cons Z (.cons Z (.cons Z (.cons Z (.cons Z (.cons (look_eq Z (by rw[bV _ _ _ _ aL])) bC)))))) cO ?_;rintro k l;refine WC.sr (WL.val (V.zI (j:=8) (ak Z) (ak Z)) Z ?_);refine aj "GJ" (aW (λaQ=> ?_) λaQ=> ?_)
  ·simp only[cZ] at aQ;refine aj "YO" ?_;refine WL.val (V.Ob (i:=8) (ak Z) (ak Z)) Z (WL.mv Z Z (WL.val (V.wN (ak Z) (ak Z)) Z (aj "x" ?_)));refine WL.val (V.Ob (i:=8) (ak Z) (ak Z)) Z (WL.val (V.wK (ak Z) (ak Z)) Z (WL.val (V.G6 (M:=256) runUnderlying306 runUnderlying5 (ak Z)) Z (WL.val (V.fV zJ (ak Z) (ak Z)) Z (WL.gq sizeOf5 (ak Z) (ak Z) ?_))));refine aj "cp" ?_;refine WL.val (V.wN (j:=1) (ak Z) (ak Z)) Z (aj ">" ?_);refine⟨k+1,(by show k+1≤8;omega),(by show 8-(k+1)<8-k;omega),.cons Z bC,λw h=>Sat.aT h ?_⟩;rw[show n/18446744073709551616^i%18446744073709551616/2^(8*k)%256=n/256^(8*i+k)%256 by
    rw[show (18446744073709551616:Nat)=256^8 by decide,show 2^(8*k)=256^k by rw[Nat.pow_mul],mg _ aQ,←Nat.pow_mul,Nat.div_div_eq_div_mul,←Nat.pow_add],VZ aN ay,Nat.add_assoc]
  ·simp only[cZ] at aQ;refine WC.exit ?_;obtain rfl:k=8:=by omega
   refine WC.region (WL.val (V.wN (j:=1) (ak Z) (ak Z)) Z (aj ">" ?_));exact⟨i+1,(by show i+1≤4;omega),(by show 4-(i+1)<4-i;omega),.cons Z bC,λw h=>h⟩
 ·simp only[cZ] at aL;refine aj "W" ?_;obtain rfl:i=4:=by omega
  rw[show 256^(8*4)=256^32 from Z,nV];refine WC.region (WL.val (V.jd ⟨isAgg97,sizeOf97⟩ (ak Z)) Z (WL.iD sizeOf97 (ak Z) (ak Z) ?_));refine aj "6" ?_;exact aF.ret (H':=F) (bJ.one Z (R1.dh Z ⟨isAgg97,sizeOf97⟩)) eO ⟨Z,Z⟩
theorem j5(hx:x<115792089237316195423570985008687907853269984665640564039457584007913129639936)(hy:y<115792089237316195423570985008687907853269984665640564039457584007913129639936) :
 aK prog 246 #[w4 x,w4 y] K F (.tuple #[w4 ((x+115792089237316195423570985008687907853269984665640564039457584007913129639936-y)%115792089237316195423570985008687907853269984665640564039457584007913129639936),.bool (decide (y≤x))]):=by
 refine aB.en func246 ntmps246 ?_;refine aj "a." λe=> ?_;refine aj "." λd=> ?_;refine WL.jN .u64 4 zeroValue318 Z Z (λa=> ?_);refine aj "w" ?_;refine WL.jN .u64 4 zeroValue318 Z Z (λk=> ?_);refine aj "Qfcs" ?_;refine WC.loop (σ:=Nat×List Nat×Nat) (λs=>[(4,ptr a 0),(2,ptr e 0),(3,ptr d 0),(6,ptr k 0),(7,.int .u64 ((s.2.2:Nat):Int)),(9,.i ((s.1:Nat):Int))]) (λs=>ah k 318 (av .u64 s.2.1)::ah a 318 (av .u64 (replicate 4 0))::ah d 318 (av .u64 (bG 18446744073709551616 4 y))::ah e 318 (av .u64 (bG 18446744073709551616 4 x))::F)
  (λs=>s.1≤4∧s.2.1.length=4∧aA 18446744073709551616 s.2.1∧s.2.2≤1∧vl 18446744073709551616 (s.2.1.take s.1)+y%18446744073709551616^s.1=x%18446744073709551616^s.1+s.2.2*18446744073709551616^s.1) (λs=>4-s.1) (0,replicate 4 0,0) ⟨zero_le _,Z,aA.wJ aN,by decide,by simp[vl,mod_one]⟩ bC cO ?_
 rintro⟨i,out,b⟩ ⟨hi,hl,hs,hb,hv⟩;dsimp only at hi hl hs hb hv ⊢;refine WC.sr (WL.val (V.zI (j:=4) (ak Z) (ak Z)) Z ?_);refine aj "GJ" (aW (λaL=> ?_) λaL=> ?_)
 ·simp only[cZ] at aL;refine aj "Yo" ?_;refine WC.Gp (by kernel_rfl) ?_;refine aj "n0n1" ?_;refine WA.t 2 Z (V.fV nK (ak Z) (ak Z)) ?_;refine WA.t 3 Z (V.d9 isAgg306 (ak Z)) ?_;refine aj "n4" ?_;refine WA.t 5 Z (V.fV nK (ak Z) (ak Z)) ?_;refine WA.t 6 Z (V.d9 isAgg306 (ak Z)) ?_;refine aj "n7" ?_;refine WA.t 8 Z (V.ext (λB=>zZ _ _ _ ay) ⟨ak Z,ak Z,ak Z,trivial⟩) ?_;refine aj "n9~q:~q;" ?_;refine WA.t 12 Z (V.fV nK (ak Z) (ak Z)) ?_;refine WA.o 13 Z ?_;refine WL.gq sizeOf306 (ak Z) (ak Z) ?_;refine aj "c~A>~rp" ?_;refine WL.val (V.wN (j:=1) (ak Z) (ak Z)) Z (aj ">" ?_);rw[bV _ _ _ _ aL,bV _ _ _ _ aL];have n:x/18446744073709551616^i%18446744073709551616<18446744073709551616:=mod_lt _ aN;have m:y/18446744073709551616^i%18446744073709551616<18446744073709551616:=mod_lt _ aN;refine⟨(i+1,_,if x/18446744073709551616^i%18446744073709551616<y/18446744073709551616^i%18446744073709551616+b then 1 else 0),⟨by show i+1≤4;omega,by show (out.set i _).length=4;rw[length_set];exact hl,hs.set (mod_lt _ aN),(by dsimp only;split<;>omega), ?_⟩,(by show 4-(i+1)<4-i;omega),.cons Z bC,λw h=>h⟩;dsimp only;rw[oD _ _ _ ay,mod_succ y,mod_succ x,Nat.pow_succ];exact FM hv (by split<;>omega)
 ·simp only[cZ] at aL;refine aj "W" ?_;obtain rfl:i=4:=by omega
  rw[take_of_length_le ay,mod_eq_of_lt hx,mod_eq_of_lt hy] at hv;have r:=CG hs hl;refine WC.region (WL.val (V.jd ⟨isAgg318,sizeOf318⟩ (ak Z)) Z (WL.mv Z Z (WL.val (V.G5 (j:=0) (ak Z) (ak Z)) Z (WL.iD sizeOf318 (ak Z) (ak Z) ?_))));refine aj "d" ?_;have u:(x+115792089237316195423570985008687907853269984665640564039457584007913129639936-y)%115792089237316195423570985008687907853269984665640564039457584007913129639936=vl 18446744073709551616 out:=by
   have :b=0∨b=1:=ay;rcases this with rfl | rfl<;>omega
  refine aF.ret (H':=F) (bJ.two Z (R1.dh (l:=out) Z ⟨isAgg318,sizeOf318⟩) (R1.tmp Z)) eO ⟨?_,Z⟩;rw[u,w4,ng hs hl,show decide (y≤x)=decide (b=0) from decide_eq_decide.2 (by rcases (show b=0∨b=1 by omega) with rfl | rfl<;>omega)]
theorem qb(hx:x<115792089237316195423570985008687907853269984665640564039457584007913129639936):aK prog 296 #[w4 x] K F (w4 (x%fP)):=by
 refine aB.en func296 ntmps296 ?_;refine aj "a." λl=> ?_;refine WL.jN .u64 4 zeroValue318 Z Z (λk=> ?_);refine aj "cs" ?_;refine WC.loop (σ:=Nat×List aH) (λs=>[(1,ptr l 0),(2,ptr k 0)]) (λs=>ah k 318 (av .u64 (replicate 4 0))::ah l 318 (av .u64 (bG 18446744073709551616 4 s.1))::F) (λs=>s.1<115792089237316195423570985008687907853269984665640564039457584007913129639936∧s.1%fP=x%fP) (λs=>s.1) (x,[]) ⟨hx,Z⟩ bC cO ?_;rintro⟨z,_⟩ ⟨hz,hzx⟩;dsimp only at hz hzx ⊢;refine aj "sL~X" ?_;refine WA.t 0 Z (V.jd ⟨isAgg318,sizeOf318⟩ (ak Z)) ?_;refine WA.two (i:=1) (j:=6) cO (by kernel_rfl) Z Z ?_ ?_
 ·refine WL.call (vs:=[]) call247 trivial (mH) Z ?_;rintro _ d ⟨rfl,a⟩;subst d;refine WL.nil ?_;refine WA.two (i:=2) (j:=6) eO (by kernel_rfl) Z Z ?_ ?_
  ·refine WL.t2 call246 Z Z (j5 (x:=z) (y:=fP) hz aN) Z ?_;refine aj "cn3~q4~q5m6" ?_;refine WL.jN .u64 4 zeroValue318 Z Z (λe=> ?_);refine aj "cm7" ?_;refine WL.iD sizeOf318 (ak Z) (ak Z) ?_;refine aj "c~A8~rr9h" (aW (λa=> ?_) λa=> ?_)
   ·simp only[oK] at a;refine WC.sr (WL.val (V.jd ⟨isAgg318,sizeOf318⟩ (ak Z)) Z (WL.iD sizeOf318 (ak Z) (ak Z) ?_));refine aj "6" ?_;refine aF.ret (H':=F) (bJ.one Z (R1.dh Z ⟨isAgg318,sizeOf318⟩)) eO ⟨?_,Z⟩;rw[←hzx,mod_eq_of_lt ay]
   ·simp only[oK] at a;refine aj "qp" ?_;refine WL.val (V.jd ⟨isAgg318,sizeOf318⟩ (ak Z)) Z (WL.iD sizeOf318 (ak Z) (ak Z) ?_);refine aj "c~s" ?_;refine⟨(z-fP,[]),⟨by show z-fP<_;omega,by show (z-fP)%fP=_;rw[←hzx,mod_eq_sub_mod a]⟩, ?_,.cons Z bC,λw h=> ?_⟩
    ·show z-fP<z;unfold fP at *
     omega
    ·have b:=h.tail;rw[show (z+115792089237316195423570985008687907853269984665640564039457584007913129639936-fP)%115792089237316195423570985008687907853269984665640564039457584007913129639936=z-fP by unfold fP at *;omega] at b;exact b
  ·refine WL.jN .u64 4 zeroValue318 Z Z (λe=> ?_);refine aj "cm2" ?_;refine WL.t2 call246 Z Z (j5 (x:=z) (y:=fP) hz aN) Z ?_;refine aj "cn3~q4~q5m7" ?_;refine WL.iD sizeOf318 (ak Z) (ak Z) ?_;refine aj "c~A8~rr9h" (aW (λa=> ?_) λa=> ?_)
   ·simp only[oK] at a;refine WC.sr (WL.val (V.jd ⟨isAgg318,sizeOf318⟩ (ak Z)) Z (WL.iD sizeOf318 (ak Z) (ak Z) ?_));refine aj "6" ?_;refine aF.ret (H':=F) (bJ.one Z (R1.dh Z ⟨isAgg318,sizeOf318⟩)) eO ⟨?_,Z⟩;rw[←hzx,mod_eq_of_lt ay]
   ·simp only[oK] at a;refine aj "qp" ?_;refine WL.val (V.jd ⟨isAgg318,sizeOf318⟩ (ak Z)) Z (WL.iD sizeOf318 (ak Z) (ak Z) ?_);refine aj "c~s" ?_;refine⟨(z-fP,[]),⟨by show z-fP<_;omega,by show (z-fP)%fP=_;rw[←hzx,mod_eq_sub_mod a]⟩, ?_,.cons Z bC,λw h=> ?_⟩
    ·show z-fP<z;unfold fP at *
     omega
    ·have b:=h.tail;rw[show (z+115792089237316195423570985008687907853269984665640564039457584007913129639936-fP)%115792089237316195423570985008687907853269984665640564039457584007913129639936=z-fP by unfold fP at *;omega] at b;exact b
 ·refine WL.jN .u64 4 zeroValue318 Z Z (λe=> ?_);refine aj "cm1" ?_;refine WL.call (vs:=[]) call247 trivial (mH) Z ?_;rintro _ d ⟨rfl,a⟩;subst d;refine aj "cm2" ?_;refine WL.t2 call246 Z Z (j5 (x:=z) (y:=fP) hz aN) Z ?_;refine aj "cn3~q4~q5m7" ?_;refine WL.iD sizeOf318 (ak Z) (ak Z) ?_;refine aj "c~A8~rr9h" (aW (λa=> ?_) λa=> ?_)
  ·simp only[oK] at a;refine WC.sr (WL.val (V.jd ⟨isAgg318,sizeOf318⟩ (ak Z)) Z (WL.iD sizeOf318 (ak Z) (ak Z) ?_));refine aj "6" ?_;refine aF.ret (H':=F) (bJ.one Z (R1.dh Z ⟨isAgg318,sizeOf318⟩)) eO ⟨?_,Z⟩;rw[←hzx,mod_eq_of_lt ay]
  ·simp only[oK] at a;refine aj "qp" ?_;refine WL.val (V.jd ⟨isAgg318,sizeOf318⟩ (ak Z)) Z (WL.iD sizeOf318 (ak Z) (ak Z) ?_);refine aj "c~s" ?_;refine⟨(z-fP,[]),⟨by show z-fP<_;omega,by show (z-fP)%fP=_;rw[←hzx,mod_eq_sub_mod a]⟩, ?_,.cons Z bC,λw h=> ?_⟩
   ·show z-fP<z;unfold fP at *
    omega
   ·have b:=h.tail;rw[show (z+115792089237316195423570985008687907853269984665640564039457584007913129639936-fP)%115792089237316195423570985008687907853269984665640564039457584007913129639936=z-fP by unfold fP at *;omega] at b;exact b
theorem Ir{top:Nat}(hx:x<115792089237316195423570985008687907853269984665640564039457584007913129639936)(ht:top<18446744073709551616):aK prog 295 #[w4 x,.int .u64 (top:Int)] K F (w4 ((x+top*115792089237316195423570985008687907853269984665640564039457584007913129639936)%fP)):=by
 refine aB.en func295 ntmps295 ?_;refine aj "a." λd=> ?_;refine WL.jN .u64 4 zeroValue318 Z Z (λa=> ?_);refine aj "Gs" ?_;refine WC.loop (σ:=Nat×Nat×Nat) (λs=>[(2,ptr d 0),(4,ptr a 0),(1,.int .u64 ((s.2.1:Nat):Int))]) (λs=>ah a 318 (av .u64 (replicate 4 0))::ah d 318 (av .u64 (bG 18446744073709551616 4 s.1))::F) (λs=>s.1<115792089237316195423570985008687907853269984665640564039457584007913129639936∧s.2.1<18446744073709551616∧(s.1+s.2.1*115792089237316195423570985008687907853269984665640564039457584007913129639936)%fP=(x+top*115792089237316195423570985008687907853269984665640564039457584007913129639936)%fP) (λs=>2*s.2.1+(if s.2.1=1∧115792089237316195423570985008687907853269984665640564039457584007913129639936≤s.1+38 then 1 else 0)) (x,top,0) ⟨hx,ht,Z⟩ bC cO ?_;rintro⟨z,u,_⟩ ⟨hz,hu,hzu⟩;dsimp only at hz hu hzu ⊢;rw[show av .u64 (bG 18446744073709551616 4 z)=av .u64 [z%18446744073709551616,z/18446744073709551616%18446744073709551616,z/18446744073709551616/18446744073709551616%18446744073709551616,z/18446744073709551616/18446744073709551616/18446744073709551616%18446744073709551616] from Z];refine aj "r" ?_;refine WL.val (V.aar (j:=0) (ak Z) (ak Z)) Z ?_;refine aj "h" (aW (λe=> ?_) λe=> ?_)
 ·simp only[cZ] at e;refine aj "qse" ?_;refine WL.t2 call293 Z Z (ku (y:=38) hu aN) Z ?_;refine aj "Hww" ?_;refine WL.val (V.fV (j:=0) nK (ak Z) (ak Z)) Z (WL.val (V.d9 isAgg306 (ak Z)) Z (WL.mv Z Z ?_));refine WL.val (V.ext (λb=>jJ _ _ 0 ay) ⟨ak Z,ak Z,ak Z,trivial⟩) Z ?_;refine aj "5" ?_;refine WL.val (V.fV (j:=0) nK (ak Z) (ak Z)) Z (WL.gq sizeOf306 (ak Z) (ak Z) ?_);refine aj "w" ?_;refine WL.val (V.fV (j:=1) nK (ak Z) (ak Z)) Z (WL.val (V.d9 isAgg306 (ak Z)) Z (aj "x" ?_));refine WL.val (V.ext (λb=>jJ _ _ _ ay) ⟨ak Z,ak Z,ak Z,trivial⟩) Z ?_;refine aj "5" ?_;refine WL.val (V.fV (j:=1) nK (ak Z) (ak Z)) Z (WL.gq sizeOf306 (ak Z) (ak Z) ?_);refine aj "w" ?_;refine WL.val (V.fV (j:=2) nK (ak Z) (ak Z)) Z (WL.val (V.d9 isAgg306 (ak Z)) Z (WL.mv Z Z ?_));refine WL.val (V.ext (λb=>jJ _ 0 _ ay) ⟨ak Z,ak Z,ak Z,trivial⟩) Z ?_;refine aj "5" ?_;refine WL.val (V.fV (j:=2) nK (ak Z) (ak Z)) Z (WL.gq sizeOf306 (ak Z) (ak Z) ?_);refine aj "w" ?_;refine WL.val (V.fV (j:=3) nK (ak Z) (ak Z)) Z (WL.val (V.d9 isAgg306 (ak Z)) Z (WL.mv Z Z ?_));refine WL.val (V.ext (λb=>jJ _ 0 _ ay) ⟨ak Z,ak Z,ak Z,trivial⟩) Z ?_;refine aj "5" ?_;refine WL.val (V.fV (j:=3) nK (ak Z) (ak Z)) Z (WL.gq sizeOf306 (ak Z) (ak Z) ?_);refine aj "ON" ?_;have hs:=afZ hz hu;have k:=CG (LU z u) Z;refine⟨(vl 18446744073709551616 (fdL z u),ab3 z u,0),⟨k,(by show ab3 z u<_;omega), ?_⟩, ?_,.cons Z bC,λw h=> ?_⟩
  ·show (vl 18446744073709551616 (fdL z u)+ab3 z u*115792089237316195423570985008687907853269984665640564039457584007913129639936)%fP=_;rw[hs,←hzu,Qe]
  ·dsimp only;split<;>split<;>omega
  ·have m:bG 18446744073709551616 4 (vl 18446744073709551616 (fdL z u))=fdL z u:=ng (LU z u) Z;show Sat K w (ah a _ _::ah d _ (av .u64 (bG 18446744073709551616 4 (vl 18446744073709551616 (fdL z u))))::F);rw[m];exact h
 ·simp only[cZ] at e;refine aj "W" ?_;obtain rfl:u=0:=by omega
  rw[Nat.zero_mul,Nat.add_zero] at hzu;refine WC.region (WL.val (V.jd (l:=bG 18446744073709551616 4 z) ⟨isAgg318,sizeOf318⟩ (ak Z)) Z (WL.t1 call296 Z (qb hz) Z ?_));refine WL.iD sizeOf318 (ak Z) (ak Z) ?_;refine aj "6" ?_;exact aF.ret (H':=F) (bJ.one Z (R1.dh Z ⟨isAgg318,sizeOf318⟩)) eO ⟨by rw[hzu],Z⟩
theorem KQ(hx:x<115792089237316195423570985008687907853269984665640564039457584007913129639936)(hy:y<115792089237316195423570985008687907853269984665640564039457584007913129639936):aK prog 297 #[w4 x,w4 y] K F (w4 ((x+y)%fP)):=by
 refine aB.en func297 ntmps297 ?_;refine aj "a." λk=> ?_;refine aj "." λe=> ?_;refine WL.jN .u64 4 zeroValue318 Z Z (λd=> ?_);refine aj "Qfcs" ?_;refine WC.loop (σ:=Nat×List Nat×Nat) (λs=>[(4,ptr d 0),(2,ptr k 0),(3,ptr e 0),(5,.int .u64 ((s.2.2:Nat):Int)),(7,.i ((s.1:Nat):Int))]) (λs=>ah k 318 (av .u64 s.2.1)::ah d 318 (av .u64 (replicate 4 0))::ah e 318 (av .u64 (bG 18446744073709551616 4 y))::F)
  (λs=>s.1≤4∧s.2.1.length=4∧aA 18446744073709551616 s.2.1∧s.2.2≤1∧(∀j,s.1≤j→s.2.1.getD j 0=(bG 18446744073709551616 4 x).getD j 0)∧vl 18446744073709551616 (s.2.1.take s.1)+s.2.2*18446744073709551616^s.1=x%18446744073709551616^s.1+y%18446744073709551616^s.1) (λs=>4-s.1) (0,bG 18446744073709551616 4 x,0) ⟨zero_le _,Z,bL aN _ _,zero_le _,λ_ _=>Z,by simp[vl,mod_one]⟩ bC (λw h=>h.bg 3 [2,0,1] Z) ?_
 rintro⟨i,out,b⟩ ⟨hi,hl,hs,hb,he,hv⟩;dsimp only at hi hl hs hb he hv ⊢;refine WC.sr (WL.val (V.zI (j:=4) (ak Z) (ak Z)) Z ?_);refine aj "GJ" (aW (λaL=> ?_) λaL=> ?_)
 ·simp only[cZ] at aL;refine aj "Yo" ?_;refine WC.Gp (by kernel_rfl) ?_;refine aj "n0n1" ?_;refine WA.t 2 Z (V.fV nK (ak Z) (ak Z)) ?_;refine aj "n4" ?_;refine WA.t 5 Z (V.fV nK (ak Z) (ak Z)) ?_;refine WA.t 6 Z (V.d9 isAgg306 (ak Z)) ?_;refine aj "n7m3" ?_;refine WL.val (V.d9 isAgg306 (ak Z)) Z (WL.nil ?_);refine WA.t 8 Z (V.ext (λu=>jJ _ _ _ ay) ⟨ak Z,ak Z,ak Z,trivial⟩) ?_;refine aj "n9~q:~q;" ?_;refine WA.t 12 Z (V.fV nK (ak Z) (ak Z)) ?_;refine WA.o 13 Z ?_;refine WL.gq sizeOf306 (ak Z) (ak Z) ?_;refine aj "c~A>~rp" ?_;refine WL.val (V.wN (j:=1) (ak Z) (ak Z)) Z (aj ">" ?_);rw[he i (Nat.le_refl _),bV _ _ _ _ aL,bV _ _ _ _ aL];have m:x/18446744073709551616^i%18446744073709551616<18446744073709551616:=mod_lt _ aN;have l:y/18446744073709551616^i%18446744073709551616<18446744073709551616:=mod_lt _ aN;refine⟨(i+1,_,(x/18446744073709551616^i%18446744073709551616+y/18446744073709551616^i%18446744073709551616+b)/18446744073709551616),⟨by show i+1≤4;omega,by show (out.set i _).length=4;rw[length_set];exact hl,hs.set (mod_lt _ aN),(by dsimp only;omega),λj r=> ?_, ?_⟩,(by show 4-(i+1)<4-i;omega),.cons Z bC,λw h=>h⟩
  ·dsimp only at r ⊢;rw[getD_set_ne ay];exact he j ay
  ·dsimp only;rw[oD _ _ _ ay,mod_succ y,mod_succ x,Nat.pow_succ];exact Tv hv ay
 ·simp only[cZ] at aL;refine aj "W" ?_;obtain rfl:i=4:=by omega
  rw[take_of_length_le ay,mod_eq_of_lt hx,mod_eq_of_lt hy] at hv;have a:=CG hs hl;have n:av .u64 out=av .u64 (bG 18446744073709551616 4 (vl 18446744073709551616 out)):=by rw[ng hs hl]
  rw[n];refine WC.region (WL.val (V.jd ⟨isAgg318,sizeOf318⟩ (ak Z)) Z (WL.mv Z Z (WL.t2 call295 Z Z (Ir a ay) Z ?_)));refine WL.iD sizeOf318 (ak Z) (ak Z) ?_;refine aj "6" ?_;exact aF.ret (H':=F) (bJ.one Z (R1.dh Z ⟨isAgg318,sizeOf318⟩)) eO ⟨by rw[show 115792089237316195423570985008687907853269984665640564039457584007913129639936=18446744073709551616^4 from Z,hv],Z⟩
theorem K5(hx:x<fP):aK prog 253 #[w4 x] K F (w4 (abw x)):=by
 have a:x<115792089237316195423570985008687907853269984665640564039457584007913129639936:=Nat.lt_trans hx aN;have b:(fP+115792089237316195423570985008687907853269984665640564039457584007913129639936-x)%115792089237316195423570985008687907853269984665640564039457584007913129639936=fP-x:=by unfold fP at *;omega
 refine aB.en func253 ntmps253 ?_;refine aj "a." λl=> ?_;refine WL.jN .u64 4 zeroValue318 Z Z (λk=> ?_);refine aj "G~X" ?_;refine WA.t 1 Z (V.jd ⟨isAgg318,sizeOf318⟩ (ak Z)) ?_;refine WA.two (i:=0) (j:=6) cO (by kernel_rfl) Z Z ?_ ?_
 ·refine WL.call (vs:=[]) call247 trivial (mH) Z ?_;rintro _ d ⟨rfl,h⟩;subst d;refine WL.nil ?_;refine WA.two (i:=2) (j:=6) eO (by kernel_rfl) Z Z ?_ ?_
  ·refine WL.t2 call246 Z Z (j5 (x:=fP) (y:=x) aN a) Z ?_;refine aj "cn3~q4~q5m6" ?_;refine WL.jN .u64 4 zeroValue318 Z Z (λe=> ?_);refine aj "cm7" ?_;refine WL.iD sizeOf318 (ak Z) (ak Z) ?_;refine aj "c~A8~rL" ?_;rw[b];refine WC.region (WL.val (V.jd ⟨isAgg318,sizeOf318⟩ (ak Z)) Z ?_);refine WL.t1 call296 Z (qb (x:=fP-x) (by unfold fP;omega)) Z ?_;refine WL.iD sizeOf318 (ak Z) (ak Z) ?_;refine aj "6" ?_;exact aF.ret (H':=F) (bJ.one Z (R1.dh Z ⟨isAgg318,sizeOf318⟩)) eO ⟨Z,Z⟩
  ·refine WL.jN .u64 4 zeroValue318 Z Z (λe=> ?_);refine aj "cm2" ?_;refine WL.t2 call246 Z Z (j5 (x:=fP) (y:=x) aN a) Z ?_;refine aj "cn3~q4~q5m7" ?_;refine WL.iD sizeOf318 (ak Z) (ak Z) ?_;refine aj "c~A8~rL" ?_;rw[b];refine WC.region (WL.val (V.jd ⟨isAgg318,sizeOf318⟩ (ak Z)) Z ?_);refine WL.t1 call296 Z (qb (x:=fP-x) (by unfold fP;omega)) Z ?_;refine WL.iD sizeOf318 (ak Z) (ak Z) ?_;refine aj "6" ?_;exact aF.ret (H':=F) (bJ.one Z (R1.dh Z ⟨isAgg318,sizeOf318⟩)) eO ⟨Z,Z⟩
 ·refine WL.jN .u64 4 zeroValue318 Z Z (λe=> ?_);refine aj "cm0" ?_;refine WL.call (vs:=[]) call247 trivial (mH) Z ?_;rintro _ d ⟨rfl,h⟩;subst d;refine aj "cm2" ?_;refine WL.t2 call246 Z Z (j5 (x:=fP) (y:=x) aN a) Z ?_;refine aj "cn3~q4~q5m7" ?_;refine WL.iD sizeOf318 (ak Z) (ak Z) ?_;refine aj "c~A8~rL" ?_;rw[b];refine WC.region (WL.val (V.jd ⟨isAgg318,sizeOf318⟩ (ak Z)) Z ?_);refine WL.t1 call296 Z (qb (x:=fP-x) (by unfold fP;omega)) Z ?_;refine WL.iD sizeOf318 (ak Z) (ak Z) ?_;refine aj "6" ?_;exact aF.ret (H':=F) (bJ.one Z (R1.dh Z ⟨isAgg318,sizeOf318⟩)) eO ⟨Z,Z⟩
def XF(m n o c:Nat):Nat:=((m*n/18446744073709551616+(m*n%18446744073709551616+o+0)/18446744073709551616)%18446744073709551616+((m*n%18446744073709551616+o+0)%18446744073709551616+c+0)/18446744073709551616)%18446744073709551616
theorem TU(hm:m<18446744073709551616)(hn:n<18446744073709551616)(ho:o<18446744073709551616)(hc:c<18446744073709551616):m*n+o+c=((m*n%18446744073709551616+o+0)%18446744073709551616+c+0)%18446744073709551616+XF m n o c*18446744073709551616:=by
 have a:m*n≤(18446744073709551616-1)*(18446744073709551616-1):=Nat.mul_le_mul ay ay;unfold XF
 generalize m*n=p at *
 omega
theorem NY(m n o c:Nat):XF m n o c<18446744073709551616:=mod_lt _ aN
theorem Rn{V:Nat}(h1:V+c*Q=A+B)(h2:V'+o*Q=V+lo*Q)(h3:p+o+c=lo+cy*w):V'+cy*(Q*w)=A+(B+p*Q):=by grind
theorem Qy{x:Nat}:x*(r%B^k+B^k*y)*B^i=x*(r%B^k)*B^i+x*y*B^(i+k):=by grind
theorem y7(k j:Nat):(replicate k 0).getD j 0=0:=by grind
theorem Yi{V:Nat}(h1:V+c*Q=A+38*B)(h3:m*38+c+o=lo+cy*w):V+Q*lo+cy*(Q*w)=A+Q*o+38*(B+Q*m):=by grind
theorem qh(hx:x<115792089237316195423570985008687907853269984665640564039457584007913129639936)(hy:y<115792089237316195423570985008687907853269984665640564039457584007913129639936):aK prog 251 #[w4 x,w4 y] K F (w4 (fG x y)):=by
 refine aB.en func251 ntmps251 ?_;refine aj "a." λL=> ?_;refine aj "." λB=> ?_;refine aP "z" λb=> ?_;refine aP "Qz" λa=> ?_;refine aP "GaBR" ?_;refine WC.loop (σ:=Nat×List Nat) (λs=>[(3,ptr B 0),(4,ptr b 0),(5,ptr a 0),(20,w4 x),(21,.i ((s.1:Nat):Int))]) (λs=>ah a 309 (av .u64 s.2)::ah b 318 (av .u64 (replicate 4 0))::ah B 318 (av .u64 (bG 18446744073709551616 4 y))::F)
  (λs=>s.1≤4∧s.2.length=8∧aA 18446744073709551616 s.2∧(∀j,s.1+4≤j→s.2.getD j 0=0)∧vl 18446744073709551616 s.2=x%18446744073709551616^s.1*y) (λs=>4-s.1) (0,replicate 8 0) ⟨zero_le _,Z,aA.wJ aN,λj _=>y7 _ _,by rw[GY];simp[mod_one]⟩ bC (λw h=>h.bg 4 [0,1,2] Z) ?_
 rintro⟨i,wide⟩ ⟨hi,hl,hs,hz,hv⟩;dsimp only at hi hl hs hz hv ⊢;refine aP "a~~EGJ" (aW (λaL=> ?_) λaL=> ?_)
 ·simp only[cZ] at aL;refine aP "Y~~tlt" ?_;have D:(bG 18446744073709551616 4 x).getD i 0=x/18446744073709551616^i%18446744073709551616:=bV _ _ _ _ aL;rw[D];have uI:x/18446744073709551616^i%18446744073709551616<18446744073709551616:=mod_lt _ aN;refine aP "ptaBR" ?_;refine WC.loop (σ:=Nat×List Nat×Nat) (λs=>[(3,ptr B 0),(4,ptr b 0),(5,ptr a 0),(20,w4 x),(21,.i ((i:Nat):Int)),(6,.i ((i:Nat):Int)),(7,.int .u64 ((x/18446744073709551616^i%18446744073709551616:Nat):Int)),(25,w4 y),(26,.i ((s.1:Nat):Int)),(8,.int .u64 ((s.2.2:Nat):Int))]) (λs=>ah a 309 (av .u64 s.2.1)::ah b 318 (av .u64 (replicate 4 0))::ah B 318 (av .u64 (bG 18446744073709551616 4 y))::F)
   (λs=>s.1≤4∧s.2.1.length=8∧aA 18446744073709551616 s.2.1∧(∀j,i+4≤j→s.2.1.getD j 0=0)∧s.2.2<18446744073709551616∧vl 18446744073709551616 s.2.1+s.2.2*18446744073709551616^(i+s.1)=x%18446744073709551616^i*y+x/18446744073709551616^i%18446744073709551616*(y%18446744073709551616^s.1)*18446744073709551616^i) (λs=>4-s.1) (0,wide,0) ⟨zero_le _,hl,hs,hz,(by show 0<_;decide),by dsimp only;rw[hv];simp[mod_one]⟩ bC cO ?_
  rintro⟨k,wd,cy⟩ ⟨hk,RY,uM,JN,Y5,Gf⟩;dsimp only at hk RY uM JN Y5 Gf ⊢;refine aP "a~~EGJ" (aW (λaQ=> ?_) λaQ=> ?_)
  ·simp only[cZ] at aQ;refine aP "Y~~tlt" ?_;have C:(bG 18446744073709551616 4 y).getD k 0=y/18446744073709551616^k%18446744073709551616:=bV _ _ _ _ aQ;rw[C];have e:y/18446744073709551616^k%18446744073709551616<18446744073709551616:=mod_lt _ aN;have Gh:=uM.at_ aN (i+k);refine aj "gb" ?_;refine WL.t2 call293 Z Z (ku uI e) Z<|aP "Hwix~W~K~4~=H0~00~=HOb~Wxb~0~K~Bop=>" ?_;have H:=TU uI e Gh Y5;refine⟨(k+1,_,XF (x/18446744073709551616^i%18446744073709551616) (y/18446744073709551616^k%18446744073709551616) (wd.getD (i+k) 0) cy),⟨by show k+1≤4;omega,by show (wd.set _ _).length=8;rw[length_set];exact RY,uM.set (mod_lt _ aN),λj r=> ?_,NY _ _ _ _, ?_⟩,(by show 4-(k+1)<4-k;omega),.cons Z bC,λw h=>h⟩
   ·dsimp only;rw[getD_set_ne ay];exact JN j r
   ·dsimp only;rw[mod_succ y,Qy,←Nat.add_assoc i k 1,Nat.pow_succ];exact Rn Gf (Hf _ _ _ _ ay) H
  ·simp only[cZ] at aQ;refine WC.exit ?_;obtain rfl:k=4:=by omega
   rw[mod_eq_of_lt hy] at Gf;refine aj "g" ?_;refine WL.val (V.wN (j:=4) (ak Z) (ak Z)) Z (aP "b~K~Bcp=>" ?_);refine⟨(i+1,_),⟨by show i+1≤4;omega,by show (wd.set _ _).length=8;rw[length_set];exact RY,uM.set Y5,λj r=> ?_, ?_⟩,(by show 4-(i+1)<4-i;omega),.cons Z bC,λw h=>h⟩
   ·dsimp only at r ⊢;rw[getD_set_ne ay];exact JN j ay
   ·dsimp only;have d:=Hf 18446744073709551616 wd (i+4) cy ay;rw[JN (i+4) (Nat.le_refl _),Nat.zero_mul,Nat.add_zero] at d;rw[d,Gf,mod_succ x,Nat.add_mul];congr 1;simp only[Nat.mul_assoc,Nat.mul_comm,Nat.mul_left_comm]
 ·simp only[cZ] at aL;refine aj "W" ?_;obtain rfl:i=4:=by omega
  rw[mod_eq_of_lt hx] at hv;obtain⟨z,n⟩:∃z,z=x*y:=⟨_,Z⟩;rw[←n] at hv;have G:z<18446744073709551616^8:=by have d:=nH hs;rw[hv,hl] at d;exact d
  obtain rfl:wide=bG 18446744073709551616 8 z:=by rw[←hv,ng hs hl]
  have JL:fG x y=(z%115792089237316195423570985008687907853269984665640564039457584007913129639936+z/115792089237316195423570985008687907853269984665640564039457584007913129639936*115792089237316195423570985008687907853269984665640564039457584007913129639936)%fP:=by rw[mod_add_div',fG,←n]
  refine WC.region<|WL.val (V.qM (l:=0) (h:=4) (u:=8) Di (ak Z) OO.none (OO.some (ak Z) (λ_=>Z)) OO.none (by simp) aN aN aN) Z<|WL.val (V.ai5 runUnderlying318 (ak Z) (λ_=>by decide)) Z<|WL.val (V.fE (vs:=av .u64 (bG 18446744073709551616 4 z)) ⟨isAgg318,sizeOf318⟩ (ak Z) Z (λ_=>fH.here (by show _ <+: List.drop 0 _;rw[drop_zero];exact IsPrefix.map _ (by rw[show bG 18446744073709551616 4 z=(bG 18446744073709551616 8 z).take 4 from (Ca aN).symm];exact take_prefix _ _)))) Z<|aP "z" λm=> ?_;refine aP "AQfcs" ?_;refine WC.loop (σ:=Nat×List Nat×Nat) (λs=>[(4,ptr b 0),(5,ptr a 0),(14,ptr m 0),(72,.i ((s.1:Nat):Int)),(15,.int .u64 ((s.2.2:Nat):Int))]) (λs=>ah m 318 (av .u64 s.2.1)::ah a 309 (av .u64 (bG 18446744073709551616 8 z))::ah b 318 (av .u64 (replicate 4 0))::F)
   (λs=>s.1≤4∧s.2.1.length=4∧aA 18446744073709551616 s.2.1∧(∀j,s.1≤j→s.2.1.getD j 0=(bG 18446744073709551616 4 z).getD j 0)∧s.2.2<18446744073709551616∧vl 18446744073709551616 (s.2.1.take s.1)+s.2.2*18446744073709551616^s.1=z%18446744073709551616^s.1+38*(z/115792089237316195423570985008687907853269984665640564039457584007913129639936%18446744073709551616^s.1)) (λs=>4-s.1) (0,bG 18446744073709551616 4 z,0) ⟨zero_le _,Z,bL aN _ _,λ_ _=>Z,(by show 0<_;decide),by simp[vl,mod_one]⟩ bC (λw h=>h.bg 4 [0,1,2] Z) ?_
  rintro⟨k,wd,cy⟩ ⟨hk,RY,uM,he1,Y5,Gf⟩;dsimp only at hk RY uM he1 Y5 Gf ⊢;refine aP "a~~EGJ" (aW (λbA=> ?_) λbA=> ?_)
  ·simp only[cZ] at bA;refine aj "Yi" ?_;refine WL.val (V.wN (i:=4) (ak Z) (ak Z)) Z (aP "~K" ?_);refine WL.val (V.aG (v':= .int .u64 ((z/115792089237316195423570985008687907853269984665640564039457584007913129639936/18446744073709551616^k%18446744073709551616:Nat):Int)) (V.d9 isAgg306 (ak Z)) (λ_=>by rw[bV _ _ _ _ ay,Nat.pow_add,←Nat.div_div_eq_div_mul])) Z<|WL.t2 call293 Z Z (ku (x:=z/115792089237316195423570985008687907853269984665640564039457584007913129639936/18446744073709551616^k%18446744073709551616) (y:=38) (mod_lt _ aN) aN) Z<|aP "Hw0~=H0~00~K~4b~=5~K~BOb~0op=>" ?_;have Oa:z/115792089237316195423570985008687907853269984665640564039457584007913129639936/18446744073709551616^k%18446744073709551616<18446744073709551616:=mod_lt _ aN;have Gh:z/18446744073709551616^k%18446744073709551616<18446744073709551616:=mod_lt _ aN;have H:=TU Oa (show 38<18446744073709551616 by decide) Y5 Gh;rw[he1 k (Nat.le_refl _),bV _ _ _ _ bA,Nat.add_comm (z/18446744073709551616^k%18446744073709551616) ((z/115792089237316195423570985008687907853269984665640564039457584007913129639936/18446744073709551616^k%18446744073709551616*38%18446744073709551616+cy+0)%18446744073709551616)];refine⟨(k+1,_,XF (z/115792089237316195423570985008687907853269984665640564039457584007913129639936/18446744073709551616^k%18446744073709551616) 38 cy (z/18446744073709551616^k%18446744073709551616)),⟨by show k+1≤4;omega,by show (wd.set _ _).length=4;rw[length_set];exact RY,uM.set (mod_lt _ aN),λj r=> ?_,NY _ _ _ _, ?_⟩,(by show 4-(k+1)<4-k;omega),.cons Z bC,λw h=>h⟩
   ·dsimp only at r ⊢;rw[getD_set_ne ay];exact he1 j ay
   ·dsimp only;rw[oD _ _ _ ay,mod_succ z,mod_succ (z/115792089237316195423570985008687907853269984665640564039457584007913129639936),Nat.pow_succ];exact Yi Gf H
  ·simp only[cZ] at bA;refine aj "W" ?_;obtain rfl:k=4:=by omega
   have I:=CG uM RY;rw[take_of_length_le ay,show 18446744073709551616^4=115792089237316195423570985008687907853269984665640564039457584007913129639936 from Z,mod_eq_of_lt (show z/115792089237316195423570985008687907853269984665640564039457584007913129639936<115792089237316195423570985008687907853269984665640564039457584007913129639936 from Nat.div_lt_of_lt_mul G)] at Gf;have J:av .u64 wd=av .u64 (bG 18446744073709551616 4 (vl 18446744073709551616 wd)):=by rw[ng uM RY]
   rw[J];refine aP "pBb" ?_;refine WL.t2 call295 Z Z (Ir I Y5) Z<|aP "A6" ?_;exact aF.ret (H':=F) (bJ.one Z (R1.dh Z ⟨isAgg318,sizeOf318⟩)) eO ⟨by rw[Gf,JL,Qe,Nat.mul_comm 38],Z⟩
theorem acf:fP<115792089237316195423570985008687907853269984665640564039457584007913129639936:=by decide
theorem lM(x y:Nat):vT x y<fP:=mod_lt _ aN
theorem cK(x y:Nat):fG x y<fP:=mod_lt _ aN
theorem VR(x:Nat):abw x<fP:=mod_lt _ aN
theorem nX(x y:Nat):uF x y<fP:=mod_lt _ aN
theorem zR(h:x<fP):x<115792089237316195423570985008687907853269984665640564039457584007913129639936:=Nat.lt_trans h acf
theorem Dg:∀ {i out:Nat},out<fP→Ei x bit i out<fP
 | 0,out,h=>h
 | i+1,out,h=>by
  rw[Ei];exact Dg (by cases bit i<;>exact cK _ _)
theorem Cu(a:Nat):Ec a<fP:=Dg aN
theorem ags(hi:i<256):aK prog 298 #[w4 x,.i ((i:Nat):Int)] K F (.bool (x.testBit i)):=by
 refine aB.en func298 ntmps298 ?_;refine aj "a." λd=> ?_;refine aj "i" ?_;refine WL.val (V.XI (j:=64) (ak Z) (ak Z)) Z (aP "~K~4b~~(~%~~)~~Kd:" ?_);congr 1;rw[bV _ _ _ _ ay,show (1:Nat)=2^1-1 from Z,and_two_pow_sub_one_eq_mod,testBit_eq_decide_div_mod_eq];apply decide_eq_decide.2;have a:x/18446744073709551616^(i/64)%18446744073709551616/2^(i%64)%2^1=x/2^i%2:=by
  have b:x/18446744073709551616^(i/64)/2^(i%64)=x/2^i:=by
   rw[show (18446744073709551616:Nat)=2^64 by decide,←Nat.pow_mul,Nat.div_div_eq_div_mul,←Nat.pow_add,div_add_mod]
  rw[←b,show (18446744073709551616:Nat)=2^64 by decide,Nat.pow_one,mg (B:=2) _ ay]
 rw[a]
theorem xC{f:Nat}(hx:x<115792089237316195423570985008687907853269984665640564039457584007913129639936)(hm:m≤300)(hc:bP prog f)(hb:∀i,i<m→∀F,aK prog f (first++[Value.int .i64 ((i:Nat):Int)]++captured).toArray K F (.bool (bit i))) :
 aK prog 249 #[w4 x,.i ((m:Nat):Int),.func (.func f) first.toArray captured.toArray] K F (w4 (Ei x bit m 1)):=by
 refine aB.en func249 ntmps249 ?_;refine aj "a." λa=> ?_;refine aP "z" λd=> ?_;refine aj "Q" ?_;refine WL.val (V.lX (k:= .u64) (l:=[_,_,_,_]) (vs:=[(0,_)]) ⟨ak Z,trivial⟩ Z (IE _)) Z<|aP "z" λb=> ?_;refine aP "Acr~Dos" ?_;refine WC.loop (σ:=Nat×Nat) (λs=>[(2,.func (.func f) first.toArray captured.toArray),(3,ptr a 0),(6,ptr d 0),(7,ptr b 0),(8,.i ((s.1:Int)-1))]) (λs=>ah b 318 (av .u64 (bG 18446744073709551616 4 s.2))::ah d 318 (av .u64 (replicate 4 0))::ah a 318 (av .u64 (bG 18446744073709551616 4 x))::F)
  (λs=>s.1≤m∧s.2<fP∧Ei x bit s.1 s.2=Ei x bit m 1) (λs=>s.1) (m,1) ⟨Nat.le_refl _,(by show 1<fP;decide),Z⟩ bC (λw h=>Sat.aT h (by kernel_rfl)) ?_
 rintro⟨i,out⟩ ⟨hi,ho,hp⟩;dsimp only at hi ho hp ⊢;refine aj "r~gh" (aW (λaL=> ?_) λaL=> ?_)
 ·simp only[cZ] at aL;obtain⟨i,rfl⟩:∃q,i=q+1:=⟨i-1,by omega⟩;rw[show ((i+1:Nat):Int)-1=((i:Nat):Int) by omega];rw[Ei] at hp;refine aP "EaBB" ?_;refine WL.t2 call251 Z Z (qh (zR ho) (zR ho)) Z<|aP "Aceb" ?_;refine WL.ny (vs:=[_]) hc (ak Z) ⟨ak Z,trivial⟩ (hb i ay _) Z ?_;rintro _ _ ⟨rfl,rfl⟩;refine aj "h" (aW (λaQ=> ?_) λaQ=> ?_)
  ·skip
   rw[aQ] at hp;refine aP "pBB" ?_;refine WL.t2 call251 Z Z (qh (zR (cK _ _)) hx) Z<|aP "Acg~DN" ?_;exact⟨(i,_),⟨by show i≤m;omega,cK _ _,hp⟩,(by show i<i+1;omega),.cons Z bC,λw h=>h⟩
  ·skip
   rw[aQ] at hp;refine aj "qg~DN" ?_;exact⟨(i,_),⟨by show i≤m;omega,cK _ _,hp⟩,(by show i<i+1;omega),.cons Z bC,λw h=>h⟩
 ·simp only[cZ] at aL;refine aj "W" ?_;obtain rfl:i=0:=by omega
  rw[Ei] at hp;refine aP "pBA6" ?_;exact aF.ret (H':=F) (bJ.one Z (R1.dh Z ⟨isAgg318,sizeOf318⟩)) eO ⟨by rw[hp],Z⟩
theorem qV(hn:n<115792089237316195423570985008687907853269984665640564039457584007913129639936):aK prog 198 #[o8 n] K F (.bool (decide (n<fP))):=by
 refine aB.en func198 ntmps198 ?_;refine aj "a." λb=> ?_;refine aP "wB" ?_;refine WL.t1 call245 Z (qD n) Z<|WL.call (vs:=[]) call247 trivial (mH) Z ?_;rintro _ a ⟨rfl,e⟩;subst a;refine WL.t2 call246 Z Z (j5 (x:=n) (y:=fP) hn acf) Z<|aP "5z" λd=> ?_;refine aP "Ai9d:" ?_;congr 1;rcases Nat.lt_or_ge n fP with h | h
 ·simp[h,Nat.not_le.2 h]
 ·simp[h,Nat.not_lt.2 h]
theorem D6(ha:a<115792089237316195423570985008687907853269984665640564039457584007913129639936)(hb:b<115792089237316195423570985008687907853269984665640564039457584007913129639936):aK prog 292 #[o8 a,o8 b] K F (.tuple #[w4 (if a<fP∧b<fP then a else 0),w4 (if a<fP∧b<fP then b else 0),.i (if a<fP∧b<fP then 0 else 1)]):=by
 refine aB.en func292 ntmps292 ?_;refine aj "a." λn=> ?_;refine aj "." λm=> ?_;refine aP "z" λj=> ?_;refine aP "z" λr=> ?_;refine aP "taB" ?_;refine WL.t1 call198 Z (qV ha) Z<|aj "9b" ?_;refine WL.bI (oj:=_) Z Z Z GC.f (V.jd ⟨isAgg97,sizeOf97⟩ (ak Z)) Z<|WL.nL (oj:=_) (vs:=[_]) Z Z Z GC.f call198 ⟨OV.g Z id,trivial⟩ (λu=>qV hb) Z<|aj "~(Ih" (aW (λd=> ?_) λd=> ?_)
 ·simp only[Bool.or_eq_true,Bool.or_eq_false_iff,oK] at d;refine WC.sr (WL.val (V.lX (k:= .u64) (l:=replicate 4 0) (vs:=[]) trivial Z (aap )) Z (WL.val (V.lX (k:= .u64) (l:=replicate 4 0) (vs:=[]) trivial Z (aap )) Z (aP "AAd" ?_)));have e:¬(a<fP∧b<fP):=ay;rw[if_neg e,if_neg e,if_neg e];exact aF.ret (H':=F) (bJ.three Z (R1.dh (l:=bG 18446744073709551616 4 0) Z ⟨isAgg318,sizeOf318⟩) (R1.dh (l:=bG 18446744073709551616 4 0) Z ⟨isAgg318,sizeOf318⟩) (R1.tmp Z)) eO ⟨Z,Z⟩
 ·simp only[Bool.or_eq_true,Bool.or_eq_false_iff,oK] at d;refine aj "|" ?_;rw[if_pos d,if_pos d,if_pos d];refine WC.vU 2 [6] Z (by simp only[l8,mh,filter_cons,filter_nil,any_cons,any_nil,Nat.reduceBEq,Bool.or_false,Bool.or_true,Bool.not_true,Bool.not_false,if_true,if_false,Bool.false_eq_true];rfl) (by simp only[l8,mh,filter_cons,filter_nil,any_cons,any_nil,Nat.reduceBEq,Bool.or_false,Bool.or_true,Bool.not_true,Bool.not_false,if_true,if_false,Bool.false_eq_true];rfl)<|aP "~f0" ?_;refine UA.call (vs:=[_]) 1 Z call245 (λ_=>⟨ak Z,trivial⟩) (λH' h=>qD a) ?_;refine aP "~f2" ?_;refine UA.call (vs:=[_]) 3 Z call245 (λ_=>⟨ak Z,trivial⟩) (λH' h=>qD b) ?_;refine UA.lI 4 Z sizeOf318 (λ_=>ak Z) (λ_=>ak Z) ?_;refine UA.lI 5 Z sizeOf318 (λ_=>ak Z) (λ_=>ak Z) ?_;refine aP "~a6(" λBS=> ?_;simp only[map_cons,map_nil,cons_append,nil_append];exact WC.ret<|aF.ret (H':=F) (bJ.three Z (R1.dh Z ⟨isAgg318,sizeOf318⟩) (R1.dh Z ⟨isAgg318,sizeOf318⟩) (R1.tmp Z)) eO ⟨Z,Z⟩
theorem XD(ha:a<fP)(hb:b<fP):aK prog 257 #[o8 a,o8 b] K F (.tuple #[o8 (vT a b),.i 0]):=by
 refine aB.en func257 ntmps257 ?_;refine aj "a." λd=> ?_;refine aj "." λh=> ?_;refine aP "z" λe=> ?_;refine aP "wBB" ?_;refine WL.t2 call292 Z Z (D6 (zR ha) (zR hb)) Z<|aj "b~M" ?_;rw[if_pos ⟨ha,hb⟩,if_pos ⟨ha,hb⟩,if_pos ⟨ha,hb⟩];refine aP "~$z" λk=> ?_;refine aP "z" λj=> ?_;refine aP "AAwBB" ?_;refine WL.t2 call297 Z Z (KQ (zR ha) (zR hb)) Z<|WL.t1 call254 Z (mK (vT a b)) Z<|aP "bAd" ?_;exact aF.ret (H':=F) (bJ.two Z (R1.dh Z ⟨isAgg97,sizeOf97⟩) (R1.tmp Z)) eO ⟨Z,Z⟩
theorem WZ(ha:a<fP)(hb:b<fP):aK prog 255 #[o8 a,o8 b] K F (.tuple #[o8 (uF a b),.i 0]):=by
 refine aB.en func255 ntmps255 ?_;refine aj "a." λl=> ?_;refine aj "." λj=> ?_;refine aP "z" λe=> ?_;refine aP "wBB" ?_;refine WL.t2 call292 Z Z (D6 (zR ha) (zR hb)) Z<|aj "b~M" ?_;rw[if_pos ⟨ha,hb⟩,if_pos ⟨ha,hb⟩,if_pos ⟨ha,hb⟩];refine aP "~$z" λm=> ?_;refine aP "z" λk=> ?_;refine aP "AAt" ?_;refine WC.sub (Sub.refl _) (λw h=>h.bg 5 [2,0,1,3,4] Z)<|WC.vU 1 [5] Z (by simp only[l8,mh,filter_cons,filter_nil,any_cons,any_nil,Nat.reduceBEq,Bool.or_false,Bool.or_true,Bool.not_true,Bool.not_false,if_true,if_false,Bool.false_eq_true];rfl) (by simp only[l8,mh,filter_cons,filter_nil,any_cons,any_nil,Nat.reduceBEq,Bool.or_false,Bool.or_true,Bool.not_true,Bool.not_false,if_true,if_false,Bool.false_eq_true];rfl)<|aP "~f0~f1" ?_;refine UA.call (vs:=[_]) 2 Z call253 (λ_=>⟨ak Z,trivial⟩) (λH' d=>K5 hb) ?_;refine UA.call (vs:=[_,_]) 3 Z call297 (λ_=>⟨ak Z,ak Z,trivial⟩) (λH' d=>KQ (zR ha) (zR (VR b))) ?_;refine UA.call (vs:=[_]) 4 Z call254 (λ_=>⟨ak Z,trivial⟩) (λH' d=>mK (uF a b)) ?_;refine aP "M5" ?_;refine UA.lI 6 Z sizeOf97 (λ_=>ak Z) (λ_=>ak Z) ?_;refine aP "~a7(" λBS=> ?_;simp only[map_cons,map_nil,cons_append,nil_append];exact WC.ret<|aF.ret (H':=F) (bJ.two Z (R1.dh Z ⟨isAgg97,sizeOf97⟩) (R1.tmp Z)) eO ⟨Z,Z⟩
theorem WG(ha:a<fP)(hb:b<fP):aK prog 248 #[o8 a,o8 b] K F (.tuple #[o8 (fG a b),.i 0]):=by
 refine aB.en func248 ntmps248 ?_;refine aj "a." λd=> ?_;refine aj "." λh=> ?_;refine aP "z" λe=> ?_;refine aP "wBB" ?_;refine WL.t2 call292 Z Z (D6 (zR ha) (zR hb)) Z<|aj "b~M" ?_;rw[if_pos ⟨ha,hb⟩,if_pos ⟨ha,hb⟩,if_pos ⟨ha,hb⟩];refine aP "~$z" λk=> ?_;refine aP "z" λj=> ?_;refine aP "AAwBB" ?_;refine WL.t2 call251 Z Z (qh (zR ha) (zR hb)) Z<|WL.t1 call254 Z (mK (fG a b)) Z<|aP "bAd" ?_;exact aF.ret (H':=F) (bJ.two Z (R1.dh Z ⟨isAgg97,sizeOf97⟩) (R1.tmp Z)) eO ⟨Z,Z⟩
theorem vv(hn:n<B^k)(hm:m<B^k):decide (bG B k n=bG B k m)=decide (n=m):=by
 apply decide_eq_decide.2;constructor
 ·intro h;have a:=congrArg (vl B) h
  rwa [xV,xV,mod_eq_of_lt hn,mod_eq_of_lt hm] at a
 ·rintro rfl;rfl
theorem Yw(h:x<fP):x<256^32:=zR h
theorem QF(h:x<fP):x<18446744073709551616^4:=zR h
theorem Ya(ha:a<fP):aK prog 256 #[o8 a] K F (.tuple #[o8 (Ec a),.i (if a=0 then 20 else 0)]):=by
 have e:(fP+115792089237316195423570985008687907853269984665640564039457584007913129639936-2)%115792089237316195423570985008687907853269984665640564039457584007913129639936=fP-2:=by decide
 refine aB.en func256 ntmps256 ?_;refine aj "a." λu=> ?_;refine aP "z" λr=> ?_;refine aP "tsaB" ?_;refine WL.t1 call198 Z (qV (zR ha)) Z<|aj "9o" ?_;refine WC.ni Z ((by simp[ha]))<|aP "aB" ?_;refine WL.val (V.lX (l:=bG 256 32 0) (vs:=[]) trivial Z PV) Z<|WL.val (V.agF (by kernel_rfl) (ak Z) (ak Z) (iW.av underlying97 sizeOf5 isAgg5 underlying5 Z Z)) Z<|aj "oJ" (aW (λb=> ?_) λb=> ?_)
 ·skip
  rw[vv (Yw ha) aN] at b;simp only[cZ] at b;refine WC.sr (WL.val (V.lX (l:=bG 256 32 0) (vs:=[]) trivial Z PV) Z (aP "Ad" ?_));subst b;exact aF.ret (H':=F) (bJ.two Z (R1.dh Z ⟨isAgg97,sizeOf97⟩) (R1.tmp Z)) eO ⟨by rw[if_pos Z,show Ec 0=0 by kernel_rfl],Z⟩
 ·skip
  rw[vv (Yw ha) aN] at b;simp only[cZ] at b;refine aj "7" ?_;refine WL.call (vs:=[]) call247 trivial (mH) Z ?_;rintro _ j ⟨rfl,B⟩;subst j;refine WL.val (V.lX (l:=bG 18446744073709551616 4 2) (vs:=[(0,_)]) ⟨ak Z,trivial⟩ Z (IE _)) Z (WL.t2 call246 Z Z (j5 (x:=fP) (y:=2) acf aN) Z ?_);refine aP "5z" λn=> ?_;refine aP "At" ?_;rw[e];refine WC.sub (Sub.refl _) (λw h=>h.bg 3 [1,0,2] Z)<|WC.vU 1 [3] Z (by simp only[l8,mh,filter_cons,filter_nil,any_cons,any_nil,Nat.reduceBEq,Bool.or_false,Bool.or_true,Bool.not_true,Bool.not_false,if_true,if_false,Bool.false_eq_true];rfl) (by simp only[l8,mh,filter_cons,filter_nil,any_cons,any_nil,Nat.reduceBEq,Bool.or_false,Bool.or_true,Bool.not_true,Bool.not_false,if_true,if_false,Bool.false_eq_true];rfl)<|aP "~f0" ?_;refine UA.call (vs:=[_]) 1 Z call245 (λ_=>⟨ak Z,trivial⟩) (λH' d=>qD a) ?_;refine aP "~f2" ?_;refine UA.val 3 Z (λ_=>V.makeFunc (us:=[_]) (vs:=[]) ⟨ak Z,trivial⟩ trivial) ?_;refine UA.call (vs:=[_,_,_]) 4 Z call249 (λ_=>⟨ak Z,ak Z,ak Z,trivial⟩) (λH' d=>xC (m:=255) (first:=[w4 (fP-2)]) (captured:=[]) (zR ha) aN call298 (λi k F=>ags ay)) ?_;refine UA.call (vs:=[_]) 5 Z call254 (λ_=>⟨ak Z,trivial⟩) (λH' d=>mK (Ec a)) ?_;refine UA.lI 6 Z sizeOf97 (λ_=>ak Z) (λ_=>ak Z) ?_;refine aP "~a7(" λBS=> ?_;simp only[map_cons,map_nil,cons_append,nil_append];exact WC.ret<|aF.ret (H':=F) (bJ.two Z (R1.dh Z ⟨isAgg97,sizeOf97⟩) (R1.tmp Z)) eO ⟨by rw[if_neg b],Z⟩
theorem afX:aK prog 250 #[.i ((i:Nat):Int)] K F (.bool (blt 0 i)):=by
 refine aB.en func250 ntmps250 ?_;refine aP "ai~`d:" ?_;congr 1;rw[Bool.eq_iff_iff,blt_eq,decide_eq_true_eq]
theorem afU:aK prog 252 #[.i ((i:Nat):Int)] K F (.bool (!beq i 2)):=by
 refine aB.en func252 ntmps252 ?_;refine aj "ai" ?_;refine WL.val (V.XV (j:=2) (ak Z) (ak Z)) Z (aj "d:" ?_);congr 2;by_cases h:i=2
 ·subst h;rfl
 ·have :beq i 2=false:=by cases hb:beq i 2 with | false=>rfl | true=>exact absurd (eq_of_beq_eq_true hb) h
  simp[h,this]
theorem akF:fI<fP:=Dg aN
theorem NR(x y:Nat):beq x y=decide (x=y):=by rw[Bool.eq_iff_iff,decide_eq_true_eq,beq_eq]
def BR(a s:Nat):Nat×Bool:=bif decide (fG s s=a) then (bif decide (s%2=1) then abw s else s,true) else (0,false)
theorem Sd(ha:a<fP):aK prog 200 #[o8 a] K F (.tuple #[o8 (Ac a).1,.bool (Ac a).2,.i 0]):=by
 obtain⟨X,j⟩:∃X,X=Ac a:=⟨_,Z⟩;rw[←j];unfold Ac at j;obtain⟨r,u⟩:∃r,r=Ei a (λi=>blt 0 i) 252 1:=⟨_,Z⟩;have pG:r<fP:=by rw[u];exact Dg aN
 rw[←u] at j;dsimp only at j;simp only[NR] at j;have k:X=BR a (bif decide (fG r r=a) then r else fG r fI):=j;refine aB.en func200 ntmps200 ?_;refine aj "a." λH=> ?_;refine aP "z" λy=> ?_;refine aP "ltaB" ?_;refine WL.t1 call198 Z (qV (zR ha)) Z<|aj "9c" ?_;refine WC.ni Z ((by simp[ha]))<|aP "7B" ?_;refine WL.t1 call245 Z (qD a) Z<|aP "z" λx=> ?_;refine aP "AQB" ?_;refine WL.t3 call249 Z Z Z (xC (m:=252) (first:=[]) (captured:=[]) (bit:=λi=>blt 0 i) (zR ha) aN call250 (λi G F=>afX)) Z<|aP "z" λB=> ?_;refine aP "Ac" ?_;refine WC.join (σ:=Nat) (λs=>[(2,ptr y 0),(5,ptr x 0),(6,ptr B 0)]) (λs=>ah B 318 (av .u64 (bG 18446744073709551616 4 s))::ah x 318 (av .u64 (bG 18446744073709551616 4 a))::ah y 97 (av .u8 (replicate 32 0))::F) (λs=>s<fP∧X=BR a s) ?_ ?_
 ·skip
  refine WC.seq ?_;rw[←u];refine aP "~i~~z~~z" ?_;refine WQ.call (vs:=[_,_]) call251 ⟨ak Z,ak Z,trivial⟩ (qh (zR pG) (zR pG)) Z (aP "~~z" ?_);refine WQ.val (V.Qc (by kernel_rfl) (ak Z) (ak Z) (iW.av underlying318 sizeOf306 isAgg306 underlying306 Z Z)) Z<|aj "~dJ" (aW (λd=> ?_) λd=> ?_)
  ·skip
   rw[vv (QF (cK _ _)) (QF ha)] at d;simp only[oK] at d;refine WC.BZ 1 Z<|UA.Ru 0 Z (λ_=>V.jd ⟨isAgg318,sizeOf318⟩ (ak Z)) ?_;refine UA.val 1 Z (λ_=>V.lX (l:=bG 18446744073709551616 4 2) (vs:=[(0,_)]) ⟨ak Z,trivial⟩ Z (IE _)) ?_;refine UA.call (vs:=[_,_,_]) 2 Z call249 (λ_=>⟨ak Z,ak Z,ak Z,trivial⟩) (λH' C=>xC (m:=253) (first:=[]) (captured:=[]) (bit:=λi=> !beq i 2) (show 2<_ by decide) aN call252 (λi G F=>afU)) ?_;refine UA.call (vs:=[_,_]) 3 Z call251 (λ_=>⟨ak Z,ak Z,trivial⟩) (λH' C=>qh (zR pG) (zR akF)) ?_;refine UA.lI 4 Z sizeOf318 (λ_=>ak Z) (λ_=>ak Z) ?_;refine aP "(" λBS=> ?_;simp only[map_cons,map_nil,cons_append,nil_append];refine⟨Z, ?_⟩;exact⟨fG r fI,⟨cK _ _,by rw[k,decide_eq_false d,cond_false]⟩,.cons Z bC,λw h=>h.bg 4 [0,1,2] Z⟩
  ·skip
   rw[vv (QF (cK _ _)) (QF ha)] at d;simp only[oK] at d;refine aj "q~s" ?_;exact⟨r,⟨pG,by rw[k,decide_eq_true d,cond_true]⟩,.cons Z bC,λw h=>h.bg 4 [0,1,2] Z⟩
 ·skip
  rintro s ⟨hs,e⟩;refine aP "LL~i~~z~~z" ?_;refine WQ.call (vs:=[_,_]) call251 ⟨ak Z,ak Z,trivial⟩ (qh (zR hs) (zR hs)) Z (aP "~~z" ?_);refine WQ.val (V.Qc (by kernel_rfl) (ak Z) (ak Z) (iW.av underlying318 sizeOf306 isAgg306 underlying306 Z Z)) Z<|aj "~dJ" (aW (λb=> ?_) λb=> ?_)
  ·skip
   rw[vv (QF (cK _ _)) (QF ha)] at b;simp only[oK] at b;refine WC.sr (WL.val (V.lX (l:=bG 256 32 0) (vs:=[]) trivial Z PV) Z (aP "AF" ?_));rw[e,BR,decide_eq_false b,cond_false];exact aF.ret (H':=F) (bJ.three Z (R1.dh Z ⟨isAgg97,sizeOf97⟩) (R1.tmp Z) (R1.tmp Z)) eO ⟨Z,Z⟩
  ·skip
   rw[vv (QF (cK _ _)) (QF ha)] at b;simp only[oK] at b;refine aP "|a~~*~4~~)~~Kh" (aW (λn=> ?_) λn=> ?_)
   ·skip
    rw[show s%18446744073709551616 &&& 1=s%2 by rw[and_one_is_mod];omega] at n;simp only[cZ] at n;refine aP "pB" ?_;refine WL.t1 call253 Z (K5 hs) Z<|aP "AQB" ?_;refine WL.t1 call254 Z (mK _) Z<|aP "AF" ?_;have D:s%2=1∨s%2≠1:=ay;rw[e,BR,decide_eq_true b,cond_true];rw[decide_eq_true (show s%2=1 by omega),cond_true];exact aF.ret (H':=F) (bJ.three Z (R1.dh Z ⟨isAgg97,sizeOf97⟩) (R1.tmp Z) (R1.tmp Z)) eO ⟨Z,Z⟩
   ·skip
    rw[show s%18446744073709551616 &&& 1=s%2 by rw[and_one_is_mod];omega] at n;simp only[cZ] at n;refine aP "7B" ?_;refine WL.t1 call254 Z (mK _) Z<|aP "AF" ?_;have D:s%2=1∨s%2≠1:=ay;rw[e,BR,decide_eq_true b,cond_true];rw[decide_eq_false (show ¬s%2=1 by omega),cond_false];exact aF.ret (H':=F) (bJ.three Z (R1.dh Z ⟨isAgg97,sizeOf97⟩) (R1.tmp Z) (R1.tmp Z)) eO ⟨Z,Z⟩
abbrev Wj(p:Nat×Nat):List Nat:=bG 256 32 p.1++bG 256 32 p.2
abbrev pt(p:Nat×Nat):Value:= .agg (av .u8 (Wj p)).toArray
abbrev plL(p:Pl):List Nat:=bG 256 32 p.x++(bG 256 32 p.y++(bG 256 32 p.z++bG 256 32 p.t))
abbrev plv(p:Pl):Value:= .agg (av .u8 (plL p)).toArray
structure Pl.Ok(p:Pl):Prop where
 x:p.x<fP
 y:p.y<fP
 z:p.z<fP
 t:p.t<fP
theorem Pl.Ju(h1:p.1<fP)(h2:p.2<fP):(Pl.of p).Ok:=⟨h1,h2,(by show 1<fP;decide),cK _ _⟩
theorem Pl.Gv(p q:Pl)(tw:Nat):(p.plus q tw).Ok:=⟨cK _ _,cK _ _,cK _ _,cK _ _⟩
theorem oO(h:uK p=true):p.1<fP∧p.2<fP:=by simp_all [uK,Bool.and_eq_true,blt_eq]
theorem Tt(x y:Nat)(w:World):(Instr.build 219 [(0,o8 x),(1,o8 y)].toArray).run prog w= .ok (pt (x,y)) w:=by kernel_rfl
theorem adA(y:Nat)(w:World):(Instr.build 219 [(1,o8 y)].toArray).run prog w= .ok (pt (0,y)) w:=by kernel_rfl
theorem Gq(w:World):(Instr.build 219 [].toArray).run prog w= .ok (pt (0,0)) w:=by kernel_rfl
theorem Z6(x y z t:Nat)(w:World):(Instr.build 283 [(0,o8 x),(1,o8 y),(2,o8 z),(3,o8 t)].toArray).run prog w= .ok (plv ⟨x,y,z,t⟩) w:=by kernel_rfl
theorem af8(p:Nat×Nat)(w:World):(Instr.buildSlice 333 1 [(0,pt p)].toArray).run prog w= .ok (.slice (some ⟨w.heap.size,0,none⟩) 1 1) (w.alloc (.cells (av .u8 (Wj p)).toArray 219)):=by kernel_rfl
theorem aed(p q:Nat×Nat)(w:World):(Instr.buildSlice 333 2 [(0,pt p),(1,pt q)].toArray).run prog w= .ok (.slice (some ⟨w.heap.size,0,none⟩) 2 2) (w.alloc (.cells (av .u8 (Wj p++Wj q)).toArray 219)):=by kernel_rfl
theorem kG(ha:a<fP)(hb:b<fP):aK prog 204 #[o8 a,o8 b] K F (o8 (vT a b)):=by
 refine aB.en func204 ntmps204 ?_;refine aj "a." λe=> ?_;refine aj "." λd=> ?_;refine aP "z" λh=> ?_;refine aP "QBB" ?_;refine WL.t2 call257 Z Z (XD ha hb) Z<|aP "5z" λj=> ?_;refine aP "AwBA6" ?_;exact aF.ret (H':=F) (bJ.one Z (R1.dh Z ⟨isAgg97,sizeOf97⟩)) eO ⟨Z,Z⟩
theorem mE(ha:a<fP)(hb:b<fP):aK prog 201 #[o8 a,o8 b] K F (o8 (uF a b)):=by
 refine aB.en func201 ntmps201 ?_;refine aj "a." λe=> ?_;refine aj "." λd=> ?_;refine aP "z" λh=> ?_;refine aP "QBB" ?_;refine WL.t2 call255 Z Z (WZ ha hb) Z<|aP "5z" λj=> ?_;refine aP "AwBA6" ?_;exact aF.ret (H':=F) (bJ.one Z (R1.dh Z ⟨isAgg97,sizeOf97⟩)) eO ⟨Z,Z⟩
theorem dN(ha:a<fP)(hb:b<fP):aK prog 199 #[o8 a,o8 b] K F (o8 (fG a b)):=by
 refine aB.en func199 ntmps199 ?_;refine aj "a." λe=> ?_;refine aj "." λd=> ?_;refine aP "z" λh=> ?_;refine aP "QBB" ?_;refine WL.t2 call248 Z Z (WG ha hb) Z<|aP "5z" λj=> ?_;refine aP "AwBA6" ?_;exact aF.ret (H':=F) (bJ.one Z (R1.dh Z ⟨isAgg97,sizeOf97⟩)) eO ⟨Z,Z⟩
theorem zH(ha:a<fP):aK prog 203 #[o8 a] K F (o8 (Ec a)):=by
 refine aB.en func203 ntmps203 ?_;refine aj "a." λe=> ?_;refine aP "z" λd=> ?_;refine aP "QB" ?_;refine WL.t1 call256 Z (Ya ha) Z<|aP "5z" λb=> ?_;refine aP "AwBA6" ?_;exact aF.ret (H':=F) (bJ.one Z (R1.dh Z ⟨isAgg97,sizeOf97⟩)) eO ⟨Z,Z⟩
theorem aep(h:n<16777216):[n%256,n/2^8%256,n/2^16%256]++replicate 29 0=bG 256 32 n:=by
 rw[show bG 256 32 n=bG 256 3 n++bG 256 29 (n/256^3) from acX 256 3 29 n,show n/256^3=0 from div_eq_of_lt h,qz];congr 1;simp[bG,Nat.div_div_eq_div_mul]
theorem iF(h:n<16777216):aK prog 202 #[.i ((n:Nat):Int)] K F (o8 n):=by
 refine aB.en func202 ntmps202 ?_;refine aP "az" λa=> ?_;refine aP "ce~1b~~[~1b~~]~1" ?_;refine WL.val (V.lX (k:= .u8) (l:=[_,_,_,_,_,_,_,_,_,_,_,_,_,_,_,_,_,_,_,_,_,_,_,_,_,_,_,_,_,_,_,_]) (vs:=[(0,_),(1,_),(2,_)]) ⟨ak Z,ak Z,ak Z,trivial⟩ Z (Rq _ _ _)) Z (aP "A6" ?_);refine aF.ret (H':=F) (bJ.one Z (R1.dh Z ⟨isAgg97,sizeOf97⟩)) eO ⟨?_,Z⟩;rw[o8,←aep h];rfl
theorem zA:aK prog 205 #[] K F (o8 cD):=by
 refine aB.en func205 ntmps205 ?_;refine aP "az" λa=> ?_;refine aj "Q" ?_;refine WL.t1 call202 Z (iF (n:=0) aN) Z<|WL.t1 call202 Z (iF (n:=121665) aN) Z<|WL.t2 call201 Z Z (mE aN aN) Z<|WL.t1 call202 Z (iF (n:=121666) aN) Z<|WL.t1 call203 Z (zH aN) Z<|WL.t2 call199 Z Z (dN (nX _ _) (Cu _)) Z<|aP "A6" ?_;exact aF.ret (H':=F) (bJ.one Z (R1.dh Z ⟨isAgg97,sizeOf97⟩)) eO ⟨Z,Z⟩
theorem Ue:aK prog 211 #[] K F (pt (0,1)):=by
 refine aB.en func211 ntmps211 ?_;refine aP "az" λa=> ?_;refine aj "Q" ?_;refine WL.t1 call202 Z (iF (n:=1) aN) Z<|WL.val (V.build (vs:=[(1,_)]) ⟨ak Z,trivial⟩ Z (adA _)) Z (aP "A6" ?_);exact aF.ret (H':=F) (bJ.one Z (R1.dh Z ⟨isAgg219,sizeOf219⟩)) eO ⟨Z,Z⟩
theorem Cc(h1:p.1<fP)(h2:p.2<fP):aK prog 210 #[pt p] K F (plv (Pl.of p)):=by
 refine aB.en func210 ntmps210 ?_;refine aj "a." λd=> ?_;refine aP "z" λb=> ?_;refine aj "G" ?_;refine WC.sub (Sub.refl _) cO (aP "~<~v0~;1~v2~~Z3" ?_);refine UA.call (vs:=[_]) 4 Z call202 (λ_=>⟨ak Z,trivial⟩) (λH' a=>iF (n:=1) aN) ?_;refine aP "~v5~;6~v7~~Z8" ?_;refine UA.call (vs:=[_,_]) 9 Z call199 (λ_=>⟨ak Z,ak Z,trivial⟩) (λH' a=>dN h1 h2) ?_;refine UA.val 10 Z (λ_=>V.build (vs:=[(0,_),(1,_),(2,_),(3,_)]) ⟨ak Z,ak Z,ak Z,ak Z,trivial⟩ Z (Z6 _ _ _ _)) ?_;refine UA.lI 11 Z sizeOf283 (λ_=>ak Z) (λ_=>ak Z) ?_;refine aP "(" λBS=> ?_;simp only[map_cons,map_nil,cons_append,nil_append];exact WC.ret<|aF.ret (H':=F) (bJ.one Z (R1.dh Z ⟨isAgg283,sizeOf283⟩)) eO ⟨Z,Z⟩
theorem FD(h:p.Ok):aK prog 213 #[plv p] K F (pt p.plain):=by
 refine aB.en func213 ntmps213 ?_;refine aj "a." λe=> ?_;refine aP "z" λd=> ?_;refine aj "QX" ?_;refine WL.val (V.abX ⟨isAgg97,sizeOf97⟩ (ak Z)) Z (WL.t1 call203 Z (zH h.z) Z ?_);refine aP "z" λb=> ?_;refine aP "AG" ?_;refine WC.sub (Sub.refl _) (λw h=>h.bg 3 [1,0,2] Z)<|aP "~<~v0~;1~f2" ?_;refine UA.call (vs:=[_,_]) 3 Z call199 (λ_=>⟨ak Z,ak Z,trivial⟩) (λH' a=>dN h.x (Cu _)) ?_;refine aP "~v4~~L5~f6" ?_;refine UA.call (vs:=[_,_]) 7 Z call199 (λ_=>⟨ak Z,ak Z,trivial⟩) (λH' a=>dN h.y (Cu _)) ?_;refine UA.val 8 Z (λ_=>V.build (vs:=[(0,_),(1,_)]) ⟨ak Z,ak Z,trivial⟩ Z (Tt _ _)) ?_;refine UA.lI 9 Z sizeOf219 (λ_=>ak Z) (λ_=>ak Z) ?_;refine aP "(" λBS=> ?_;simp only[map_cons,map_nil,cons_append,nil_append];exact WC.ret<|aF.ret (H':=F) (bJ.one Z (R1.dh Z ⟨isAgg219,sizeOf219⟩)) eO ⟨Z,Z⟩
theorem Bf(hp:p.Ok)(hq:q.Ok)(ht:tw<fP):aK prog 212 #[plv p,plv q,o8 tw] K F (plv (p.plus q tw)):=by
 refine aB.en func212 ntmps212 ?_;refine aj "a." λn=> ?_;refine aj "." λm=> ?_;refine aj "." λu=> ?_;refine aP "z" λr=> ?_;refine aP "G~N~v0~~L1~v2~;3" ?_;refine UA.call (vs:=[_,_]) 4 Z call201 (λ_=>⟨ak Z,ak Z,trivial⟩) (λH' a=>mE hp.y hp.x) ?_;refine aP "~v5~~L6~v7~;8" ?_;refine UA.call (vs:=[_,_]) 9 Z call201 (λ_=>⟨ak Z,ak Z,trivial⟩) (λH' a=>mE hq.y hq.x) ?_;refine UA.call (vs:=[_,_]) 10 Z call199 (λ_=>⟨ak Z,ak Z,trivial⟩) (λH' a=>dN (nX _ _) (nX _ _)) ?_;refine UA.alloc 11 Z zeroValue97 (cs:=av .u8 (replicate 32 0)) Z ?_;refine UA.gq 12 0 Z Z sizeOf97 (λ_ _=>ak Z) (λ_ _=>ak Z) ?_;refine aP "(" λBS=> ?_;simp only[map_cons,map_nil,cons_append,nil_append];refine aP "L~N~v0~~L1~v2~;3" ?_;refine UA.call (vs:=[_,_]) 4 Z call204 (λ_=>⟨ak Z,ak Z,trivial⟩) (λH' a=>kG hp.y hp.x) ?_;refine aP "~v5~~L6~v7~;8" ?_;refine UA.call (vs:=[_,_]) 9 Z call204 (λ_=>⟨ak Z,ak Z,trivial⟩) (λH' a=>kG hq.y hq.x) ?_;refine UA.call (vs:=[_,_]) 10 Z call199 (λ_=>⟨ak Z,ak Z,trivial⟩) (λH' a=>dN (lM _ _) (lM _ _)) ?_;refine UA.alloc 11 Z zeroValue97 (cs:=av .u8 (replicate 32 0)) Z ?_;refine UA.gq 12 0 Z Z sizeOf97 (λ_ _=>ak Z) (λ_ _=>ak Z) ?_;refine aP "(" λe=> ?_;simp only[map_cons,map_nil,cons_append,nil_append];refine aP "L~N~v0" ?_;refine UA.val 1 Z (λ_=>V.aaf ⟨isAgg97,sizeOf97⟩ (ak Z)) ?_;refine aP "~f2" ?_;refine UA.call (vs:=[_,_]) 3 Z call199 (λ_=>⟨ak Z,ak Z,trivial⟩) (λH' a=>dN hp.t ht) ?_;refine aP "~v4" ?_;refine UA.val 5 Z (λ_=>V.aaf ⟨isAgg97,sizeOf97⟩ (ak Z)) ?_;refine UA.call (vs:=[_,_]) 6 Z call199 (λ_=>⟨ak Z,ak Z,trivial⟩) (λH' a=>dN (cK _ _) hq.t) ?_;refine UA.alloc 7 Z zeroValue97 (cs:=av .u8 (replicate 32 0)) Z ?_;refine UA.gq 8 0 Z Z sizeOf97 (λ_ _=>ak Z) (λ_ _=>ak Z) ?_;refine aP "(" λj=> ?_;simp only[map_cons,map_nil,cons_append,nil_append];refine aP "L~N~v0~~~a1~v2~~~a3" ?_;refine UA.call (vs:=[_,_]) 4 Z call204 (λ_=>⟨ak Z,ak Z,trivial⟩) (λH' a=>kG hp.z hp.z) ?_;refine aP "~v5~~~a6" ?_;refine UA.call (vs:=[_,_]) 7 Z call199 (λ_=>⟨ak Z,ak Z,trivial⟩) (λH' a=>dN (lM _ _) hq.z) ?_;refine UA.alloc 8 Z zeroValue97 (cs:=av .u8 (replicate 32 0)) Z ?_;refine UA.gq 9 0 Z Z sizeOf97 (λ_ _=>ak Z) (λ_ _=>ak Z) ?_;refine aP "(" λb=> ?_;simp only[map_cons,map_nil,cons_append,nil_append];refine aP "L~N~f0~f1" ?_;refine UA.call (vs:=[_,_]) 2 Z call201 (λ_=>⟨ak Z,ak Z,trivial⟩) (λH' a=>mE (cK _ _) (cK _ _)) ?_;refine aP "~f3~f4" ?_;refine UA.call (vs:=[_,_]) 5 Z call201 (λ_=>⟨ak Z,ak Z,trivial⟩) (λH' a=>mE (cK _ _) (cK _ _)) ?_;refine aP "~f6~f7" ?_;refine UA.call (vs:=[_,_]) 8 Z call204 (λ_=>⟨ak Z,ak Z,trivial⟩) (λH' a=>kG (cK _ _) (cK _ _)) ?_;refine aP "~f9~f:" ?_;refine UA.call (vs:=[_,_]) 11 Z call204 (λ_=>⟨ak Z,ak Z,trivial⟩) (λH' a=>kG (cK _ _) (cK _ _)) ?_;refine UA.alloc 12 Z zeroValue97 (cs:=av .u8 (replicate 32 0)) Z ?_;refine UA.alloc 13 Z zeroValue97 (cs:=av .u8 (replicate 32 0)) Z ?_;refine UA.alloc 14 Z zeroValue97 (cs:=av .u8 (replicate 32 0)) Z ?_;refine UA.alloc 15 Z zeroValue97 (cs:=av .u8 (replicate 32 0)) Z ?_;refine UA.gq 16 3 Z Z sizeOf97 (λ_ _=>ak Z) (λ_ _=>ak Z) ?_;refine UA.gq 17 2 Z Z sizeOf97 (λ_ _=>ak Z) (λ_ _=>ak Z) ?_;refine UA.gq 18 1 Z Z sizeOf97 (λ_ _=>ak Z) (λ_ _=>ak Z) ?_;refine UA.gq 19 0 Z Z sizeOf97 (λ_ _=>ak Z) (λ_ _=>ak Z) ?_;refine aP "(" λk=> ?_;simp only[map_cons,map_nil,cons_append,nil_append];refine WC.seq<|WC.sub (Sub.refl _) (λw h=>h.bg 12 [8,0,1,2,3] Z)<|aP "~<~f0~f1" ?_;refine UA.call (vs:=[_,_]) 2 Z call199 (λ_=>⟨ak Z,ak Z,trivial⟩) (λH' a=>dN (nX _ _) (nX _ _)) ?_;refine aP "~f3~f4" ?_;refine UA.call (vs:=[_,_]) 5 Z call199 (λ_=>⟨ak Z,ak Z,trivial⟩) (λH' a=>dN (lM _ _) (lM _ _)) ?_;refine aP "~f6~f7" ?_;refine UA.call (vs:=[_,_]) 8 Z call199 (λ_=>⟨ak Z,ak Z,trivial⟩) (λH' a=>dN (nX _ _) (lM _ _)) ?_;refine aP "~f9~f:" ?_;refine UA.call (vs:=[_,_]) 11 Z call199 (λ_=>⟨ak Z,ak Z,trivial⟩) (λH' a=>dN (nX _ _) (lM _ _)) ?_;refine UA.val 12 Z (λ_=>V.build (vs:=[(0,_),(1,_),(2,_),(3,_)]) ⟨ak Z,ak Z,ak Z,ak Z,trivial⟩ Z (Z6 _ _ _ _)) ?_;refine UA.lI 13 Z sizeOf283 (λ_=>ak Z) (λ_=>ak Z) ?_;refine aP "(" λd=> ?_;simp only[map_cons,map_nil,cons_append,nil_append];exact WC.ret<|aF.ret (H':=F) (bJ.one Z (R1.dh (l:=plL (p.plus q tw)) Z ⟨isAgg283,sizeOf283⟩)) eO ⟨Z,Z⟩
theorem abJ(h1:p.1<115792089237316195423570985008687907853269984665640564039457584007913129639936)(h2:p.2<115792089237316195423570985008687907853269984665640564039457584007913129639936):aK prog 261 #[pt p] K F (.bool (uK p)):=by
 have e:uK p=(decide (p.1<fP)&&decide (p.2<fP)&&decide (uF (fG p.2 p.2) (fG p.1 p.1)=vT 1 (fG cD (fG (fG p.1 p.1) (fG p.2 p.2))))):=by
  unfold uK;rw[NR];congr 1;congr 1<;>rw[Bool.eq_iff_iff,blt_eq,decide_eq_true_eq]
 rw[e];refine aB.en func261 ntmps261 ?_;refine aj "a." λh=> ?_;refine aj "taX" ?_;refine WL.val (V.abn ⟨isAgg97,sizeOf97⟩ (ak Z)) Z (WL.t1 call198 Z (qV h1) Z ?_);refine aj "9b_" ?_;refine WL.bI (oj:=_) Z Z Z GC.f (V.aa8 ⟨isAgg97,sizeOf97⟩ (OV.g Z id)) Z<|WL.nL (oj:=_) (vs:=[_]) Z Z Z GC.f call198 ⟨OV.g Z id,trivial⟩ (λj=>qV h2) Z<|aj "~(Ih" (aW (λa=> ?_) λa=> ?_)
 ·simp only[Bool.or_eq_true,Bool.or_eq_false_iff,oK] at a;refine aj "D:" ?_;rcases a with a | a
  ·rw[decide_eq_false a];rfl
  ·rw[decide_eq_false a,Bool.and_false];rfl
 ·simp only[Bool.or_eq_true,Bool.or_eq_false_iff,oK] at a;refine aj "|" ?_;rw[decide_eq_true a.1,decide_eq_true a.2];refine aP "~N~v0~;1~v2~;3" ?_;refine UA.call (vs:=[_,_]) 4 Z call199 (λ_=>⟨ak Z,ak Z,trivial⟩) (λb d=>dN a.1 a.1) ?_;refine aP "~v5~~Z6~v7~~Z8" ?_;refine UA.call (vs:=[_,_]) 9 Z call199 (λ_=>⟨ak Z,ak Z,trivial⟩) (λb d=>dN a.2 a.2) ?_;refine UA.alloc 10 Z zeroValue97 (cs:=av .u8 (replicate 32 0)) Z ?_;refine UA.alloc 11 Z zeroValue97 (cs:=av .u8 (replicate 32 0)) Z ?_;refine UA.gq 12 1 Z Z sizeOf97 (λ_ _=>ak Z) (λ_ _=>ak Z) ?_;refine UA.gq 13 0 Z Z sizeOf97 (λ_ _=>ak Z) (λ_ _=>ak Z) ?_;refine aP "(" λBS=> ?_;simp only[map_cons,map_nil,cons_append,nil_append];refine aP "L~i~~0~~0" ?_;refine WQ.call (vs:=[_,_]) call201 ⟨ak Z,ak Z,trivial⟩ (mE (cK _ _) (cK _ _)) Z (WQ.call (vs:=[_]) call202 ⟨ak Z,trivial⟩ (iF (n:=1) aN) Z (WQ.call (vs:=[]) call205 trivial (zA) Z (aP "~~0~~0" ?_)));refine WQ.call (vs:=[_,_]) call199 ⟨ak Z,ak Z,trivial⟩ (dN (cK _ _) (cK _ _)) Z (WQ.call (vs:=[_,_]) call199 ⟨ak Z,ak Z,trivial⟩ (dN aN (cK _ _)) Z (WQ.call (vs:=[_,_]) call204 ⟨ak Z,ak Z,trivial⟩ (kG aN (cK _ _)) Z ?_));refine WQ.val (V.agF (by kernel_rfl) (ak Z) (ak Z) (iW.av underlying97 sizeOf5 isAgg5 underlying5 Z Z)) Z<|aj "~n~d~J" ?_;exact qR F Z Z eO ⟨by rw[vv (Yw (nX _ _)) (Yw (lM _ _))];rfl,Z⟩
abbrev Hu(p:Nat×Nat):Prop:=p.1<115792089237316195423570985008687907853269984665640564039457584007913129639936∧p.2<115792089237316195423570985008687907853269984665640564039457584007913129639936
theorem Vb(p:Nat×Nat):(Wj p).length=64:=by simp[aI]
theorem Pp{ps:List (Nat×Nat)}(qY:∀p∈ps,Hu p)(hl:ps.length≤2)(hR:∀i p,ps[i]? =some p→fH K F b (i*64) (av .u8 (Wj p))) :
 aK prog 209 #[.slice (some ⟨b,0,none⟩) ps.length ps.length] K F (.i ((if ps.all uK then 0 else 170:Nat):Int)):=by
 refine aB.en func209 ntmps209 ?_;refine aj "afjR" ?_;refine WC.loop (σ:=Nat) (λi=>[(5,.slice (some ⟨b,0,none⟩) ps.length ps.length),(6,.i ((ps.length:Nat):Int)),(7,.i ((i:Nat):Int))]) (λ_=>F) (λi=>i≤ps.length∧(ps.take i).all uK=true) (λi=>ps.length-i) 0 ⟨zero_le _,Z⟩ bC cO ?_;rintro i ⟨e,nT⟩;refine aP "a~lGJ" (aW (λaL=> ?_) λaL=> ?_)
 ·simp only[cZ] at aL;obtain⟨p,d⟩:∃p,ps[i]? =some p:=⟨ps[i],by simp[aL]⟩;have ajU:=qY p (mem_of_getElem? d);refine aj "Ea" ?_;refine WL.val (V.FW akG (ak Z) (ak Z) (λ_=>by omega)) Z<|WL.val (V.fE (vs:=av .u8 (Wj p)) ⟨isAgg219,sizeOf219⟩ (ak Z) (by rw[au,Vb]) (λ_=>by rw[Int.toNat_natCast,Nat.zero_add];exact hR i p d)) Z<|aP "z" λj=> ?_;refine aP "AQB" ?_;refine WL.t1 call261 Z (abJ ajU.1 ajU.2) Z<|aj "9h" (aW (λa=> ?_) λa=> ?_)
  ·skip
   refine aj "D:" ?_;rw[if_neg]
   ·rfl
   intro h;rw[all_eq_true.1 h p (mem_of_getElem? d)] at a;cases a
  ·skip
   refine aP "qp=>" ?_;refine⟨i+1,⟨by show i+1≤ps.length;omega, ?_⟩,(by show ps.length-(i+1)<ps.length-i;omega),.cons Z bC,λw h=>h.tail⟩;rw[take_add_one,d,all_append,nT]
   simpa using a
 ·simp only[cZ] at aL;refine aj "KD" ?_;obtain rfl:i=ps.length:=by omega
  rw[take_length] at nT;exact qR F Z Z eO ⟨by rw[if_pos nT];rfl,Z⟩
theorem Yc(hp:Hu p)(hq:Hu q):aK prog 148 #[pt p,pt q] K F (.tuple #[pt (Pm p q),.i ((if uK p&&uK q then 0 else 170:Nat):Int)]):=by
 refine aB.en func148 ntmps148 ?_;refine aj "a." λn=> ?_;refine aj "." λm=> ?_;refine aP "z" λk=> ?_;refine aP "taBB" ?_;refine WL.buildSlice (E:=219) (vs:=[(0,_),(1,_)]) ⟨ak Z,ak Z,trivial⟩ Z (aed p q) Z (λr=> ?_);refine WL.c1 call209 Z (Pp (ps:=[p,q]) (λx a=>by simp only[mem_cons,not_mem_nil,or_false] at a;rcases a with rfl | rfl;exact hp;exact hq) (Nat.le_refl 2) (λi x a=>by
  match i,a with
  | 0,a=>injection a with a;subst a;exact fH.part ⟨Wj q,Z⟩
  | 1,a=>injection a with a;subst a;exact fH.part ⟨[],by rw[Nat.one_mul,drop_left' (Vb p),append_nil]⟩)) Z ?_
 rintro _ j ⟨rfl,d⟩;subst j;refine aj "t" ?_;rw[show [p,q].all uK=(uK p&&uK q) by simp];refine aP "g~~nh" (aW (λd=> ?_) λd=> ?_)
 ·skip
  have e:(uK p&&uK q)=false:=by cases h:(uK p&&uK q) with | false=>rfl | true=>rw[h] at d;simp at d
  refine WC.sr (WL.val (V.build (vs:=[]) trivial Z Gq) Z (aP "bAd" ?_));refine aF.ret (H':=F) (bJ.two Z (R1.dh (l:=Wj (0,0)) Z ⟨isAgg219,sizeOf219⟩) (R1.tmp Z)) eO ⟨?_,Z⟩;unfold Pm;rw[e];rfl
 ·skip
  have e:(uK p&&uK q)=true:=by cases h:(uK p&&uK q) with | true=>rfl | false=>rw[h] at d;simp at d
  refine aj "|" ?_;have ⟨h2,h3⟩:uK p=true∧uK q=true:=by simpa using e
  refine WC.sub (Sub.refl _) (λw h=>h.bg 4 [1,2,3] Z)<|WC.vU 1 [5] Z (by simp only[l8,mh,filter_cons,filter_nil,any_cons,any_nil,Nat.reduceBEq,Bool.or_false,Bool.or_true,Bool.not_true,Bool.not_false,if_true,if_false,Bool.false_eq_true];rfl) (by simp only[l8,mh,filter_cons,filter_nil,any_cons,any_nil,Nat.reduceBEq,Bool.or_false,Bool.or_true,Bool.not_true,Bool.not_false,if_true,if_false,Bool.false_eq_true];rfl)<|aP "~f0" ?_;refine UA.call (vs:=[_]) 1 Z call210 (λ_=>⟨ak Z,trivial⟩) (λH' b=>Cc (oO h2).1 (oO h2).2) ?_;refine aP "~f2" ?_;refine UA.call (vs:=[_]) 3 Z call210 (λ_=>⟨ak Z,trivial⟩) (λH' b=>Cc (oO h3).1 (oO h3).2) ?_;refine UA.call (vs:=[]) 4 Z call205 (λ_=>trivial) (λH' b=>zA) ?_;refine UA.call (vs:=[]) 5 Z call205 (λ_=>trivial) (λH' b=>zA) ?_;refine UA.call (vs:=[_,_]) 6 Z call204 (λ_=>⟨ak Z,ak Z,trivial⟩) (λH' b=>kG aN aN) ?_;refine UA.call (vs:=[_,_,_]) 7 Z call212 (λ_=>⟨ak Z,ak Z,ak Z,trivial⟩) (λH' b=>Bf (Pl.Ju (oO h2).1 (oO h2).2) (Pl.Ju (oO h3).1 (oO h3).2) (lM _ _)) ?_;refine UA.call (vs:=[_]) 8 Z call213 (λ_=>⟨ak Z,trivial⟩) (λH' b=>FD (Pl.Gv _ _ _)) ?_;refine UA.lI 9 Z sizeOf219 (λ_=>ak Z) (λ_=>ak Z) ?_;refine aP "~a:(" λBS=> ?_;simp only[map_cons,map_nil,cons_append,nil_append];refine WC.ret<|aF.ret (H':=F) (bJ.two Z (R1.dh Z ⟨isAgg219,sizeOf219⟩) (R1.tmp Z)) eO ⟨?_,Z⟩;unfold Pm;rw[e];rfl
theorem aan(B k y v:Nat):(bG B (k+1) y).set k v=bG B k y++[v]:=by simp_all [xK,set_append,aI,if_neg,Nat.sub_self,set_cons_zero]
theorem IU(h:aA B l)(hj:j<l.length):vl B l/B^j%B=l.getD j 0:=by grind [bV,Uw]
theorem ahr(h:aA 256 l)(hi:i<8*l.length):(vl 256 l).testBit i=decide (l.getD (i/8) 0/2^(i%8)%2=1):=by
 rw[←IU h ay,testBit_eq_decide_div_mod_eq];apply decide_eq_decide.2;have a:vl 256 l/256^(i/8)%256/2^(i%8)%2=vl 256 l/2^i%2:=by
  have b:vl 256 l/256^(i/8)/2^(i%8)=vl 256 l/2^i:=by
   rw[show (256:Nat)=2^8 by decide,←Nat.pow_mul,Nat.div_div_eq_div_mul,←Nat.pow_add,div_add_mod]
  rw[←b,show (256:Nat)=2^8 by decide,mg (B:=2) _ ay]
 rw[a]
theorem PY(p:Pl):p.plain.1<fP∧p.plain.2<fP:=⟨cK _ _,cK _ _⟩
theorem Sr(h:p.1<fP∧p.2<fP):Hu p:=⟨zR h.1,zR h.2⟩
theorem Lf(n k:Nat)(p:Nat×Nat):(nN n k p).1<fP∧(nN n k p).2<fP:=by
 unfold nN;cases uK p
 ·exact⟨(by show 0<fP;decide),(by show 0<fP;decide)⟩
 ·exact PY _
theorem ES(hs:Seq K F A m 1 (av .u8 ns))(h8:aA 256 ns)(hm:m≤64)(hp:Hu p) :
 aK prog 146 #[.slice A m cap,pt p] K F (.tuple #[pt (nN (vl 256 ns) m p),.i ((if uK p then 0 else 170:Nat):Int)]):=by
 have k:ns.length=m:=by have :=hs.len;rwa [au,Nat.mul_one] at this
 refine aB.en func146 ntmps146 ?_;refine aj "a." λC=> ?_;refine aP "z" λn=> ?_;refine aP "taB" ?_;refine WL.buildSlice (E:=219) (vs:=[(0,_)]) ⟨ak Z,trivial⟩ Z (af8 p) Z (λB=> ?_);refine WL.c1 call209 Z (Pp (ps:=[p]) (λx b=>by simp only[mem_cons,not_mem_nil,or_false] at b;rcases b with rfl;exact hp) (by show 1≤2;decide) (λi x b=>by
  match i,b with
  | 0,b=>injection b with b;subst b;exact fH.all)) Z ?_
 rintro _ e ⟨rfl,a⟩;subst e;refine aj "t" ?_;rw[show [p].all uK=uK p by simp];refine aP "g~~nh" (aW (λa=> ?_) λa=> ?_)
 ·skip
  have d:uK p=false:=by cases h:uK p with | false=>rfl | true=>rw[h] at a;simp at a
  refine WC.sr (WL.val (V.build (vs:=[]) trivial Z Gq) Z (aP "bAd" ?_));refine aF.ret (H':=F) (bJ.two Z (R1.dh (l:=Wj (0,0)) Z ⟨isAgg219,sizeOf219⟩) (R1.tmp Z)) eO ⟨?_,Z⟩;unfold nN;rw[d];rfl
 ·skip
  have d:uK p=true:=by cases h:uK p with | true=>rfl | false=>rw[h] at a;simp at a
  refine aj "7" ?_;refine WL.call (vs:=[]) call205 trivial (zA) Z ?_;rintro _ e ⟨rfl,a⟩;subst e;refine WL.call (vs:=[]) call205 trivial (zA) Z ?_;rintro _ e ⟨rfl,a⟩;subst e;refine WL.t2 call204 Z Z (kG aN aN) Z<|aP "z" λr=> ?_;refine aP "AG~N" ?_;refine UA.call (vs:=[]) 0 Z call211 (λ_=>trivial) (λH' u=>Ue) ?_;refine UA.call (vs:=[_]) 1 Z call210 (λ_=>⟨ak Z,trivial⟩) (λH' u=>Cc (p:=(0,1)) aN aN) ?_;refine aP "~f2" ?_;refine UA.call (vs:=[_]) 3 Z call210 (λ_=>⟨ak Z,trivial⟩) (λH' u=>Cc (oO d).1 (oO d).2) ?_;refine UA.alloc 4 Z zeroValue283 (cs:=av .u8 (replicate 128 0)) Z ?_;refine UA.alloc 5 Z zeroValue283 (cs:=av .u8 (replicate 128 0)) Z ?_;refine UA.gq 6 1 Z Z sizeOf283 (λ_ _=>ak Z) (λ_ _=>ak Z) ?_;refine UA.gq 7 0 Z Z sizeOf283 (λ_ _=>ak Z) (λ_ _=>ak Z) ?_;refine aP "(" λBS=> ?_;simp only[map_cons,map_nil,cons_append,nil_append];refine aP "rj~~h~Dos" ?_;refine WC.loop (σ:=Nat×Pl) (λs=>[(0,.slice A m cap),(4,ptr n 0),(7,ptr r 0),(8,ptr (BS 4) 0),(9,ptr (BS 5) 0),(10,.i ((s.1:Int)-1))]) (λs=>ah (BS 4) 283 (av .u8 (plL s.2))::ah (BS 5) 283 (av .u8 (plL (Pl.of p)))::ah r 97 (av .u8 (bG 256 32 cTw))::ah n 219 (av .u8 (replicate 64 0))::F)
   (λs=>s.1≤8*m∧s.2.Ok∧zC (Pl.of p) cTw (vl 256 ns) s.1 s.2=zC (Pl.of p) cTw (vl 256 ns) (8*m) (Pl.of (0,1))) (λs=>s.1) (8*m,Pl.of (0,1)) ⟨Nat.le_refl _,Pl.Ju aN aN,Z⟩ bC (λw h=>h.bg 6 [1,0,2,4] Z) ?_
  rintro⟨i,out⟩ ⟨hi,ho,hq⟩;dsimp only at hi ho hq ⊢;refine aj "r~gh" (aW (λaQ=> ?_) λaQ=> ?_)
  ·simp only[cZ] at aQ;obtain⟨i,rfl⟩:∃q,i=q+1:=⟨i-1,by omega⟩;rw[show ((i+1:Nat):Int)-1=((i:Nat):Int) by omega];rw[zC,ahr h8 ay] at hq;have y:=h8.at_ aN (i/8);refine aP "EaB" ?_;refine WL.val (V.makeFunc (us:=[_]) (vs:=[]) ⟨ak Z,trivial⟩ trivial) Z (aP "iBB" ?_);refine WL.ny (first:=[_]) (captured:=[]) (vs:=[_,_]) call212 (ak Z) ⟨ak Z,ak Z,trivial⟩ (Bf ho ho (lM cD cD)) Z ?_;rintro _ _ ⟨rfl,rfl⟩;refine aP "Aceb" ?_;refine WL.val (V.XI (j:=8) (ak Z) (ak Z)) Z<|WL.val (V.jW (v:= .int .u8 ((ns.getD (i/8) 0:Nat):Int)) dO (ak Z) (ak Z) (hr:=λ_=>by repeat (first | exact Seq.qH hs ay | apply Rd.up))) Z<|WL.val (V.d9 (v:= .int .u8 ((ns.getD (i/8) 0:Nat):Int)) isAgg5 (ak Z) (λ_=>by repeat (first | exact Seq.qH hs ay | apply Rd.up))) Z<|WL.mv Z Z (WL.val (V.WJ (j:=8) (ak Z) (ak Z)) Z (aP "~%" ?_));refine WL.val (V.CY (j:=1) 8 (ak Z) (ak Z)) Z<|aP "~~Kh" (aW (λbA=> ?_) λbA=> ?_)
   ·rw[show ns.getD (i/8) 0/2^(i%8) &&& 1=ns.getD (i/8) 0/2^(i%8)%2 from and_one_is_mod _] at bA;rw[bA] at hq;refine aP "pBBB" ?_;refine WL.t3 call212 Z Z Z (Bf (Pl.Gv _ _ _) (Pl.Ju (oO d).1 (oO d).2) (lM _ _)) Z<|aP "Acg~DN" ?_;exact⟨(i,_),⟨by show i≤8*m;omega,Pl.Gv _ _ _,hq⟩,(by show i<i+1;omega),.cons Z bC,λw h=>h⟩
   ·rw[show ns.getD (i/8) 0/2^(i%8) &&& 1=ns.getD (i/8) 0/2^(i%8)%2 from and_one_is_mod _] at bA;rw[bA] at hq;refine aj "qg~DN" ?_;exact⟨(i,_),⟨by show i≤8*m;omega,Pl.Gv _ _ _,hq⟩,(by show i<i+1;omega),.cons Z bC,λw h=>h⟩
  ·simp only[cZ] at aQ;refine aj "W" ?_;obtain rfl:i=0:=by omega
   rw[zC] at hq;refine aP "pB" ?_;refine WL.t1 call213 Z (FD ho) Z<|aP "Ad" ?_;refine aF.ret (H':=F) (bJ.two Z (R1.dh Z ⟨isAgg219,sizeOf219⟩) (R1.tmp Z)) eO ⟨?_,Z⟩;unfold nN;rw[d,←hq];rfl
theorem ahG(hp:Hu p):aK prog 184 #[pt p] K F (.tuple #[o8 (adB p),.i ((if uK p then 0 else 170:Nat):Int)]):=by
 refine aB.en func184 ntmps184 ?_;refine aj "a." λC=> ?_;refine aP "z" λB=> ?_;refine aP "taB" ?_;refine WL.buildSlice (E:=219) (vs:=[(0,_)]) ⟨ak Z,trivial⟩ Z (af8 p) Z (λu=> ?_);refine WL.c1 call209 Z (Pp (ps:=[p]) (λx a=>by simp only[mem_cons,not_mem_nil,or_false] at a;rcases a with rfl;exact hp) (by show 1≤2;decide) (λi x a=>by
  match i,a with
  | 0,a=>injection a with a;subst a;exact fH.all)) Z ?_
 rintro _ n ⟨rfl,b⟩;subst n;refine aj "t" ?_;rw[show [p].all uK=uK p by simp];refine aP "g~~nh" (aW (λb=> ?_) λb=> ?_)
 ·skip
  have d:uK p=false:=by cases h:uK p with | false=>rfl | true=>rw[h] at b;simp at b
  refine WC.sr (WL.val (V.lX (l:=bG 256 32 0) (vs:=[]) trivial Z PV) Z (aP "bAd" ?_));refine aF.ret (H':=F) (bJ.two Z (R1.dh Z ⟨isAgg97,sizeOf97⟩) (R1.tmp Z)) eO ⟨?_,Z⟩;unfold adB;rw[d];rfl
 ·skip
  have d:uK p=true:=by cases h:uK p with | true=>rfl | false=>rw[h] at b;simp at b
  have o7:=oO d;refine aj "7X" ?_;refine WL.val (V.aa8 ⟨isAgg97,sizeOf97⟩ (ak Z)) Z<|aP "z" λD=> ?_;refine aP "AQ~~o" ?_;refine WL.val (V.d9 (v:= .int .u8 (((bG 256 32 p.2).getD 31 0:Nat):Int)) isAgg5 (ak Z) (λ_=>by repeat (first | exact Rd.nat (by rw[aI];decide) | apply Rd.up))) Z<|aj "X" ?_;refine WL.val (V.YM (j:=0) zJ (ak Z) (ak Z) (λ_=>by decide)) Z<|WL.val (V.d9 (v:= .int .u8 ((p.1%256:Nat):Int)) isAgg5 (ak Z) (λ_=>lD)) Z<|WL.val (V.CY (j:=1) 8 (ak Z) (ak Z)) Z (WL.val (V.G7 (j:=7) (M:=256) (ak Z) (ak Z)) Z (WL.val (V.Zv 8 (ak Z) (ak Z)) Z (aP "~~o~BG" ?_)));have e:(bG 256 32 p.2).getD 31 0=p.2/256^31%256:=bV _ _ _ _ aN;have y:p.2/256^31<128:=Nat.div_lt_of_lt_mul (Nat.lt_trans o7.2 aN);have m:(bG 256 32 p.2).set 31 ((bG 256 32 p.2).getD 31 0 ||| (p.1%256 &&& 1)*2^7%256)=bG 256 32 (adB p):=by
   rw[e,aan,show bG 256 32 (adB p)=bG 256 31 (adB p)++[adB p/256^31%256] from xK _ _ _];have k:adB p=p.2+256^31*(p.1%2*128):=by
    unfold adB;rw[d,cond_true];congr 1;rw[show (57896044618658097711785492504343953926634992332820282019728792003956564819968:Nat)=256^31*128 by decide,Nat.mul_left_comm]
   have r:bG 256 31 (adB p)=bG 256 31 p.2:=by rw[←nV,k,add_mul_mod_self_left,nV]
   rw[r];congr 2;rw[k,add_mul_div_left _ _ aN,and_one_is_mod,mod_eq_of_lt (show p.2/256^31<256 by omega),Nat.or_comm,show p.1%256%2*2^7%256=p.1%2*2^7 by omega,uU ay];omega
  rw[m];refine aP "pBAd" ?_;refine aF.ret (H':=F) (bJ.two Z (R1.dh Z ⟨isAgg97,sizeOf97⟩) (R1.tmp Z)) eO ⟨by rw[d];rfl,Z⟩
def vS(y:Nat):Nat×Bool:=Ac (fG (uF (fG y y) 1) (Ec (vT (fG cD (fG y y)) 1)))
theorem abQ{x:Nat}(hx:x<m)(hy:y<m):(bif c then x else y)<m:=by cases c<;>assumption
theorem ade(hx:x<m)(hm:0<m):(bif c then (x,true) else (0,false)).1<m:=by cases c<;>assumption
theorem Pv(a:Nat):(Ac a).1<fP:=by
 unfold Ac;have b:Ei a (λi=>blt 0 i) 252 1<fP:=Dg aN;exact ade (abQ (VR _) (abQ b (cK _ _))) aN
theorem Jh(b:Nat):eZ b=if b%57896044618658097711785492504343953926634992332820282019728792003956564819968<fP∧(vS (b%57896044618658097711785492504343953926634992332820282019728792003956564819968)).2=true then (if b<57896044618658097711785492504343953926634992332820282019728792003956564819968 then some ((vS (b%57896044618658097711785492504343953926634992332820282019728792003956564819968)).1,b%57896044618658097711785492504343953926634992332820282019728792003956564819968) else if (vS (b%57896044618658097711785492504343953926634992332820282019728792003956564819968)).1=0 then none else some (uF 0 (vS (b%57896044618658097711785492504343953926634992332820282019728792003956564819968)).1,b%57896044618658097711785492504343953926634992332820282019728792003956564819968)) else none:=by
 have j:∀x y:Nat,blt x y=decide (x<y):=λx y=>by rw[Bool.eq_iff_iff,blt_eq,decide_eq_true_eq]
 have e:vS (b%57896044618658097711785492504343953926634992332820282019728792003956564819968)=Ac (fG (uF (fG (b%57896044618658097711785492504343953926634992332820282019728792003956564819968) (b%57896044618658097711785492504343953926634992332820282019728792003956564819968)) 1) (Ec (vT (fG cD (fG (b%57896044618658097711785492504343953926634992332820282019728792003956564819968) (b%57896044618658097711785492504343953926634992332820282019728792003956564819968))) 1))):=rfl;unfold eZ;dsimp only;rw[←e];simp only[j,NR]
 generalize vS (b%57896044618658097711785492504343953926634992332820282019728792003956564819968)=r
 obtain⟨x,o⟩:=r;by_cases a:b%57896044618658097711785492504343953926634992332820282019728792003956564819968<fP
 ·cases o
  ·simp
  ·by_cases d:b<57896044618658097711785492504343953926634992332820282019728792003956564819968
   ·simp[a,d]
   ·by_cases h:x=0<;>simp[a,d,h]
 ·simp[a]
theorem vO(hb:b<115792089237316195423570985008687907853269984665640564039457584007913129639936):aK prog 143 #[o8 b] K F (.tuple #[pt ((eZ b).getD (0,0)),.i ((if (eZ b).isSome then 0 else 170:Nat):Int)]):=by
 obtain⟨y,G⟩:∃y,y=b%57896044618658097711785492504343953926634992332820282019728792003956564819968:=⟨_,Z⟩;obtain⟨X,d⟩:∃X,X=eZ b:=⟨_,Z⟩;rw[←d];rw[Jh,←G] at d;obtain⟨r,x⟩:∃r,r=vS y:=⟨_,Z⟩;rw[←x] at d;have pG:r.1<fP:=by rw[x];exact Pv _
 have u:(bG 256 32 b).getD 31 0=b/256^31:=by rw[bV _ _ _ _ aN,mod_eq_of_lt (Nat.div_lt_of_lt_mul hb)]
 have asZ:b/256^31<256:=Nat.div_lt_of_lt_mul hb;have C:y<115792089237316195423570985008687907853269984665640564039457584007913129639936:=ay;have ai2:(bG 256 32 b).set 31 ((bG 256 32 b).getD 31 0 &&& 127)=bG 256 32 y:=by
  rw[u,aan,show bG 256 32 y=bG 256 31 y++[y/256^31%256] from xK _ _ _];have D:y=b%256^31+256^31*(b/256^31%128):=by rw[G,show (57896044618658097711785492504343953926634992332820282019728792003956564819968:Nat)=256^31*128 by decide,mod_mul]
  have I:bG 256 31 y=bG 256 31 b:=by rw[←nV,D,add_mul_mod_self_left,nV,nV]
  rw[I];congr 2;rw[show (127:Nat)=2^7-1 from Z,and_two_pow_sub_one_eq_mod,D,add_mul_div_left _ _ aN,div_eq_of_lt (mod_lt _ aN),Nat.zero_add];omega
 have agN:b/256^31/2^7=1↔¬b<57896044618658097711785492504343953926634992332820282019728792003956564819968:=by
  rw[Nat.div_div_eq_div_mul,show 256^31*2^7=57896044618658097711785492504343953926634992332820282019728792003956564819968 by decide];omega
 refine aB.en func143 ntmps143 ?_;refine aj "a." λL=> ?_;refine aP "z" λP=> ?_;refine aP "w~~o" ?_;refine WL.val (V.d9 (v:= .int .u8 (((bG 256 32 b).getD 31 0:Nat):Int)) isAgg5 (ak Z) (λ_=>by repeat (first | exact Rd.nat (by rw[aI];decide) | apply Rd.up))) Z<|WL.val (V.wK (j:=7) (ak Z) (ak Z)) Z (aP "w~~o" ?_);refine WL.val (V.d9 (v:= .int .u8 (((bG 256 32 b).getD 31 0:Nat):Int)) isAgg5 (ak Z) (λ_=>by repeat (first | exact Rd.nat (by rw[aI];decide) | apply Rd.up))) Z<|WL.val (V.CY (j:=127) 8 (ak Z) (ak Z)) Z (aP "~~o~BGL" ?_);rw[ai2,u];refine aP "pB" ?_;refine WL.t1 call198 Z (qV C) Z<|aj "9h" (aW (λm=> ?_) λm=> ?_)
 ·simp only[oK] at m;rw[if_neg (λh=>m h.1)] at d;refine WC.sr (WL.val (V.build (vs:=[]) trivial Z Gq) Z (aP "Ad" ?_));subst d;exact aF.ret (H':=F) (bJ.two Z (R1.dh (l:=Wj (0,0)) Z ⟨isAgg219,sizeOf219⟩) (R1.tmp Z)) eO ⟨Z,Z⟩
 ·simp only[oK] at m;refine aP "7BB" ?_;refine WL.t2 call199 Z Z (dN m m) Z<|aP "z" λN=> ?_;refine aP "AG~N~f0" ?_;refine UA.call (vs:=[_]) 1 Z call202 (λ_=>⟨ak Z,trivial⟩) (λH' e=>iF (n:=1) aN) ?_;refine UA.call (vs:=[_,_]) 2 Z call201 (λ_=>⟨ak Z,ak Z,trivial⟩) (λH' e=>mE (cK _ _) aN) ?_;refine UA.call (vs:=[]) 3 Z call205 (λ_=>trivial) (λH' e=>zA) ?_;refine aP "~f4" ?_;refine UA.call (vs:=[_,_]) 5 Z call199 (λ_=>⟨ak Z,ak Z,trivial⟩) (λH' e=>dN aN (cK _ _)) ?_;refine UA.call (vs:=[_]) 6 Z call202 (λ_=>⟨ak Z,trivial⟩) (λH' e=>iF (n:=1) aN) ?_;refine UA.call (vs:=[_,_]) 7 Z call204 (λ_=>⟨ak Z,ak Z,trivial⟩) (λH' e=>kG (cK _ _) aN) ?_;refine UA.call (vs:=[_]) 8 Z call203 (λ_=>⟨ak Z,trivial⟩) (λH' e=>zH (lM _ _)) ?_;refine UA.call (vs:=[_,_]) 9 Z call199 (λ_=>⟨ak Z,ak Z,trivial⟩) (λH' e=>dN (nX _ _) (Cu _)) ?_;refine UA.call (vs:=[_]) 10 Z call200 (λ_=>⟨ak Z,trivial⟩) (λH' e=>Sd (cK _ _)) ?_;refine aP "M;~8<~8=~8>" ?_;refine UA.alloc 15 Z zeroValue97 (cs:=av .u8 (replicate 32 0)) Z ?_;refine UA.gq 16 0 Z Z sizeOf97 (λ_ _=>ak Z) (λ_ _=>ak Z) ?_;refine aP "~aA~aB(" λBS=> ?_;simp only[map_cons,map_nil,cons_append,nil_append];refine aj "LL" ?_;rw[show Ac (fG (uF (fG y y) 1) (Ec (vT (fG cD (fG y y)) 1)))=r from x.symm];clear x ai2 u
  generalize b/256^31=q at *
  refine aj "~i$" ?_;refine WQ.val (V.not (ak Z)) Z (aj "$~~a" ?_);refine WQ.bI (oj:=_) Z Z Z GC.f (V.G5 (j:=1) (OV.g Z id) (ak Z)) Z (WQ.bI (oj:=_) Z Z Z GC.f (V.move (OV.g Z id)) Z (WQ.bI (oj:=_) Z Z Z GC.ct (V.jd ⟨isAgg97,sizeOf97⟩ (ak Z)) Z ?_));refine WQ.nL (oj:=_) (vs:=[_]) Z Z Z GC.ct call202 ⟨ak Z,trivial⟩ (λO=>iF (n:=0) aN) Z<|WQ.bI (oj:=_) Z Z Z GC.ct (V.agF (by kernel_rfl) (OV.g Z id) (OV.g Z id) (iW.av underlying97 sizeOf5 isAgg5 underlying5 Z Z)) Z<|WQ.bI (oj:=_) Z Z Z GC.f (V.Ci (OV.g Z id) (OV.g Z id)) Z<|aj "~~M~dJ" (aW (λa=> ?_) λa=> ?_)
  ·skip
   rw[vv (Yw pG) aN] at a;simp only[Bool.or_eq_true,Bool.or_eq_false_iff,Gi,Bool.not_eq_true',Bool.not_eq_false'] at a;have B:X=none:=by
    rw[d];rcases a with a | a
    ·rw[if_neg (by rw[a];simp)]
    ·by_cases k:r.2=true
     ·rw[if_pos ⟨m,k⟩,if_neg (agN.1 a.1),if_pos a.2]
     ·rw[if_neg (λh=>k h.2)]
   refine WC.sr (WL.val (V.build (vs:=[]) trivial Z Gq) Z (aP "Ad" ?_));rw[B];exact aF.ret (H':=F) (bJ.two Z (R1.dh (l:=Wj (0,0)) Z ⟨isAgg219,sizeOf219⟩) (R1.tmp Z)) eO ⟨Z,Z⟩
  ·skip
   rw[vv (Yw pG) aN] at a;simp only[Bool.or_eq_true,Bool.or_eq_false_iff,Gi,Bool.not_eq_true',Bool.not_eq_false'] at a;rw[if_pos ⟨m,a.1⟩] at d;refine aP "qr~~Kh" (aW (λk=> ?_) λk=> ?_)
   ·simp only[cZ] at k;have J:r.1≠0:=a.2.resolve_left (λh=>h k);rw[if_neg (agN.1 k),if_neg J] at d;refine WC.BZ 1 Z<|UA.call (vs:=[_]) 0 Z call202 (λ_=>⟨ak Z,trivial⟩) (λH' e=>iF (n:=0) aN) ?_;refine UA.Ru 1 Z (λ_=>V.jd ⟨isAgg97,sizeOf97⟩ (ak Z)) ?_;refine UA.call (vs:=[_,_]) 2 Z call201 (λ_=>⟨ak Z,ak Z,trivial⟩) (λH' e=>mE aN pG) ?_;refine UA.lI 3 Z sizeOf97 (λ_=>ak Z) (λ_=>ak Z) ?_;refine aP "(" λH=> ?_;simp only[map_cons,map_nil,cons_append,nil_append];refine aP "aBB" ?_;refine WL.val (V.build (vs:=[(0,_),(1,_)]) ⟨ak Z,ak Z,trivial⟩ Z (Tt _ _)) Z (aP "Ad" ?_);subst d;exact aF.ret (H':=F) (bJ.two Z (R1.dh Z ⟨isAgg219,sizeOf219⟩) (R1.tmp Z)) eO ⟨Z,Z⟩
   ·simp only[cZ] at k;rw[if_pos (Decidable.byContradiction λh=>k (agN.2 h))] at d;refine aP "7BB" ?_;refine WL.val (V.build (vs:=[(0,_),(1,_)]) ⟨ak Z,ak Z,trivial⟩ Z (Tt _ _)) Z (aP "Ad" ?_);subst d;exact aF.ret (H':=F) (bJ.two Z (R1.dh Z ⟨isAgg219,sizeOf219⟩) (R1.tmp Z)) eO ⟨Z,Z⟩
theorem Sn:aK prog 147 #[] K F (pt cB):=by
 refine aB.en func147 ntmps147 ?_;refine aP "az" λa=> ?_;refine aj "Q" ?_;refine WL.t1 call202 Z (iF (n:=4) aN) Z<|WL.t1 call202 Z (iF (n:=5) aN) Z<|WL.t1 call203 Z (zH aN) Z<|WL.t2 call199 Z Z (dN aN (Cu _)) Z<|WL.t1 call143 Z (vO (zR (cK _ _))) Z ?_;rw[ai0];refine aP "5z" λb=> ?_;refine aP "AwBA6" ?_;exact aF.ret (H':=F) (bJ.one Z (R1.dh Z ⟨isAgg219,sizeOf219⟩)) eO ⟨Z,Z⟩
theorem Eh(hB:0<B)(h:aA B l)(j:Nat):l.getD j 0=vl B l/B^j%B:=by
 rcases Nat.lt_or_ge j l.length with a | a
 ·exact (IU h a).symm
 ·have b:vl B l<B^j:=Nat.lt_of_lt_of_le (nH h) (Nat.pow_le_pow_right hB a);rw[div_eq_of_lt b];simp[getD,getElem?_eq_none a]
theorem PD(x B i:Nat):x/B^i=x/B^(i+1)*B+x/B^i%B:=by grind [Nat.pow_succ,Nat.div_div_eq_div_mul,div_add_mod']
theorem KH{x:Nat}(h:x/k<y/k):x<y:=by grind [Nat.lt_or_ge,Nat.div_le_div_right]
def rM(x y:Nat):Int:=if x<y then-1 else if y<x then 1 else 0
theorem YE(hB:0<B)(hq:q<L)(hm:m/B^q+c<B):(bG B L m).set q (m/B^q%B+c)=bG B L (m+B^q*c):=by
 obtain⟨j,b⟩:∃j,L=q+(j+1):=⟨L-q-1,by omega⟩;subst b;have d:(m+B^q*c)/B^q=m/B^q+c:=add_mul_div_left _ _ (Nat.pow_pos hB);have e:bG B q (m+B^q*c)=bG B q m:=by rw[←nV,add_mul_mod_self_left,nV]
 rw[acX B q (j+1) m,acX B q (j+1) (m+B^q*c),d,e,set_append,aI,if_neg ay,Nat.sub_self];congr 1;have a:m/B^q<B:=ay;rw[bG,bG,set_cons_zero,mod_eq_of_lt a,mod_eq_of_lt hm,div_eq_of_lt a,div_eq_of_lt hm]
theorem TM(hs:Seq K F A m 1 (av .u64 ws)):aK prog 299 #[.slice A m cap,.i ((i:Nat):Int)] K F (.int .u64 ((ws.getD i 0:Nat):Int)):=by
 have a:ws.length=m:=by have :=hs.len;rwa [au,Nat.mul_one] at this
 refine aB.en func299 ntmps299 ?_;refine aP "afbj~lh" (aW (λaL=> ?_) λaL=> ?_)
 ·simp only[cZ] at aL;refine aj "eb" ?_;exact WL.val (V.jW (v:= .int .u64 ((ws.getD i 0:Nat):Int)) Ls (ak Z) (ak Z) (hr:=λ_=>Seq.qH hs ay)) Z<|WL.val (V.d9 (v:= .int .u64 ((ws.getD i 0:Nat):Int)) isAgg306 (ak Z) (λ_=>Seq.qH hs ay)) Z<|aj "d+" trivial
 ·simp only[cZ] at aL;refine aj "qD" ?_;exact qR F Z Z eO ⟨by rw[show ws.getD i 0=0 by simp[getD,getElem?_eq_none (show ws.length≤i by omega)]];rfl,Z⟩
theorem I6(hs:Seq K F A m 1 (av .u64 ws))(hm:m≤1000)(hc:m≤cap):aB prog 300 #[.slice A m cap] K F (λv H'=>H'=F∧∃m',v= .slice A m' cap∧m'≤m∧vl 18446744073709551616 (ws.take m')=vl 18446744073709551616 ws∧(0<m'→ws.getD (m'-1) 0≠0)):=by
 have d:ws.length=m:=by have :=hs.len;rwa [au,Nat.mul_one] at this
 refine aB.en func300 ntmps300 ?_;refine aj "ats" ?_;refine WC.loop (σ:=Nat) (λq=>[(0,.slice A q cap)]) (λ_=>F) (λq=>q≤m∧vl 18446744073709551616 (ws.take q)=vl 18446744073709551616 ws) (λq=>q) m ⟨Nat.le_refl _,by rw[take_of_length_le ay]⟩ bC cO ?_;rintro q ⟨k,e⟩;refine aP "rj~`b!!~~r" ?_;refine WL.bI (oj:=_) Z Z Z GC.t (V.rD (j:=1) (OV.g Z id) (ak Z)) Z<|WL.bI (oj:=_) Z Z Z GC.t (V.jW (m:=q) (j:=q-1) (v:= .int .u64 ((ws.getD (q-1) 0:Nat):Int)) Ls (OV.g Z id) (OV.g Z id) (hb:=λhc=>by simp at hc;omega) (hr:=λhc=>Seq.qH hs (by simp at hc;omega))) Z<|WL.bI (oj:=_) Z Z Z GC.t (V.d9 (v:= .int .u64 ((ws.getD (q-1) 0:Nat):Int)) isAgg306 (OV.g Z id) (λhc=>Seq.qH hs (by simp at hc;omega))) Z<|aP "~~ASh" (aW (λa=> ?_) λa=> ?_)
 ·simp only[Gi] at a;refine aP "qsgbj~~~b" ?_;refine WL.val (V.slice (m:=q) (cap:=cap) (l:=0) (h:=q-1) (u:=cap) Ls (ak Z) OO.none (OO.some (ak Z) (λ_=>Z)) OO.none (by simp) ay ay ay) Z<|aj "N" ?_;refine⟨q-1,⟨by show q-1≤m;omega, ?_⟩,(by show q-1<q;omega),.cons (look_eq Z (by rw[zK,Nat.sub_zero,Nat.sub_zero])) (.nil _),λw h=>h⟩;show vl 18446744073709551616 (ws.take (q-1))=_;have b:=Cr (B:=18446744073709551616) ws (q-1) ay;rw[show q-1+1=q by omega,a.2,Nat.mul_zero,Nat.add_zero] at b;rw[←b,e]
 ·simp only[Gi] at a;refine aj "Ked" ?_;refine qR F Z Z eO ⟨Z,q,Z,k,e,λh=> ?_⟩;rcases a with a | a
  ·omega
  ·exact a
theorem Fy(hs:Seq K F A m 1 (av .u64 xs))(pI:Seq K F B m2 1 (av .u64 ys))(hx:aA 18446744073709551616 xs)(hy:aA 18446744073709551616 ys)(hm:m≤1000)(hm2:m2≤1000) :
 aK prog 258 #[.slice A m cap,.slice B m2 cap2] K F (.i (rM (vl 18446744073709551616 xs) (vl 18446744073709551616 ys))):=by
 have d:xs.length=m:=by have :=hs.len;rwa [au,Nat.mul_one] at this
 have qC:ys.length=m2:=by have :=pI.len;rwa [au,Nat.mul_one] at this
 refine aB.en func258 ntmps258 ?_;refine aj "afjbj" ?_;refine WL.val (V.aG (v':= .i ((Nat.max m m2:Nat):Int)) (V.max (ak Z) (ak Z)) (λ_=>by congr 1;show max (m:Int) (m2:Int)=((max m m2:Nat):Int);omega)) Z ?_;refine WL.val (V.Eo (ak Z) (ak Z) (λ_=>by have :Nat.max m m2=max m m2:=rfl;omega)) Z ?_;refine aj "os" ?_;refine WC.loop (σ:=Nat) (λi=>[(0,.slice A m cap),(1,.slice B m2 cap2),(5,.i ((i:Int)-1))]) (λ_=>F) (λi=>i≤Nat.max m m2∧vl 18446744073709551616 xs/18446744073709551616^i=vl 18446744073709551616 ys/18446744073709551616^i) (λi=>i) (Nat.max m m2) ⟨Nat.le_refl _,by
  have a:=nH hx;have b:=nH hy;rw[div_eq_of_lt (Nat.lt_of_lt_of_le a (Nat.pow_le_pow_right aN (by rw[d];exact Nat.le_max_left _ _))),div_eq_of_lt (Nat.lt_of_lt_of_le b (Nat.pow_le_pow_right aN (by rw[qC];exact Nat.le_max_right _ _)))]⟩ bC cO ?_
 rintro i ⟨r,e⟩;have l:Nat.max m m2≤1000:=Nat.max_le.2 ⟨hm,hm2⟩;refine aj "r~gh" (aW (λaL=> ?_) λaL=> ?_)
 ·simp only[cZ] at aL;obtain⟨i,rfl⟩:∃q,i=q+1:=⟨i-1,by omega⟩;rw[show ((i+1:Nat):Int)-1=((i:Nat):Int) by omega];have ex:=PD (vl 18446744073709551616 xs) 18446744073709551616 i;have j:=PD (vl 18446744073709551616 ys) 18446744073709551616 i;rw[←Eh aN hx] at ex;rw[←Eh aN hy] at j;refine aj "Yb" ?_;refine WL.t2 call299 Z Z (TM hs) Z<|aj "x" ?_;refine WL.t2 call299 Z Z (TM pI) Z<|aP "loseb~loJ" (aW (λa=> ?_) λa=> ?_)
  ·simp only[cZ] at a;refine aj "D" ?_;exact qR F Z Z eO ⟨by rw[rM,if_pos (KH (k:=18446744073709551616^i) ay)],Z⟩
  ·simp only[cZ] at a;refine aj "eb" ?_;refine WL.val (V.aar (ak Z) (ak Z)) Z<|aj "oJ" (aW (λb=> ?_) λb=> ?_)
   ·simp only[cZ] at b;refine aj "D" ?_;have n:vl 18446744073709551616 ys<vl 18446744073709551616 xs:=KH (k:=18446744073709551616^i) ay;exact qR F Z Z eO ⟨by rw[rM,if_neg ay,if_pos n],Z⟩
   ·simp only[cZ] at b;refine aj "qg~DN" ?_;exact⟨i,⟨by show i≤_;omega,by rw[ex,j,e];omega⟩,(by show i<i+1;omega),.cons Z bC,λw h=>h⟩
 ·simp only[cZ] at aL;refine aj "KD" ?_;obtain rfl:i=0:=by omega
  rw[Nat.pow_zero,Nat.div_one,Nat.div_one] at e;exact qR F Z Z eO ⟨by rw[rM,if_neg ay,if_neg ay],Z⟩
structure Rw where
 b:Nat
 L:Nat
 m:Nat
 cap:Nat
 n:Nat
abbrev Rw.v(r:Rw):Value:= .slice (some ⟨r.b,0,none⟩) r.m r.cap
abbrev Rw.A(r:Rw):aH:=ah r.b 306 (av .u64 (bG 18446744073709551616 r.L r.n))
structure Rw.Ok(r:Rw):Prop where
 mL:r.m≤r.L
 L:r.L≤1000
 cap:r.m≤r.cap
 lt:r.n<18446744073709551616^r.m
 top:0<r.m→r.n/18446744073709551616^(r.m-1)%18446744073709551616≠0
theorem Rw.seq{r:Rw}(h:r.Ok):Seq K (r.A::H) (some ⟨r.b,0,none⟩) r.m 1 (av .u64 (bG 18446744073709551616 r.m r.n)) :=
 Seq.akt (aI _ _ _) (by rw[←Ca h.mL];exact take_prefix _ _)
theorem Rw.vl{r:Rw}(h:r.Ok):vl 18446744073709551616 (bG 18446744073709551616 r.m r.n)=r.n:=by rw[xV,mod_eq_of_lt h.lt]
theorem PU(hL:L≤1000)(hc:L≤cap)(hn:n<18446744073709551616^L):aB prog 300 #[.slice (some ⟨b,0,none⟩) L cap] K (ah b 306 (av .u64 (bG 18446744073709551616 L n))::F) (λv H'=>∃r:Rw,r.Ok∧r.n=n∧r.b=b∧r.L=L∧v=r.v∧H'=r.A::F):=by
 refine (I6 (ws:=bG 18446744073709551616 L n) (Seq.pz (aI _ _ _)) hL hc).mono ?_;rintro v H' ⟨rfl,d,rfl,a,k,u⟩;refine⟨⟨b,L,d,cap,n⟩,⟨a,hL,Nat.le_trans a hc, ?_,λh=> ?_⟩,Z,Z,Z,Z,Z⟩
 ·have e:=nH (B:=18446744073709551616) (l:=(bG 18446744073709551616 L n).take d) (λy m=>bL aN _ _ y (mem_of_mem_take m));rw[k,xV,mod_eq_of_lt hn,length_take,aI,Nat.min_eq_left a] at e;exact e
 ·have h:0<d:=h;have j:=u h;rw[bV _ _ _ _ ay] at j;exact j
theorem zl(hs:Seq K F A m 1 (av .u8 bs))(h8:aA 256 bs)(hm:m≤2000):aB prog 259 #[.slice A m cap] K F (λv H'=>∃r:Rw,r.Ok∧r.n=vl 256 bs∧v=r.v∧H'=r.A::F):=by
 have a:bs.length=m:=by have :=hs.len;rwa [au,Nat.mul_one] at this
 obtain⟨n,k⟩:∃n,n=vl 256 bs:=⟨_,Z⟩;obtain⟨L,P⟩:∃L,L=(m+7)/8:=⟨_,Z⟩;have Ws:n<18446744073709551616^L:=by
  have d:=nH h8;rw[←k,a] at d;refine Nat.lt_of_lt_of_le d ?_;rw[show (18446744073709551616:Nat)=256^8 by decide,←Nat.pow_mul];exact Nat.pow_le_pow_right aN ay
 rw[←k];refine aB.en func259 ntmps259 ?_;refine aj "aij" ?_;refine WL.val (V.wN (j:=7) (ak Z) (ak Z)) Z (WL.val (V.XI (j:=8) (ak Z) (ak Z)) Z ?_);refine WL.Vf (m:=L) underlying330 Vn (ak Z) (ak Z) (λb=>aj "fjR" ?_);refine WC.loop (σ:=Nat) (λi=>[(3,.slice (some ⟨b,0,none⟩) L L),(11,.slice A m cap),(12,.i ((m:Nat):Int)),(13,.i ((i:Nat):Int))]) (λi=>ah b 306 (av .u64 (bG 18446744073709551616 L (n%256^i)))::F) (λi=>i≤m) (λi=>m-i) 0 (zero_le _) bC (λw h=>Sat.aT h (by rw[Nat.pow_zero,mod_one,qz])) ?_;rintro i N;refine aP "a~lGJ" (aW (λaL=> ?_) λaL=> ?_)
 ·simp only[cZ] at aL;have C:=h8.at_ aN i;have J:i/8<L:=ay;refine aj "Y" ?_;refine WL.val (V.jW (v:= .int .u8 ((bs.getD i 0:Nat):Int)) dO (ak Z) (ak Z) (hr:=λ_=>by repeat (first | exact Seq.qH hs ay | apply Rd.up))) Z<|WL.val (V.d9 (v:= .int .u8 ((bs.getD i 0:Nat):Int)) isAgg5 (ak Z) (λ_=>by repeat (first | exact Seq.qH hs ay | apply Rd.up))) Z<|aP "lo~<M0M1" ?_;refine UA.val 2 Z (λ_=>V.XI (j:=8) (ak Z) (ak Z)) ?_;refine aP "~_3~~b4M5" ?_;refine UA.val 6 Z (λ_=>V.qQ (i:=bs.getD i 0) runUnderlying5 runUnderlying306 (ak Z) (λ_=>kN (M:=18446744073709551616) Z Z ay)) ?_;refine aP "M7" ?_;refine UA.val 8 Z (λ_=>V.WJ (j:=8) (ak Z) (ak Z)) ?_;refine UA.val 9 Z (λ_=>V.Ob (i:=8) (ak Z) (ak Z)) ?_;refine UA.val 10 Z (λ_=>V.G7 (M:=18446744073709551616) (ak Z) (ak Z)) ?_;refine UA.val 11 Z (λ_=>V.Zv (i:=(bG 18446744073709551616 L (n%256^i)).getD (i/8) 0) (j:=bs.getD i 0*2^(8*(i%8))%18446744073709551616) 64 (ak Z) (ak Z) (λ_=>⟨Nat.lt_of_lt_of_le (aA.at_ (bL aN _ _) aN _) aN,mod_lt _ aN⟩)) ?_;refine aP "~_<" ?_;refine UA.at_ 13 Z sizeOf306 (λ_=>ak Z) (λ_=>ak Z) ?_;refine aP "(" λBS=> ?_;simp only[map_cons,map_nil,cons_append,nil_append];refine aP "p=>" ?_;refine⟨i+1,(by show i+1≤m;omega),(by show m-(i+1)<m-i;omega),.cons Z bC,λw h=>Sat.aT h ?_⟩;obtain⟨q,r,x⟩:∃q r,q=i/8∧r=i%8:=⟨_,_,Z,Z⟩;obtain⟨l,Dq⟩:=x;have e:256^i=18446744073709551616^q*256^r:=by rw[show (18446744073709551616:Nat)=256^8 by decide,←Nat.pow_mul,←Nat.pow_add];congr 1;omega
  have y:bs.getD i 0=n/256^i%256:=by rw[k,IU h8 ay]
  have D:n%256^i/18446744073709551616^q<256^r:=Nat.div_lt_of_lt_mul (by rw[←e];exact mod_lt _ (Nat.pow_pos aN));have B:256^r*256≤18446744073709551616:=by rw[←Nat.pow_succ,show (18446744073709551616:Nat)=256^8 by decide];exact Nat.pow_le_pow_right aN ay
  have O:256^r*(n/256^i%256)+256^r≤18446744073709551616:=by
   have :256^r*(n/256^i%256+1)≤256^r*256:=mul_le_mul_left _ (mod_lt _ aN);rw[Nat.mul_add,Nat.mul_one] at this;omega
  have u:(2:Nat)^(8*r)=256^r:=by rw[Nat.pow_mul]
  have H:0<256^r:=Nat.pow_pos aN;rw[←l,←Dq,y,bV _ _ _ _ ay,mod_succ n 256 i,e,Nat.mul_assoc,←YE aN ay (by rw[←e];omega),←e];congr 2;rw[u,Nat.mul_comm (n/256^i%256),mod_eq_of_lt (show 256^r*(n/256^i%256)<18446744073709551616 by omega),Nat.or_comm,Nat.mul_comm (256^r),←u,uU (by rw[u];exact Nat.lt_of_le_of_lt (mod_le _ _) D),Nat.add_comm]
 ·simp only[cZ] at aL;refine aj "W" ?_;obtain rfl:i=m:=by omega
  rw[mod_eq_of_lt (show n<256^i by have d:=nH h8;rwa [←k,a] at d)];refine aj "g" ?_;refine WL.c1 call300 Z (PU ay (Nat.le_refl _) Ws) Z ?_;rintro _ _ ⟨r,hr,G,Q,I,rfl,rfl⟩;refine aj "d" ?_;exact qR (r.A::F) Z Z cO ⟨r,hr,G,Z,Z⟩
theorem Pg{V:Nat}(h:V+b*P=2*A+c)(hd:d+b'*w=2*x+b):V+P*d+b'*(P*w)=2*(A+P*x)+c:=by grind
theorem LP:∀ {l:List Nat},(∀j,l.getD j 0=0)→vl B l=0
 | [],_=>rfl
 | x::l,h=>by
  have h0:x=0:=h 0;have a:=LP (B:=B) (l:=l) λj=>h (j+1);rw[vl,h0,a];simp
theorem getD_drop(l:List Nat)(i j:Nat):(l.drop i).getD j 0=l.getD (i+j) 0:=by simp[getD]
theorem SN(hs:Seq K F A m 1 (av .u64 (bG 18446744073709551616 m n)))(hn:n<18446744073709551616^m)(hm:m≤900)(hb:bit≤1):aB prog 301 #[.slice A m cap,.int .u64 ((bit:Nat):Int)] K F (λv H'=>∃r:Rw,r.Ok∧r.n=2*n+bit∧v=r.v∧H'=r.A::F):=by
 have D:18446744073709551616^(m+1)=18446744073709551616^m*18446744073709551616:=Nat.pow_succ ..;have I:bG 18446744073709551616 m n++replicate 1 0=bG 18446744073709551616 (m+1) n:=by
  have C:=Gy (B:=18446744073709551616) (i:=m) (k:=m+1) (n:=n) aN ay;rw[mod_eq_of_lt hn,show m+1-m=1 by omega] at C;exact C.symm
 refine aB.en func301 ntmps301 ?_;refine aP "aij=" ?_;refine WL.Vf underlying330 Vn (ak Z) (ak Z) (λa=> ?_);refine aj "0" ?_;refine WL.yY Ls (ak Z) (ak Z) (by repeat (first | exact hs | apply Seq.up)) ay (jB _ _) (bT.front (by rw[au,au,aI,length_replicate];omega)) Z ?_;refine aj "crjR" ?_;refine WC.loop (σ:=Nat×List Nat×Nat) (λs=>[(1,.int .u64 ((s.2.2:Nat):Int)),(5,.slice (some ⟨a,0,none⟩) (m+1) (m+1)),(15,.i ((m+1:Nat):Int)),(16,.i ((s.1:Nat):Int))]) (λs=>ah a 306 (av .u64 s.2.1)::F)
  (λs=>s.1≤m+1∧s.2.1.length=m+1∧aA 18446744073709551616 s.2.1∧s.2.2≤1∧(∀j,s.1≤j→s.2.1.getD j 0=(bG 18446744073709551616 (m+1) n).getD j 0)∧vl 18446744073709551616 (s.2.1.take s.1)+s.2.2*18446744073709551616^s.1=2*(n%18446744073709551616^s.1)+bit) (λs=>m+1-s.1) (0,bG 18446744073709551616 (m+1) n,bit) ⟨zero_le _,aI _ _ _,bL aN _ _,hb,λ_ _=>Z,by simp[vl,mod_one]⟩ bC (λw h=>Sat.aT h (by rw[au,aI,kQ,drop_replicate,show m+1-m=1 by omega,←dx,I])) ?_
 rintro⟨i,ws,b⟩ ⟨hi,hl,nS,EA,he,hv⟩;dsimp only at hi hl nS EA he hv ⊢;refine aP "a~lGJ" (aW (λaL=> ?_) λaL=> ?_)
 ·simp only[cZ] at aL;have uI:n/18446744073709551616^i%18446744073709551616<18446744073709551616:=mod_lt _ aN;have d:ws.getD i 0=n/18446744073709551616^i%18446744073709551616:=by rw[he i (Nat.le_refl _),bV _ _ _ _ aL]
  have UQ:ws.getD i 0<18446744073709551616:=by rw[d];exact uI
  refine aj "Yo" ?_;refine WC.vU 1 [1] Z (by simp only[l8,mh,filter_cons,filter_nil,any_cons,any_nil,Nat.reduceBEq,Bool.or_false,Bool.or_true,Bool.not_true,Bool.not_false,if_true,if_false,Bool.false_eq_true];rfl) (by simp only[l8,mh,filter_cons,filter_nil,any_cons,any_nil,Nat.reduceBEq,Bool.or_false,Bool.or_true,Bool.not_true,Bool.not_false,if_true,if_false,Bool.false_eq_true];rfl) ?_;refine aP "M0M1M2M3~_4~~b5" ?_;refine UA.val 6 Z (λ_=>V.G7 (j:=1) (M:=18446744073709551616) (ak Z) (ak Z)) ?_;refine UA.Ru 7 Z (λ_=>V.move (ak Z)) ?_;refine UA.val 8 Z (λ_=>V.Zv (i:=ws.getD i 0*2^1%18446744073709551616) (j:=b) 64 (ak Z) (ak Z) (λ_=>⟨mod_lt _ aN,by omega⟩)) ?_;refine aP "M9M:~_;~~b<" ?_;refine UA.val 13 Z (λ_=>V.wK (j:=63) (ak Z) (ak Z)) ?_;refine aP "~_>" ?_;refine UA.at_ 15 Z sizeOf306 (λ_=>ak Z) (λ_=>ak Z) ?_;refine aP "~a@(" λBS=> ?_;simp only[map_cons,map_nil,cons_append,nil_append];refine aP "p=>" ?_;obtain⟨x,e⟩:∃x,x=n/18446744073709551616^i%18446744073709551616:=⟨_,Z⟩;rw[d,←e];rw[←e] at uI;have J:x*2^1%18446744073709551616 ||| b=x%9223372036854775808*2+b:=by
   rw[show x*2^1%18446744073709551616=x%9223372036854775808*2^1 by omega,uU ay]
  rw[J];refine⟨(i+1,_,x/2^63),⟨by show i+1≤m+1;omega,by show (ws.set i _).length=m+1;rw[length_set];exact hl,nS.set ay,(by dsimp only;omega),λj O=> ?_, ?_⟩,(by show m+1-(i+1)<m+1-i;omega),.cons Z bC,λw h=>h⟩
  ·dsimp only at O ⊢;rw[getD_set_ne ay];exact he j ay
  ·dsimp only;rw[oD _ _ _ ay,mod_succ n,Nat.pow_succ,←e];exact Pg hv ay
 ·simp only[cZ] at aL;refine aj "W" ?_;obtain rfl:i=m+1:=by omega
  have u:n<18446744073709551616^(m+1):=by rw[D];omega
  rw[take_of_length_le ay,mod_eq_of_lt u] at hv;have y:=nH nS;rw[hl] at y;have P:0<18446744073709551616^m:=Nat.pow_pos aN;have N:2*n+bit<18446744073709551616^(m+1):=by rw[D];omega
  have l:b=0:=by
   rcases (show b=0∨b=1 by omega) with h | h
   ·exact h
   ·subst h;omega
  rw[l,Nat.zero_mul,Nat.add_zero] at hv;have H:av .u64 ws=av .u64 (bG 18446744073709551616 (m+1) (2*n+bit)):=by rw[←hv,ng nS hl]
  rw[H];refine aj "g" ?_;refine WL.c1 call300 Z (PU ay (Nat.le_refl _) N) Z ?_;rintro _ _ ⟨r,G,L,R,Q,rfl,rfl⟩;refine aj "d" ?_;exact qR (r.A::F) Z Z cO ⟨r,G,L,Z,Z⟩
theorem aac(hmL:m≤L)(hL:L≤1000)(hc:m≤cap)(hn:n<18446744073709551616^m):aB prog 300 #[.slice (some ⟨b,0,none⟩) m cap] K (ah b 306 (av .u64 (bG 18446744073709551616 L n))::F) (λv H'=>∃r:Rw,r.Ok∧r.n=n∧r.b=b∧r.L=L∧v=r.v∧H'=r.A::F):=by
 refine (I6 (ws:=bG 18446744073709551616 m n) (Seq.akt (aI _ _ _) (by rw[←Ca hmL];exact take_prefix _ _)) ay hc).mono ?_;rintro v H' ⟨rfl,d,rfl,a,k,x⟩;refine⟨⟨b,L,d,cap,n⟩,⟨Nat.le_trans a hmL,hL,Nat.le_trans a hc, ?_,λh=> ?_⟩,Z,Z,Z,Z,Z⟩
 ·have e:=nH (B:=18446744073709551616) (l:=(bG 18446744073709551616 m n).take d) (λy u=>bL aN _ _ y (mem_of_mem_take u));rw[k,xV,mod_eq_of_lt hn,length_take,aI,Nat.min_eq_left a] at e;exact e
 ·have h:0<d:=h;have j:=x h;rw[bV _ _ _ _ ay] at j;exact j
theorem XY{r:Rw}(hr:r.Ok)(pI:Seq K F B m2 1 (av .u64 ys))(hy:aA 18446744073709551616 ys)(hle:vl 18446744073709551616 ys≤r.n) :
 aB prog 302 #[r.v,.slice B m2 cap2] K (r.A::F) (λv H'=>∃r':Rw,r'.Ok∧r'.n=r.n-vl 18446744073709551616 ys∧v=r'.v∧H'=r'.A::F):=by
 obtain⟨x,L,m,cap,n⟩:=r;obtain⟨a,C,kS,o7,ak3⟩:=hr;dsimp only[Rw.v,Rw.A] at a C kS o7 ak3 hle ⊢;obtain⟨y,d⟩:∃y,y=vl 18446744073709551616 ys:=⟨_,Z⟩;rw[←d] at hle ⊢;refine aB.en func302 ntmps302 ?_;refine aj "awfjR" ?_;refine WC.loop (σ:=Nat×List Nat×Nat) (λs=>[(0,.slice (some ⟨x,0,none⟩) m cap),(1,.slice B m2 cap2),(5,.int .u64 ((s.2.2:Nat):Int)),(8,.i ((m:Nat):Int)),(9,.i ((s.1:Nat):Int))]) (λs=>ah x 306 (av .u64 s.2.1)::F)
  (λs=>s.1≤m∧s.2.1.length=L∧aA 18446744073709551616 s.2.1∧s.2.2≤1∧(∀j,s.1≤j→s.2.1.getD j 0=(bG 18446744073709551616 L n).getD j 0)∧vl 18446744073709551616 (s.2.1.take s.1)+y%18446744073709551616^s.1=n%18446744073709551616^s.1+s.2.2*18446744073709551616^s.1) (λs=>m-s.1) (0,bG 18446744073709551616 L n,0) ⟨zero_le _,aI _ _ _,bL aN _ _,zero_le _,λ_ _=>Z,by simp[vl,mod_one]⟩ bC cO ?_
 rintro⟨i,ws,b⟩ ⟨hi,hl,nS,EA,he,hv⟩;dsimp only at hi hl nS EA he hv ⊢;refine aP "a~lGJ" (aW (λaL=> ?_) λaL=> ?_)
 ·simp only[cZ] at aL;refine aj "Yo" ?_;refine WC.vU 1 [5] Z (by simp only[l8,mh,filter_cons,filter_nil,any_cons,any_nil,Nat.reduceBEq,Bool.or_false,Bool.or_true,Bool.not_true,Bool.not_false,if_true,if_false,Bool.false_eq_true];rfl) (by simp only[l8,mh,filter_cons,filter_nil,any_cons,any_nil,Nat.reduceBEq,Bool.or_false,Bool.or_true,Bool.not_true,Bool.not_false,if_true,if_false,Bool.false_eq_true];rfl)<|aP "M0M1M2M3~_4~~b5M6M7" ?_;refine UA.call (vs:=[_,_]) 8 Z call299 (λ_=>⟨ak Z,ak Z,trivial⟩) (λH' P=>TM (i:=i) (pI.sat P)) ?_;refine UA.Ru 9 Z (λ_=>V.move (ak Z)) ?_;refine UA.val 10 Z (λ_=>V.ext (λQ=>zZ _ _ _ ay) ⟨ak Z,ak Z,ak Z,trivial⟩) ?_;refine aP "M;~8<~8=~_>" ?_;refine UA.at_ 15 Z sizeOf306 (λ_=>ak Z) (λ_=>ak Z) ?_;refine aP "~a@(" λBS=> ?_;simp only[map_cons,map_nil,cons_append,nil_append];refine aP "p=>" ?_;rw[he i (Nat.le_refl _),bV _ _ _ _ ay,Eh aN hy,←d];have H:n/18446744073709551616^i%18446744073709551616<18446744073709551616:=mod_lt _ aN;have J:y/18446744073709551616^i%18446744073709551616<18446744073709551616:=mod_lt _ aN;refine⟨(i+1,_,if n/18446744073709551616^i%18446744073709551616<y/18446744073709551616^i%18446744073709551616+b then 1 else 0),⟨by show i+1≤m;omega,by show (ws.set i _).length=L;rw[length_set];exact hl,nS.set (mod_lt _ aN),(by dsimp only;split<;>omega),λj e=> ?_, ?_⟩,(by show m-(i+1)<m-i;omega),.cons Z bC,λw h=>h⟩
  ·dsimp only at e ⊢;rw[getD_set_ne ay];exact he j ay
  ·dsimp only;rw[oD _ _ _ ay,mod_succ y,mod_succ n,Nat.pow_succ];exact FM hv (by split<;>omega)
 ·simp only[cZ] at aL;refine aj "W" ?_;obtain rfl:i=m:=by omega
  rw[mod_eq_of_lt o7,mod_eq_of_lt (Nat.lt_of_le_of_lt hle o7)] at hv;have u:=nH (B:=18446744073709551616) (l:=ws.take i) (λz O=>nS z (mem_of_mem_take O));rw[length_take,hl,Nat.min_eq_left a] at u;have k:b=0:=by
   rcases (show b=0∨b=1 by omega) with h | h
   ·exact h
   ·subst h;omega
  rw[k,Nat.zero_mul,Nat.add_zero] at hv;have I:vl 18446744073709551616 (ws.drop i)=0:=LP λj=>by
   rw[getD_drop,he _ ay];rcases Nat.lt_or_ge (i+j) L with e | e
   ·rw[bV _ _ _ _ e,div_eq_of_lt (Nat.lt_of_lt_of_le o7 (Nat.pow_le_pow_right aN ay))]
   ·simp[getD,getElem?_eq_none (show (bG 18446744073709551616 L n).length≤i+j by rw[aI];exact e)]
  have D:=M5 (B:=18446744073709551616) ws i ay;rw[I,Nat.mul_zero,Nat.add_zero] at D;have G:av .u64 ws=av .u64 (bG 18446744073709551616 L (n-y)):=by rw[show n-y=vl 18446744073709551616 ws by omega,ng nS hl]
  rw[G];refine aj "g" ?_;refine WL.c1 call300 Z (aac a C kS (show n-y<18446744073709551616^i by omega)) Z ?_;rintro _ _ ⟨r,hr,N,S,R,rfl,rfl⟩;refine aj "d" ?_;exact qR (r.A::F) Z Z cO ⟨r,hr,N,Z,Z⟩
end Go.Proofs.YtcedojacbhnbiaaGreat
