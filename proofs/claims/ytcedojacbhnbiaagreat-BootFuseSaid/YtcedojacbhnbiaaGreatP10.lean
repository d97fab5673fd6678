import Derived.Test.YtcedojacbhnbiaaGreatP3
set_option linter.unusedSimpArgs false
set_option linter.unusedVariables false
set_option maxHeartbeats 2000000
set_option maxRecDepth 20000
namespace Go.Proofs.YtcedojacbhnbiaaGreat
open Go.Sl Go.RowKit Tryz List Nat
def force{α:Type}(n:Nat)(f:Nat→α):α:=Nat.rec (f 0) (fun k _=>f (k+1)) n
theorem force_eq{α:Type}(n:Nat)(f:Nat→α):force n f=f n:=by cases n<;>rfl
def fD:List Nat:=[2,3,5,7,11,13,17,19,23,29,31,37,41,43,47,53,59,61,67,71,73,79,83,89,97,101,103,107,109,113,127,131,137,139,149,151,157,163,167,173,179,181,191,193,197,199,211,223,227,229,233,239,241,251,257,263,269,271,277,281,283,293,307,311,313,317,331,337,347,349,353,359,367,373,379,383,389,397,401,409]
def Kt:List Nat:=[4794697086780616226,8158064640168781261,13096744586834688815,16840607885511220156,4131703408338449720,6480981068601479193,10538285296894168987,12329834152419229976,15566598209576043074,1334009975649890238,2608012711638119052,6128411473006802146,8268148722764581231,9286055187155687089,11230858885718282805,13951009754708518548,16472876342353939154,17275323862435702243,1135362057144423861,2597628984639134821,3308224258029322869,5365058923640841347,6679025012923562964,8573033837759648693,10970295158949994411,12119686244451234320,12683024718118986047,13788192230050041572,14330467153632333762,15395433587784984357,489312712824947311,1452737877330783856,2861767655752347644,3322285676063803686,5560940570517711597,5996557281743188959,7280758554555802590,8532644243296465576,9350256976987008742,10552545826968843579,11727347734174303076,12113106623233404929,14000437183269869457,14369950271660146224,15101387698204529176,15463397548674623760,17586052441742319658,1182934255886127544,1847814050463011016,2177327727835720531,2830643537854262169,3796741975233480872,4115178125766777443,5681478168544905931,6601373596472566643,7507060721942968483,8399075790359081724,8693463985226723168,9568029438360202098,10144078919501101548,10430055236837252648,11840083180663258601,13761210420658862357,14299343276471374635,14566680578165727644,15097957966210449927,16922976911328602910,17689382322260857208,500013540394364858,748580250866718886,1242879168328830382,1977374033974150939,2944078676154940804,3659926193048069267,4368137639120453308,4836135668995329356,5532061633213252278,6448918945643986474,6902733635092675308,7801388544844847127]
def TT:List Nat:=[7640891576956012808,13503953896175478587,4354685564936845355,11912009170470909681,5840696475078001361,11170449401992604703,2270897969802886507,6620516959819538809]
def rT:List Nat:=[1116352408,1899447441,3049323471,3921009573,961987163,1508970993,2453635748,2870763221,3624381080,310598401,607225278,1426881987,1925078388,2162078206,2614888103,3248222580,3835390401,4022224774,264347078,604807628,770255983,1249150122,1555081692,1996064986,2554220882,2821834349,2952996808,3210313671,3336571891,3584528711,113926993,338241895,666307205,773529912,1294757372,1396182291,1695183700,1986661051,2177026350,2456956037,2730485921,2820302411,3259730800,3345764771,3516065817,3600352804,4094571909,275423344,430227734,506948616,659060556,883997877,958139571,1322822218,1537002063,1747873779,1955562222,2024104815,2227730452,2361852424,2428436474,2756734187,3204031479,3329325298]
def u7:List Nat:=[1779033703,3144134277,1013904242,2773480762,1359893119,2600822924,528734635,1541459225]
def fM(p pw sh:Nat):Nat→Nat→Nat
 | 0,out=>out
 | i+1,out=>fM p pw sh i (bif ble ((out+2^i)^pw) (p*2^sh) then out+2^i else out)
theorem adR:fD.map (fun p=>fM p 3 192 71 0%18446744073709551616)=Kt:=by kernel_rfl
theorem aeB:(fD.take 8).map (fun p=>fM p 2 128 71 0%18446744073709551616)=TT:=by kernel_rfl
theorem aep:(fD.take 64).map (fun p=>fM p 3 96 36 0%4294967296)=rT:=by kernel_rfl
theorem aeQ:(fD.take 8).map (fun p=>fM p 2 64 37 0%4294967296)=u7:=by kernel_rfl
structure O8 where
 (a b c d e f g h:Nat)
def O8.of(s:List Nat):O8:=⟨s.getD 0 0,s.getD 1 0,s.getD 2 0,s.getD 3 0,s.getD 4 0,s.getD 5 0,s.getD 6 0,s.getD 7 0⟩
def be(l:List Nat):Nat:=l.foldl (fun a x=>256*a+x) 0
section
variable(M:Nat)
def Qz(s:List Nat)(o:O8):List Nat :=
 [(s.getD 0 0+o.a)%M,(s.getD 1 0+o.b)%M,(s.getD 2 0+o.c)%M,(s.getD 3 0+o.d)%M,(s.getD 4 0+o.e)%M,(s.getD 5 0+o.f)%M,(s.getD 6 0+o.g)%M,(s.getD 7 0+o.h)%M]
def Ug(s1 s0:Nat→Nat)(o:O8)(k w:Nat):O8 :=
 force ((o.h+s1 o.e+(o.e &&& o.f ^^^ (M-1-o.e) &&& o.g)+k+w)%M) fun t1 =>
 force (s0 o.a+(o.a &&& o.b ^^^ o.a &&& o.c ^^^ o.b &&& o.c)) fun t2 =>
 force ((t1+t2)%M) fun a=>force ((o.d+t1)%M) fun e=>⟨a,o.a,o.b,o.c,e,o.e,o.f,o.g⟩
def xu(s1 s0:Nat→Nat):List Nat→List Nat→O8→O8
 | k::ks,w::ws,o=>xu s1 s0 ks ws (Ug M s1 s0 o k w)
 | _,_,o=>o
def ae3(z1 z0:Nat→Nat)(w:List Nat):Nat:=(w.getD 15 0+z0 (w.getD 14 0)+w.getD 6 0+z1 (w.getD 1 0))%M
def yL(z1 z0:Nat→Nat):Nat→List Nat→List Nat
 | 0,w=>w
 | k+1,w=>force (ae3 M z1 z0 w) fun x=>yL z1 z0 k (x::w)
def kG(q:Nat):Nat→List Nat→List Nat→List Nat
 | 0,_,w=>w
 | k+1,data,w=>force (be (data.take q)) fun x=>kG q k (data.drop q) (x::w)
def abX(s1 s0 z1 z0:Nat→Nat)(q n:Nat)(ks s data:List Nat):List Nat :=
 Qz M s (xu M s1 s0 ks (yL M z1 z0 n (kG q 16 data [])).reverse (O8.of s))
end
def qG(x n:Nat):Nat:=x*2^(64-n)%18446744073709551616 ||| x/2^n
def yI(s data:List Nat):List Nat :=
 abX 18446744073709551616 (fun x=>qG x 14 ^^^ qG x 18 ^^^ qG x 41) (fun x=>qG x 28 ^^^ qG x 34 ^^^ qG x 39)
  (fun x=>qG x 19 ^^^ qG x 61 ^^^ x/2^6) (fun x=>qG x 1 ^^^ qG x 8 ^^^ x/2^7) 8 64 Kt s data
def qw(x n:Nat):Nat:=x*2^(32-n)%4294967296 ||| x/2^n
def gN(s data:List Nat):List Nat :=
 abX 4294967296 (fun x=>qw x 6 ^^^ qw x 11 ^^^ qw x 25) (fun x=>qw x 2 ^^^ qw x 13 ^^^ qw x 22)
  (fun x=>qw x 17 ^^^ qw x 19 ^^^ x/2^10) (fun x=>qw x 7 ^^^ qw x 18 ^^^ x/2^3) 4 48 rT s data
def dB(f:List Nat→List Nat→List Nat)(q:Nat):Nat→List Nat→List Nat→List Nat
 | 0,_,s=>s
 | k+1,data,s=>dB f q k (data.drop q) (f s (data.take q))
def mg(q r n:Nat):List Nat:=128::replicate (q-1-(n+r)%q) 0++replicate (r-8) 0++(bH 256 8 (8*n)).reverse
def pO(data:List Nat):List Nat:=(dB yI 128 ((data.length+(mg 128 16 data.length).length)/128) (data++mg 128 16 data.length) TT).flatMap fun x=>(bH 256 8 x).reverse
def sum256(data:List Nat):List Nat:=(dB gN 64 ((data.length+(mg 64 8 data.length).length)/64) (data++mg 64 8 data.length) u7).flatMap fun x=>(bH 256 4 x).reverse
example:pO [97,98,99]=[0xdd,0xaf,0x35,0xa1,0x93,0x61,0x7a,0xba,0xcc,0x41,0x73,0x49,0xae,0x20,0x41,0x31,0x12,0xe6,0xfa,0x4e,0x89,0xa9,0x7e,0xa2,0x0a,0x9e,0xee,0xe6,0x4b,0x55,0xd3,0x9a,0x21,0x92,0x99,0x2a,0x27,0x4f,0xc1,0xa8,0x36,0xba,0x3c,0x23,0xa3,0xfe,0xeb,0xbd,0x45,0x4d,0x44,0x23,0x64,0x3c,0xe8,0x0e,0x2a,0x9a,0xc9,0x4f,0xa5,0x4c,0xa4,0x9f]:=by kernel_rfl
example:sum256 [97,98,99]=[0xba,0x78,0x16,0xbf,0x8f,0x01,0xcf,0xea,0x41,0x41,0x40,0xde,0x5d,0xae,0x22,0x23,0xb0,0x03,0x61,0xa3,0x96,0x17,0x7a,0x9c,0xb4,0x10,0xff,0x61,0xf2,0x00,0x15,0xad]:=by kernel_rfl
def fP:Nat:=57896044618658097711785492504343953926634992332820282019728792003956564819949
def uV(x y:Nat):Nat:=(x+y)%fP
def aa7(x:Nat):Nat:=(fP-x)%fP
def uJ(x y:Nat):Nat:=uV x (aa7 y)
def eZ(x y:Nat):Nat:=x*y%fP
def Ei(x:Nat)(bit:Nat→Bool):Nat→Nat→Nat
 | 0,out=>out
 | i+1,out=>Ei x bit i (bif bit i then eZ (eZ out out) x else eZ out out)
def EI(a:Nat):Nat:=Ei a (fun i=>testBit (fP-2) i) 255 1
def fI:Nat:=Ei 2 (fun i=> !beq i 2) 253 1
def Au(x:Nat):Nat×Bool :=
 let r:=Ei x (fun i=>blt 0 i) 252 1
 let s:=bif beq (eZ r r) x then r else eZ r fI
 bif beq (eZ s s) x then (bif beq (s%2) 1 then aa7 s else s,true) else (0,false)
def cD:Nat:=eZ (uJ 0 121665) (EI 121666)
def cTw:Nat:=uV cD cD
def uT(p:Nat×Nat):Bool:=blt p.1 fP&&blt p.2 fP&&beq (uJ (eZ p.2 p.2) (eZ p.1 p.1)) (uV 1 (eZ cD (eZ (eZ p.1 p.1) (eZ p.2 p.2))))
structure Pl where
 (x y z t:Nat)
def Pl.of(p:Nat×Nat):Pl:=⟨p.1,p.2,1,eZ p.1 p.2⟩
def Pl.plain(p:Pl):Nat×Nat:=(eZ p.x (EI p.z),eZ p.y (EI p.z))
def Pl.plus(p q:Pl)(tw:Nat):Pl :=
 let a:=eZ (uJ p.y p.x) (uJ q.y q.x)
 let b:=eZ (uV p.y p.x) (uV q.y q.x)
 let c:=eZ (eZ p.t tw) q.t
 let w:=eZ (uV p.z p.z) q.z
 ⟨eZ (uJ b a) (uJ w c),eZ (uV w c) (uV b a),eZ (uJ w c) (uV w c),eZ (uJ b a) (uV b a)⟩
def zN(one:Pl)(tw n:Nat):Nat→Pl→Pl
 | 0,out=>out
 | i+1,out=>zN one tw n i (bif testBit n i then (out.plus out tw).plus one tw else out.plus out tw)
def og(n k:Nat)(p:Nat×Nat):Nat×Nat:=bif uT p then (zN (Pl.of p) cTw n (8*k) (Pl.of (0,1))).plain else (0,0)
def Ra(p q:Nat×Nat):Nat×Nat:=bif uT p&&uT q then ((Pl.of p).plus (Pl.of q) cTw).plain else (0,0)
def aef(p:Nat×Nat):Nat:=bif uT p then p.2+p.1%2*57896044618658097711785492504343953926634992332820282019728792003956564819968 else 0
def fq(b:Nat):Option (Nat×Nat) :=
 let y:=b%57896044618658097711785492504343953926634992332820282019728792003956564819968
 bif blt y fP then
  let yy:=eZ y y
  let r:=Au (eZ (uJ yy 1) (EI (uV (eZ cD yy) 1)))
  bif r.2 then
   bif blt b 57896044618658097711785492504343953926634992332820282019728792003956564819968 then some (r.1,y) else bif beq r.1 0 then none else some (uJ 0 r.1,y)
  else none
 else none
def cB:Nat×Nat:=(15112221349535400772501151409588531511454012693041857206046113283949847762202,46316835694926478169428394003475163141307993866256225615783033603165251855960)
theorem ajE:fq (eZ 4 (EI 5))=some cB:=by kernel_rfl
def cL:Nat:=7237005577332262213973186563042994240857116359379907606001950938285454250989
def JJ(l:List Nat):Nat:=vl 256 (pO l)%cL
def Xe(n:Nat):Nat:=aef (og n 32 cB)
def agL(b:Nat):Nat:=b%28948022309329048855892746252171976963317496166410141009864396001978282409984/8*8+28948022309329048855892746252171976963317496166410141009864396001978282409984
def ND(seed:Nat):Nat×List Nat:=(agL (vl 256 ((pO (bH 256 32 seed)).take 32)),(pO (bH 256 32 seed)).drop 32)
def OQ(seed:Nat):Nat:=Xe (ND seed).1
def WR(seed:Nat)(msg:List Nat):Nat×Nat :=
 let n:=JJ ((ND seed).2++msg)
 let r:=Xe n
 let k:=JJ (bH 256 32 r++bH 256 32 (OQ seed)++msg)
 (r,(k*(ND seed).1+n)%cL)
def lu(pub:Nat)(msg:List Nat)(r s:Nat):Bool :=
 match fq pub,fq r with
 | some p,some q=>blt s cL&&(let a:=og s 32 cB;let b:=Ra q (og (JJ (bH 256 32 r++bH 256 32 pub++msg)) 32 p);beq a.1 b.1&&beq a.2 b.2)
 | _,_=>false
example:lu (OQ 7) [1,2,3] (WR 7 [1,2,3]).1 (WR 7 [1,2,3]).2=true:=by kernel_rfl
example:lu (OQ 7) [1,2,4] (WR 7 [1,2,3]).1 (WR 7 [1,2,3]).2=false:=by kernel_rfl
theorem adj{x y x0 x1 y0 y1:Nat}(hx:x=x1*4294967296+x0)(hy:y=y1*4294967296+y0)(h0:x0<4294967296)(h1:x1<4294967296)(h2:y0<4294967296)(h3:y1<4294967296) :
 ((
  x1*y1%18446744073709551616+((x1*y0%18446744073709551616+x0*y0%18446744073709551616/4294967296)%18446744073709551616)/4294967296)%18446744073709551616 +
  ((((x1*y0%18446744073709551616+x0*y0%18446744073709551616/4294967296)%18446744073709551616)%4294967296)+x0*y1%18446744073709551616)%18446744073709551616/4294967296)%18446744073709551616=x*y/18446744073709551616:=by
 have e:x*y=x1*y1*18446744073709551616+(x1*y0+x0*y1)*4294967296+x0*y0:=by
  subst hx hy;rw[Nat.mul_add,Nat.add_mul,Nat.add_mul,Nat.add_mul];rw[show x1*4294967296*(y1*4294967296)=x1*y1*18446744073709551616 by rw[Nat.mul_mul_mul_comm],show x0*(y1*4294967296)=x0*y1*4294967296 by rw[Nat.mul_assoc],show x1*4294967296*y0=x1*y0*4294967296 by rw[Nat.mul_right_comm]];omega
 have m:∀ {a b:Nat},a<4294967296→b<4294967296→a*b≤18446744065119617025:=fun ha hb=>Nat.le_trans (Nat.mul_le_mul (le_of_lt_succ ha) (le_of_lt_succ hb)) aK;have b1:=m h0 h2;have b2:=m h1 h2;have b3:=m h0 h3;have b4:=m h1 h3;rw[e]
 generalize x0*y0=p at *
 generalize x1*y0=q at *
 generalize x0*y1=r at *
 generalize x1*y1=s at *
 omega
section
variable{K:World}{F:List aA}
theorem kN{x y:Nat}(hx:x<18446744073709551616)(hy:y<18446744073709551616) :
 aL prog 293 #[.int .u64 (x:Int),.int .u64 (y:Int)] K F (.tuple #[.int .u64 ((x*y/18446744073709551616:Nat):Int),.int .u64 ((x*y%18446744073709551616:Nat):Int)]):=by
 refine aC.en func293 ntmps293 ?_;refine aj "amj" ?_;refine WL.val (V.C9 (j:=4294967295) 64 (ak rfl) (ak rfl)) rfl (aj "j" ?_);refine WL.val (V.wO (j:=32) (ak rfl) (ak rfl)) rfl (aj "j" ?_);refine WL.val (V.C9 (j:=4294967295) 64 (ak rfl) (ak rfl)) rfl (aj "j" ?_);refine WL.val (V.wO (j:=32) (ak rfl) (ak rfl)) rfl (aj "0" ?_);refine WL.val (V.UW (M:=18446744073709551616) (ak rfl) (ak rfl)) rfl (aj "0" ?_);refine WL.val (V.UW (M:=18446744073709551616) (ak rfl) (ak rfl)) rfl (WL.mv rfl rfl (WL.val (V.wO (j:=32) (ak rfl) (ak rfl)) rfl (WL.val (V.RQ (M:=18446744073709551616) (ak rfl) (ak rfl)) rfl (aj "j" ?_))));refine WL.val (V.C9 (j:=4294967295) 64 (ak rfl) (ak rfl)) rfl (aj "j" ?_);refine WL.val (V.wO (j:=32) (ak rfl) (ak rfl)) rfl (aj "jz" ?_);refine WL.val (V.UW (M:=18446744073709551616) (ak rfl) (ak rfl)) rfl (WL.val (V.RQ (M:=18446744073709551616) (ak rfl) (ak rfl)) rfl (aj "0" ?_));refine WL.val (V.UW (M:=18446744073709551616) (ak rfl) (ak rfl)) rfl (WL.mv rfl rfl (WL.val (V.RQ (M:=18446744073709551616) (ak rfl) (ak rfl)) rfl (WL.mv rfl rfl (WL.val (V.wO (j:=32) (ak rfl) (ak rfl)) rfl (WL.val (V.RQ (M:=18446744073709551616) (ak rfl) (ak rfl)) rfl (aj "0" ?_))))));refine WL.val (V.UW (M:=18446744073709551616) (ak rfl) (ak rfl)) rfl (aj "d" ?_);refine aG.ret (H':=F) (bI.eY rfl rfl rfl) cu ⟨?_,rfl⟩;have em:∀z:Nat,z &&& 4294967295=z%4294967296:=fun z=>and_two_pow_sub_one_eq_mod z 32;simp only[em,show (2:Nat)^32=4294967296 from rfl];rw[adj (x:=x) (y:=y) ay ay ay ay ay ay]
end
abbrev p9(n:Nat):Value:= .agg (av .u8 (bH 256 32 n)).toArray
abbrev w4(n:Nat):Value:= .agg (av .u64 (bH 18446744073709551616 4 n)).toArray
theorem jo(n:Nat):(bH 256 32 n).length=32:=rfl
section
variable{K:World}{F:List aA}
theorem mJ:aL prog 247 #[] K F (w4 fP):=by
 refine aC.en func247 ntmps247 ?_;refine WC.sr ?_;refine WL.jP .u64 4 zeroValue318 rfl rfl (fun b0=> ?_);refine aj "T" ?_;refine WL.val (V.l7 (k:= .u64) (l:=[_,_,_,_]) (vs:=[(0,_),(1,_),(2,_),(3,_)]) ⟨ak rfl,ak rfl,ak rfl,ak rfl,trivial⟩ rfl (Js _ _ _ _)) rfl (WL.iH sizeOf318 (ak rfl) (ak rfl) ?_);refine aj "3" ?_;exact aG.ret (H':=F) (bI.one rfl (R1.cO (l:=bH 18446744073709551616 4 fP) rfl ⟨isAgg318,sizeOf318⟩)) gy ⟨rfl,rfl⟩
end
theorem vT{a b k:Nat}(h:b<2^k):a*2^k ||| b=a*2^k+b:=by
 rw[←shiftLeft_eq,shiftLeft_add_eq_or_of_lt h]
theorem Hg{B i k n:Nat}(hB:0<B)(h:i≤k):bH B k (n%B^i)=bH B i n++replicate (k-i) 0:=by
 obtain⟨j,rfl⟩:=Nat.le.dest h;rw[zB,oF,div_eq_of_lt (mod_lt _ (Nat.pow_pos hB)),rH,Nat.add_sub_cancel_left]
theorem VE{B i k n:Nat}(hB:0<B)(h:i<k):(bH B k (n%B^i)).set i (n/B^i%B)=bH B k (n%B^(i+1)):=by grind [Hg,aaS]
theorem aaj{B i k n:Nat}(hB:0<B)(h:i<k):(bH B k (n%B^i)).set i 0=bH B k (n%B^i):=by
 have h1:bH B k (n%B^i)=bH B i n++replicate (k-i) 0:=Hg hB ay;obtain⟨j,hj⟩:∃j,k-i=j+1:=⟨k-i-1,by omega⟩;rw[h1,set_append,aH,if_neg ay,Nat.sub_self,hj,replicate_succ,set_cons_zero]
theorem AA{l:List Nat}{i x:Nat}(h:i<l.length):(l.set i x).getD i 0=x:=by simp[getD,h]
theorem getD_set_ne{l:List Nat}{i j x:Nat}(h:i≠j):(l.set i x).getD j 0=l.getD j 0:=by simp[getD,getElem?_set,h]
theorem mY{B k i:Nat}(n:Nat)(h:i<k):n%B^k/B^i%B=n/B^i%B:=by
 have h1:=bW B k (n%B^k) i h;rw[oF,bW B k n i h] at h1;exact h1.symm
theorem pz{B:Nat}(l:List Nat)(i d:Nat)(h:i<l.length):vl B ((l.set i d).take (i+1))=vl B (l.take i)+B^i*d:=by simp_all [Df,take_set_of_le,Nat.le_refl,getD]
theorem mod_succ(x B k:Nat):x%B^(k+1)=x%B^k+B^k*(x/B^k%B):=mod_pow_succ
theorem Xw{n i k:Nat}(hk:k<8):n/18446744073709551616^i%18446744073709551616/256^(8-k)*2^8%18446744073709551616 ||| n/256^(8*i+(7-k))%256=n/18446744073709551616^i%18446744073709551616/256^(8-(k+1)):=by
 obtain⟨q,hq⟩:∃q,q=n/18446744073709551616^i%18446744073709551616:=⟨_,rfl⟩;have h1:n/256^(8*i+(7-k))%256=q/256^(7-k)%256:=by
  rw[hq,show (18446744073709551616:Nat)=256^8 by decide,mY _ ay,←Nat.pow_mul,Nat.div_div_eq_div_mul,←Nat.pow_add]
 have h2:q<18446744073709551616:=by rw[hq];exact mod_lt _ aK
 have h3:q/256^(8-k)=q/256^(7-k)/256:=by rw[Nat.div_div_eq_div_mul,show 8-k=(7-k)+1 by omega,Nat.pow_succ]
 rw[←hq,h1,h3,show 8-(k+1)=7-k by omega];have h4:q/256^(7-k)≤q:=div_le_self _ _
 generalize q/256^(7-k)=z at *
 rw[mod_eq_of_lt ay,vT ay];omega
theorem EZ{P W o xx yy b d xi yi b':Nat}(h:o+yy=xx+b*P)(hd:d+yi+b=xi+b'*W):o+P*d+(yy+P*yi)=xx+P*xi+b'*(P*W):=by grind
theorem U5{P W o xx yy b d xi yi b':Nat}(h:o+b*P=xx+yy)(hd:d+b'*W=xi+yi+b):o+P*d+b'*(P*W)=xx+P*xi+(yy+P*yi):=by grind
theorem Da{l:List Nat}(h:aB 18446744073709551616 l)(hl:l.length=4):vl 18446744073709551616 l<115792089237316195423570985008687907853269984665640564039457584007913129639936:=by
 have :=nT h;rw[hl] at this;exact this
def ahs(z u:Nat):Nat:=(z%18446744073709551616+u*38%18446744073709551616+0)/18446744073709551616
def ahx(z u:Nat):Nat:=(z/18446744073709551616%18446744073709551616+u*38/18446744073709551616+ahs z u)/18446744073709551616
def ag2(z u:Nat):Nat:=(z/18446744073709551616/18446744073709551616%18446744073709551616+0+ahx z u)/18446744073709551616
def aan(z u:Nat):Nat:=(z/18446744073709551616/18446744073709551616/18446744073709551616%18446744073709551616+0+ag2 z u)/18446744073709551616
def fdL(z u:Nat):List Nat:=[(z%18446744073709551616+u*38%18446744073709551616+0)%18446744073709551616,(z/18446744073709551616%18446744073709551616+u*38/18446744073709551616+ahs z u)%18446744073709551616,(z/18446744073709551616/18446744073709551616%18446744073709551616+0+ahx z u)%18446744073709551616,(z/18446744073709551616/18446744073709551616/18446744073709551616%18446744073709551616+0+ag2 z u)%18446744073709551616]
theorem agU{z u:Nat}(hz:z<115792089237316195423570985008687907853269984665640564039457584007913129639936)(hu:u<18446744073709551616):vl 18446744073709551616 (fdL z u)+aan z u*115792089237316195423570985008687907853269984665640564039457584007913129639936=z+u*38:=by
 unfold fdL aan ag2 ahx ahs;simp only[vl];omega
theorem MC(z u:Nat):aB 18446744073709551616 (fdL z u):=fun y hy=>by
 simp only[fdL,mem_cons,not_mem_nil,or_false] at hy;rcases hy with rfl | rfl | rfl | rfl<;>exact mod_lt _ aK
theorem Rl(z u:Nat):(z+u*115792089237316195423570985008687907853269984665640564039457584007913129639936)%fP=(z+u*38)%fP:=by grind [fP,add_mul_mod_self_left]
section
variable{K:World}{F:List aA}
theorem q9(n:Nat):aL prog 245 #[p9 n] K F (w4 n):=by
 refine aC.en func245 ntmps245 ?_;refine aj "a9" fun b1=> ?_;refine WL.jP .u64 4 zeroValue318 rfl rfl (fun b2=> ?_);refine aj "T" ?_;refine WL.jP .u64 4 zeroValue318 rfl rfl (fun b3=> ?_);refine aj "brbu" ?_;refine WC.loop (σ:=Nat) (fun i=>[(1,ptr b1 0),(2,ptr b2 0),(3,ptr b3 0),(6,.i ((i:Nat):Int))]) (fun i=>ah b3 318 (av .u64 (bH 18446744073709551616 4 (n%18446744073709551616^i)))::ah b2 318 (av .u64 (replicate 4 0))::ah b1 97 (av .u8 (bH 256 32 n))::F) (fun i=>i≤4) (fun i=>4-i) 0 (zero_le _) bM (fun w h=>Sat.aS h (by rw[Nat.pow_zero,mod_one,rH])) ?_;rintro i hi;refine WC.sr (WL.val (V.zP (j:=4) (ak rfl) (ak rfl)) rfl ?_);refine aj "BE" (aX (fun aN=> ?_) fun aN=> ?_)
 ·simp only[dh] at aN;refine aj "1xgu" ?_;refine WC.loop (σ:=Nat) (fun k=>[(1,ptr b1 0),(2,ptr b2 0),(3,ptr b3 0),(6,.i ((i:Nat):Int)),(4,.i ((i:Nat):Int)),(5,.i (7-(k:Int)))]) (fun k=>ah b3 318 (av .u64 ((bH 18446744073709551616 4 (n%18446744073709551616^i)).set i (n/18446744073709551616^i%18446744073709551616/256^(8-k))))::ah b2 318 (av .u64 (replicate 4 0))::ah b1 97 (av .u8 (bH 256 32 n))::F) (fun k=>k≤8) (fun k=>8-k) 0 (zero_le _) bM (fun w h=>Sat.aS h (by rw[show n/18446744073709551616^i%18446744073709551616/256^(8-0)=0 from div_eq_of_lt (mod_lt _ aK),aaj aK aN])) ?_;rintro k hk;refine aj "r~ik" (aX (fun aR=> ?_) fun aR=> ?_)
  ·simp only[dh] at aR;rw[show (7:Int)-(k:Int)=((7-k:Nat):Int) by omega];refine aj "H" ?_;refine WC.GN (by kernel_rfl) ?_;refine aj "l0l1" ?_;refine WA.t 2 rfl (V.fT nV (ak rfl) (ak rfl)) ?_;refine aj "l5" ?_;refine WA.t 6 rfl (V.Pb (i:=8) (ak rfl) (ak rfl)) ?_;refine aj "l7" ?_;refine WA.t 8 rfl (V.wU (ak rfl) (ak rfl)) ?_;refine WA.t 9 rfl (V.fT zT (ak rfl) (ak rfl)) ?_;refine WA.t 10 rfl (V.dY isAgg5 (ak rfl)) ?_;refine WA.t 11 rfl (V.rG runUnderlying5 runUnderlying306 (ak rfl)) ?_;refine WA.o 3 rfl ?_;refine WL.val (V.dY isAgg306 (ak rfl)) rfl (WL.nil (WA.t 4 rfl (V.Jk (j:=8) (M:=18446744073709551616) (ak rfl) (ak rfl)) ?_));refine WA.t 12 rfl (V.ZG 64 (ak rfl) (ak rfl)) ?_;refine WA.t 13 rfl (V.fT nV (ak rfl) (ak rfl)) ?_;refine WA.o 14 rfl ?_;refine WL.fU sizeOf306 (ak rfl) (ak rfl) ?_;refine aj "bMh~B4" ?_;refine⟨k+1,(by show k+1≤8;omega),(by show 8-(k+1)<8-k;omega),.cons rfl (.cons rfl (.cons rfl (.cons rfl (.cons rfl (.cons (look_eq rfl (by simp;omega)) (.nil _)))))),fun w h=>Sat.aS h ?_⟩;rw[set_set,AA (by rw[aH];exact aN),bW _ _ _ _ ay,Xw ay]
  ·simp only[dh] at aR;refine WC.exit ?_;obtain rfl:k=8:=by omega
   refine WC.region (WL.val (V.wU (j:=1) (ak rfl) (ak rfl)) rfl (aj ";" ?_));refine⟨i+1,(by show i+1≤4;omega),(by show 4-(i+1)<4-i;omega),.cons rfl bM,fun w h=>Sat.aS h ?_⟩;rw[Nat.sub_self,Nat.pow_zero,Nat.div_one,VE aK aN]
 ·simp only[dh] at aN;refine aj "W" ?_;obtain rfl:i=4:=by omega
  rw[oF];refine WC.region (WL.val (V.ji ⟨isAgg318,sizeOf318⟩ (ak rfl)) rfl (WL.iH sizeOf318 (ak rfl) (ak rfl) ?_));refine aj "3" ?_;exact aG.ret (H':=F) (bI.one rfl (R1.cO rfl ⟨isAgg318,sizeOf318⟩)) gy ⟨rfl,rfl⟩
theorem mG(n:Nat):aL prog 254 #[w4 n] K F (p9 n):=by
 refine aC.en func254 ntmps254 ?_;refine aj "a9" fun b1=> ?_;refine WL.jP .u8 32 zeroValue97 rfl rfl (fun b2=> ?_);refine aj "T" ?_;refine WL.jP .u8 32 zeroValue97 rfl rfl (fun b3=> ?_);refine aj "Ba" ?_;refine WL.val (V.ji ⟨isAgg318,sizeOf318⟩ (ak rfl)) rfl (aj "P" ?_);refine WC.loop (σ:=Nat) (fun i=>[(2,ptr b2 0),(3,ptr b3 0),(7,w4 n),(8,.i ((i:Nat):Int))]) (fun i=>ah b3 97 (av .u8 (bH 256 32 (n%256^(8*i))))::ah b2 97 (av .u8 (replicate 32 0))::F) (fun i=>i≤4) (fun i=>4-i) 0 (zero_le _) bM (fun w h=>Sat.aS (h.aY 3 [0,1] rfl) (by rw[Nat.mul_zero,Nat.pow_zero,mod_one,rH])) ?_;rintro i hi;refine WC.sr (WL.val (V.zP (j:=4) (ak rfl) (ak rfl)) rfl ?_);refine aj "BE" (aX (fun aN=> ?_) fun aN=> ?_)
 ·simp only[dh] at aN;refine aj "1" ?_;refine WL.val (V.abE nV isAgg306 (ak rfl) (ak rfl)) rfl (aj "mjbu" ?_);refine WC.loop (σ:=Nat) (fun k=>[(2,ptr b2 0),(3,ptr b3 0),(7,w4 n),(8,.i ((i:Nat):Int)),(4,.i ((i:Nat):Int)),(5,.int .u64 ((n/18446744073709551616^i%18446744073709551616:Nat):Int)),(12,.i ((k:Nat):Int))]) (fun k=>ah b3 97 (av .u8 (bH 256 32 (n%256^(8*i+k))))::ah b2 97 (av .u8 (replicate 32 0))::F) (fun k=>k≤8) (fun k=>8-k) 0 (zero_le _) (.cons rfl (.cons rfl (.cons rfl (.cons rfl (.cons rfl (.cons (look_eq rfl (by rw[bW _ _ _ _ aN])) bM)))))) cu ?_;rintro k hk;refine WC.sr (WL.val (V.zP (j:=8) (ak rfl) (ak rfl)) rfl ?_);refine aj "BE" (aX (fun aR=> ?_) fun aR=> ?_)
  ·simp only[dh] at aR;refine aj "1gh" ?_;refine WL.val (V.Pb (i:=8) (ak rfl) (ak rfl)) rfl (WL.mv rfl rfl (WL.val (V.wU (ak rfl) (ak rfl)) rfl (aj "z" ?_)));refine WL.val (V.Pb (i:=8) (ak rfl) (ak rfl)) rfl (WL.val (V.wO (ak rfl) (ak rfl)) rfl (WL.val (V.I7 (M:=256) runUnderlying306 runUnderlying5 (ak rfl)) rfl (WL.val (V.fT zT (ak rfl) (ak rfl)) rfl (WL.fU sizeOf5 (ak rfl) (ak rfl) ?_))));refine aj "bq" ?_;refine WL.val (V.wU (j:=1) (ak rfl) (ak rfl)) rfl (aj ";" ?_);refine⟨k+1,(by show k+1≤8;omega),(by show 8-(k+1)<8-k;omega),.cons rfl bM,fun w h=>Sat.aS h ?_⟩;rw[show n/18446744073709551616^i%18446744073709551616/2^(8*k)%256=n/256^(8*i+k)%256 by
    rw[show (18446744073709551616:Nat)=256^8 by decide,show 2^(8*k)=256^k by rw[Nat.pow_mul],mY _ aR,←Nat.pow_mul,Nat.div_div_eq_div_mul,←Nat.pow_add],VE aK ay,Nat.add_assoc]
  ·simp only[dh] at aR;refine WC.exit ?_;obtain rfl:k=8:=by omega
   refine WC.region (WL.val (V.wU (j:=1) (ak rfl) (ak rfl)) rfl (aj ";" ?_));exact⟨i+1,(by show i+1≤4;omega),(by show 4-(i+1)<4-i;omega),.cons rfl bM,fun w h=>h⟩
 ·simp only[dh] at aN;refine aj "W" ?_;obtain rfl:i=4:=by omega
  rw[show 256^(8*4)=256^32 from rfl,oF];refine WC.region (WL.val (V.ji ⟨isAgg97,sizeOf97⟩ (ak rfl)) rfl (WL.iH sizeOf97 (ak rfl) (ak rfl) ?_));refine aj "3" ?_;exact aG.ret (H':=F) (bI.one rfl (R1.cO rfl ⟨isAgg97,sizeOf97⟩)) gy ⟨rfl,rfl⟩
theorem kK{x y:Nat}(hx:x<115792089237316195423570985008687907853269984665640564039457584007913129639936)(hy:y<115792089237316195423570985008687907853269984665640564039457584007913129639936) :
 aL prog 246 #[w4 x,w4 y] K F (.tuple #[w4 ((x+115792089237316195423570985008687907853269984665640564039457584007913129639936-y)%115792089237316195423570985008687907853269984665640564039457584007913129639936),.bool (decide (y≤x))]):=by
 refine aC.en func246 ntmps246 ?_;refine aj "a9" fun b2=> ?_;refine aj "9" fun b3=> ?_;refine WL.jP .u64 4 zeroValue318 rfl rfl (fun b4=> ?_);refine aj "x" ?_;refine WL.jP .u64 4 zeroValue318 rfl rfl (fun b6=> ?_);refine aj "Tfbu" ?_;refine WC.loop (σ:=Nat×List Nat×Nat) (fun s=>[(4,ptr b4 0),(2,ptr b2 0),(3,ptr b3 0),(6,ptr b6 0),(7,.int .u64 ((s.2.2:Nat):Int)),(9,.i ((s.1:Nat):Int))]) (fun s=>ah b6 318 (av .u64 s.2.1)::ah b4 318 (av .u64 (replicate 4 0))::ah b3 318 (av .u64 (bH 18446744073709551616 4 y))::ah b2 318 (av .u64 (bH 18446744073709551616 4 x))::F)
  (fun s=>s.1≤4∧s.2.1.length=4∧aB 18446744073709551616 s.2.1∧s.2.2≤1∧vl 18446744073709551616 (s.2.1.take s.1)+y%18446744073709551616^s.1=x%18446744073709551616^s.1+s.2.2*18446744073709551616^s.1) (fun s=>4-s.1) (0,replicate 4 0,0) ⟨zero_le _,rfl,aB.vg aK,by decide,by simp[vl,mod_one]⟩ bM cu ?_
 rintro⟨i,out,b⟩ ⟨hi,hl,hs,hb,hv⟩;dsimp only at hi hl hs hb hv ⊢;refine WC.sr (WL.val (V.zP (j:=4) (ak rfl) (ak rfl)) rfl ?_);refine aj "BE" (aX (fun aN=> ?_) fun aN=> ?_)
 ·simp only[dh] at aN;refine aj "1g" ?_;refine WC.GN (by kernel_rfl) ?_;refine aj "l0l1" ?_;refine WA.t 2 rfl (V.fT nV (ak rfl) (ak rfl)) ?_;refine WA.t 3 rfl (V.dY isAgg306 (ak rfl)) ?_;refine aj "l4" ?_;refine WA.t 5 rfl (V.fT nV (ak rfl) (ak rfl)) ?_;refine WA.t 6 rfl (V.dY isAgg306 (ak rfl)) ?_;refine aj "l7" ?_;refine WA.t 8 rfl (V.ext (fun hc=>Ay _ _ _ ay) ⟨ak rfl,ak rfl,ak rfl,trivial⟩) ?_;refine aj "l9~u:~u;" ?_;refine WA.t 12 rfl (V.fT nV (ak rfl) (ak rfl)) ?_;refine WA.o 13 rfl ?_;refine WL.fU sizeOf306 (ak rfl) (ak rfl) ?_;refine aj "b~w>Mq" ?_;refine WL.val (V.wU (j:=1) (ak rfl) (ak rfl)) rfl (aj ";" ?_);rw[bW _ _ _ _ aN,bW _ _ _ _ aN];have hxi:x/18446744073709551616^i%18446744073709551616<18446744073709551616:=mod_lt _ aK;have hyi:y/18446744073709551616^i%18446744073709551616<18446744073709551616:=mod_lt _ aK;refine⟨(i+1,_,if x/18446744073709551616^i%18446744073709551616<y/18446744073709551616^i%18446744073709551616+b then 1 else 0),⟨by show i+1≤4;omega,by show (out.set i _).length=4;rw[length_set];exact hl,hs.set (mod_lt _ aK),(by dsimp only;split<;>omega), ?_⟩,(by show 4-(i+1)<4-i;omega),.cons rfl bM,fun w h=>h⟩;dsimp only;rw[pz _ _ _ ay,mod_succ y,mod_succ x,Nat.pow_succ];exact EZ hv (by split<;>omega)
 ·simp only[dh] at aN;refine aj "W" ?_;obtain rfl:i=4:=by omega
  rw[take_of_length_le ay,mod_eq_of_lt hx,mod_eq_of_lt hy] at hv;have hvl:=Da hs hl;refine WC.region (WL.val (V.ji ⟨isAgg318,sizeOf318⟩ (ak rfl)) rfl (WL.mv rfl rfl (WL.val (V.I5 (j:=0) (ak rfl) (ak rfl)) rfl (WL.iH sizeOf318 (ak rfl) (ak rfl) ?_))));refine aj "d" ?_;have e1:(x+115792089237316195423570985008687907853269984665640564039457584007913129639936-y)%115792089237316195423570985008687907853269984665640564039457584007913129639936=vl 18446744073709551616 out:=by
   have :b=0∨b=1:=ay;rcases this with rfl | rfl<;>omega
  refine aG.ret (H':=F) (bI.two rfl (R1.cO (l:=out) rfl ⟨isAgg318,sizeOf318⟩) (R1.tmp rfl)) gy ⟨?_,rfl⟩;rw[e1,w4,nJ hs hl,show decide (y≤x)=decide (b=0) from decide_eq_decide.2 (by rcases (show b=0∨b=1 by omega) with rfl | rfl<;>omega)]
theorem qo{x:Nat}(hx:x<115792089237316195423570985008687907853269984665640564039457584007913129639936):aL prog 296 #[w4 x] K F (w4 (x%fP)):=by
 refine aC.en func296 ntmps296 ?_;refine aj "a9" fun b1=> ?_;refine WL.jP .u64 4 zeroValue318 rfl rfl (fun b2=> ?_);refine aj "bu" ?_;refine WC.loop (σ:=Nat×List aA) (fun s=>[(1,ptr b1 0),(2,ptr b2 0)]) (fun s=>ah b2 318 (av .u64 (replicate 4 0))::ah b1 318 (av .u64 (bH 18446744073709551616 4 s.1))::F) (fun s=>s.1<115792089237316195423570985008687907853269984665640564039457584007913129639936∧s.1%fP=x%fP) (fun s=>s.1) (x,[]) ⟨hx,rfl⟩ bM cu ?_;rintro⟨z,_⟩ ⟨hz,hzx⟩;dsimp only at hz hzx ⊢;refine aj "uN~T" ?_;refine WA.t 0 rfl (V.ji ⟨isAgg318,sizeOf318⟩ (ak rfl)) ?_;refine WA.two (i:=1) (j:=6) cu (by kernel_rfl) rfl rfl ?_ ?_
 ·refine WL.call (vs:=[]) call247 trivial (mJ) rfl ?_;rintro _ H0 ⟨rfl,h0⟩;subst H0;refine WL.nil ?_;refine WA.two (i:=2) (j:=6) gy (by kernel_rfl) rfl rfl ?_ ?_
  ·refine WL.t2 call246 rfl rfl (kK (x:=z) (y:=fP) hz aK) rfl ?_;refine aj "bl3~u4~u5n6" ?_;refine WL.jP .u64 4 zeroValue318 rfl rfl (fun b3=> ?_);refine aj "bn7" ?_;refine WL.iH sizeOf318 (ak rfl) (ak rfl) ?_;refine aj "b~w8Mr*k" (aX (fun aN=> ?_) fun aN=> ?_)
   ·simp only[oD] at aN;have h0:=aN;refine WC.sr (WL.val (V.ji ⟨isAgg318,sizeOf318⟩ (ak rfl)) rfl (WL.iH sizeOf318 (ak rfl) (ak rfl) ?_));refine aj "3" ?_;refine aG.ret (H':=F) (bI.one rfl (R1.cO rfl ⟨isAgg318,sizeOf318⟩)) gy ⟨?_,rfl⟩;rw[←hzx,mod_eq_of_lt ay]
   ·simp only[oD] at aN;have h0:=aN;refine aj "iq" ?_;refine WL.val (V.ji ⟨isAgg318,sizeOf318⟩ (ak rfl)) rfl (WL.iH sizeOf318 (ak rfl) (ak rfl) ?_);refine aj "b~O" ?_;refine⟨(z-fP,[]),⟨by show z-fP<_;omega,by show (z-fP)%fP=_;rw[←hzx,mod_eq_sub_mod h0]⟩, ?_,.cons rfl bM,fun w h=> ?_⟩
    ·show z-fP<z;unfold fP at *
     omega
    ·have h1:=h.tail;rw[show (z+115792089237316195423570985008687907853269984665640564039457584007913129639936-fP)%115792089237316195423570985008687907853269984665640564039457584007913129639936=z-fP by unfold fP at *;omega] at h1;exact h1
  ·refine WL.jP .u64 4 zeroValue318 rfl rfl (fun b3=> ?_);refine aj "bn2" ?_;refine WL.t2 call246 rfl rfl (kK (x:=z) (y:=fP) hz aK) rfl ?_;refine aj "bl3~u4~u5n7" ?_;refine WL.iH sizeOf318 (ak rfl) (ak rfl) ?_;refine aj "b~w8Mr*k" (aX (fun adl=> ?_) fun adl=> ?_)
   ·simp only[oD] at adl;have h0:=adl;refine WC.sr (WL.val (V.ji ⟨isAgg318,sizeOf318⟩ (ak rfl)) rfl (WL.iH sizeOf318 (ak rfl) (ak rfl) ?_));refine aj "3" ?_;refine aG.ret (H':=F) (bI.one rfl (R1.cO rfl ⟨isAgg318,sizeOf318⟩)) gy ⟨?_,rfl⟩;rw[←hzx,mod_eq_of_lt ay]
   ·simp only[oD] at adl;have h0:=adl;refine aj "iq" ?_;refine WL.val (V.ji ⟨isAgg318,sizeOf318⟩ (ak rfl)) rfl (WL.iH sizeOf318 (ak rfl) (ak rfl) ?_);refine aj "b~O" ?_;refine⟨(z-fP,[]),⟨by show z-fP<_;omega,by show (z-fP)%fP=_;rw[←hzx,mod_eq_sub_mod h0]⟩, ?_,.cons rfl bM,fun w h=> ?_⟩
    ·show z-fP<z;unfold fP at *
     omega
    ·have h1:=h.tail;rw[show (z+115792089237316195423570985008687907853269984665640564039457584007913129639936-fP)%115792089237316195423570985008687907853269984665640564039457584007913129639936=z-fP by unfold fP at *;omega] at h1;exact h1
 ·refine WL.jP .u64 4 zeroValue318 rfl rfl (fun b3=> ?_);refine aj "bn1" ?_;refine WL.call (vs:=[]) call247 trivial (mJ) rfl ?_;rintro _ H0 ⟨rfl,h0⟩;subst H0;refine aj "bn2" ?_;refine WL.t2 call246 rfl rfl (kK (x:=z) (y:=fP) hz aK) rfl ?_;refine aj "bl3~u4~u5n7" ?_;refine WL.iH sizeOf318 (ak rfl) (ak rfl) ?_;refine aj "b~w8Mr*k" (aX (fun PW=> ?_) fun PW=> ?_)
  ·simp only[oD] at PW;have h0:=PW;refine WC.sr (WL.val (V.ji ⟨isAgg318,sizeOf318⟩ (ak rfl)) rfl (WL.iH sizeOf318 (ak rfl) (ak rfl) ?_));refine aj "3" ?_;refine aG.ret (H':=F) (bI.one rfl (R1.cO rfl ⟨isAgg318,sizeOf318⟩)) gy ⟨?_,rfl⟩;rw[←hzx,mod_eq_of_lt ay]
  ·simp only[oD] at PW;have h0:=PW;refine aj "iq" ?_;refine WL.val (V.ji ⟨isAgg318,sizeOf318⟩ (ak rfl)) rfl (WL.iH sizeOf318 (ak rfl) (ak rfl) ?_);refine aj "b~O" ?_;refine⟨(z-fP,[]),⟨by show z-fP<_;omega,by show (z-fP)%fP=_;rw[←hzx,mod_eq_sub_mod h0]⟩, ?_,.cons rfl bM,fun w h=> ?_⟩
   ·show z-fP<z;unfold fP at *
    omega
   ·have h1:=h.tail;rw[show (z+115792089237316195423570985008687907853269984665640564039457584007913129639936-fP)%115792089237316195423570985008687907853269984665640564039457584007913129639936=z-fP by unfold fP at *;omega] at h1;exact h1
theorem Jv{x top:Nat}(hx:x<115792089237316195423570985008687907853269984665640564039457584007913129639936)(ht:top<18446744073709551616):aL prog 295 #[w4 x,.int .u64 (top:Int)] K F (w4 ((x+top*115792089237316195423570985008687907853269984665640564039457584007913129639936)%fP)):=by
 refine aC.en func295 ntmps295 ?_;refine aj "a9" fun b2=> ?_;refine WL.jP .u64 4 zeroValue318 rfl rfl (fun b4=> ?_);refine aj "Bu" ?_;refine WC.loop (σ:=Nat×Nat×Nat) (fun s=>[(2,ptr b2 0),(4,ptr b4 0),(1,.int .u64 ((s.2.1:Nat):Int))]) (fun s=>ah b4 318 (av .u64 (replicate 4 0))::ah b2 318 (av .u64 (bH 18446744073709551616 4 s.1))::F) (fun s=>s.1<115792089237316195423570985008687907853269984665640564039457584007913129639936∧s.2.1<18446744073709551616∧(s.1+s.2.1*115792089237316195423570985008687907853269984665640564039457584007913129639936)%fP=(x+top*115792089237316195423570985008687907853269984665640564039457584007913129639936)%fP) (fun s=>2*s.2.1+(if s.2.1=1∧115792089237316195423570985008687907853269984665640564039457584007913129639936≤s.1+38 then 1 else 0)) (x,top,0) ⟨hx,ht,rfl⟩ bM cu ?_;rintro⟨z,u,_⟩ ⟨hz,hu,hzu⟩;dsimp only at hz hu hzu ⊢;rw[show av .u64 (bH 18446744073709551616 4 z)=av .u64 [z%18446744073709551616,z/18446744073709551616%18446744073709551616,z/18446744073709551616/18446744073709551616%18446744073709551616,z/18446744073709551616/18446744073709551616/18446744073709551616%18446744073709551616] from rfl];refine aj "r" ?_;refine WL.val (V.abg (j:=0) (ak rfl) (ak rfl)) rfl ?_;refine aj "k" (aX (fun aN=> ?_) fun aN=> ?_)
 ·simp only[dh] at aN;have h0:=aN;refine aj "iue" ?_;refine WL.t2 call293 rfl rfl (kN (y:=38) hu aK) rfl ?_;refine aj "Cxx" ?_;refine WL.val (V.fT (j:=0) nV (ak rfl) (ak rfl)) rfl (WL.val (V.dY isAgg306 (ak rfl)) rfl (WL.mv rfl rfl ?_));refine WL.val (V.ext (fun hc=>jL _ _ 0 ay) ⟨ak rfl,ak rfl,ak rfl,trivial⟩) rfl ?_;refine aj "!" ?_;refine WL.val (V.fT (j:=0) nV (ak rfl) (ak rfl)) rfl (WL.fU sizeOf306 (ak rfl) (ak rfl) ?_);refine aj "x" ?_;refine WL.val (V.fT (j:=1) nV (ak rfl) (ak rfl)) rfl (WL.val (V.dY isAgg306 (ak rfl)) rfl (aj "z" ?_));refine WL.val (V.ext (fun hc=>jL _ _ _ ay) ⟨ak rfl,ak rfl,ak rfl,trivial⟩) rfl ?_;refine aj "!" ?_;refine WL.val (V.fT (j:=1) nV (ak rfl) (ak rfl)) rfl (WL.fU sizeOf306 (ak rfl) (ak rfl) ?_);refine aj "x" ?_;refine WL.val (V.fT (j:=2) nV (ak rfl) (ak rfl)) rfl (WL.val (V.dY isAgg306 (ak rfl)) rfl (WL.mv rfl rfl ?_));refine WL.val (V.ext (fun hc=>jL _ 0 _ ay) ⟨ak rfl,ak rfl,ak rfl,trivial⟩) rfl ?_;refine aj "!" ?_;refine WL.val (V.fT (j:=2) nV (ak rfl) (ak rfl)) rfl (WL.fU sizeOf306 (ak rfl) (ak rfl) ?_);refine aj "x" ?_;refine WL.val (V.fT (j:=3) nV (ak rfl) (ak rfl)) rfl (WL.val (V.dY isAgg306 (ak rfl)) rfl (WL.mv rfl rfl ?_));refine WL.val (V.ext (fun hc=>jL _ 0 _ ay) ⟨ak rfl,ak rfl,ak rfl,trivial⟩) rfl ?_;refine aj "!" ?_;refine WL.val (V.fT (j:=3) nV (ak rfl) (ak rfl)) rfl (WL.fU sizeOf306 (ak rfl) (ak rfl) ?_);refine aj "gh4" ?_;have hs:=agU hz hu;have hv:=Da (MC z u) rfl;refine⟨(vl 18446744073709551616 (fdL z u),aan z u,0),⟨hv,(by show aan z u<_;omega), ?_⟩, ?_,.cons rfl bM,fun w h=> ?_⟩
  ·show (vl 18446744073709551616 (fdL z u)+aan z u*115792089237316195423570985008687907853269984665640564039457584007913129639936)%fP=_;rw[hs,←hzu,Rl]
  ·dsimp only;split<;>split<;>omega
  ·have e1:bH 18446744073709551616 4 (vl 18446744073709551616 (fdL z u))=fdL z u:=nJ (MC z u) rfl;show Sat K w (ah b4 _ _::ah b2 _ (av .u64 (bH 18446744073709551616 4 (vl 18446744073709551616 (fdL z u))))::F);rw[e1];exact h
 ·simp only[dh] at aN;have h0:=aN;refine aj "W" ?_;obtain rfl:u=0:=by omega
  rw[Nat.zero_mul,Nat.add_zero] at hzu;refine WC.region (WL.val (V.ji (l:=bH 18446744073709551616 4 z) ⟨isAgg318,sizeOf318⟩ (ak rfl)) rfl (WL.t1 call296 rfl (qo hz) rfl ?_));refine WL.iH sizeOf318 (ak rfl) (ak rfl) ?_;refine aj "3" ?_;exact aG.ret (H':=F) (bI.one rfl (R1.cO rfl ⟨isAgg318,sizeOf318⟩)) gy ⟨by rw[hzu],rfl⟩
theorem LP{x y:Nat}(hx:x<115792089237316195423570985008687907853269984665640564039457584007913129639936)(hy:y<115792089237316195423570985008687907853269984665640564039457584007913129639936):aL prog 297 #[w4 x,w4 y] K F (w4 ((x+y)%fP)):=by
 refine aC.en func297 ntmps297 ?_;refine aj "a9" fun b2=> ?_;refine aj "9" fun b3=> ?_;refine WL.jP .u64 4 zeroValue318 rfl rfl (fun b4=> ?_);refine aj "Tfbu" ?_;refine WC.loop (σ:=Nat×List Nat×Nat) (fun s=>[(4,ptr b4 0),(2,ptr b2 0),(3,ptr b3 0),(5,.int .u64 ((s.2.2:Nat):Int)),(7,.i ((s.1:Nat):Int))]) (fun s=>ah b2 318 (av .u64 s.2.1)::ah b4 318 (av .u64 (replicate 4 0))::ah b3 318 (av .u64 (bH 18446744073709551616 4 y))::F)
  (fun s=>s.1≤4∧s.2.1.length=4∧aB 18446744073709551616 s.2.1∧s.2.2≤1∧(∀j,s.1≤j→s.2.1.getD j 0=(bH 18446744073709551616 4 x).getD j 0)∧vl 18446744073709551616 (s.2.1.take s.1)+s.2.2*18446744073709551616^s.1=x%18446744073709551616^s.1+y%18446744073709551616^s.1) (fun s=>4-s.1) (0,bH 18446744073709551616 4 x,0) ⟨zero_le _,rfl,bJ aK _ _,zero_le _,fun _ _=>rfl,by simp[vl,mod_one]⟩ bM (fun w h=>h.aY 3 [2,0,1] rfl) ?_
 rintro⟨i,out,b⟩ ⟨hi,hl,hs,hb,he,hv⟩;dsimp only at hi hl hs hb he hv ⊢;refine WC.sr (WL.val (V.zP (j:=4) (ak rfl) (ak rfl)) rfl ?_);refine aj "BE" (aX (fun aN=> ?_) fun aN=> ?_)
 ·simp only[dh] at aN;refine aj "1g" ?_;refine WC.GN (by kernel_rfl) ?_;refine aj "l0l1" ?_;refine WA.t 2 rfl (V.fT nV (ak rfl) (ak rfl)) ?_;refine aj "l4" ?_;refine WA.t 5 rfl (V.fT nV (ak rfl) (ak rfl)) ?_;refine WA.t 6 rfl (V.dY isAgg306 (ak rfl)) ?_;refine aj "l7n3" ?_;refine WL.val (V.dY isAgg306 (ak rfl)) rfl (WL.nil ?_);refine WA.t 8 rfl (V.ext (fun hc=>jL _ _ _ ay) ⟨ak rfl,ak rfl,ak rfl,trivial⟩) ?_;refine aj "l9~u:~u;" ?_;refine WA.t 12 rfl (V.fT nV (ak rfl) (ak rfl)) ?_;refine WA.o 13 rfl ?_;refine WL.fU sizeOf306 (ak rfl) (ak rfl) ?_;refine aj "b~w>Mq" ?_;refine WL.val (V.wU (j:=1) (ak rfl) (ak rfl)) rfl (aj ";" ?_);rw[he i (Nat.le_refl _),bW _ _ _ _ aN,bW _ _ _ _ aN];have hxi:x/18446744073709551616^i%18446744073709551616<18446744073709551616:=mod_lt _ aK;have hyi:y/18446744073709551616^i%18446744073709551616<18446744073709551616:=mod_lt _ aK;refine⟨(i+1,_,(x/18446744073709551616^i%18446744073709551616+y/18446744073709551616^i%18446744073709551616+b)/18446744073709551616),⟨by show i+1≤4;omega,by show (out.set i _).length=4;rw[length_set];exact hl,hs.set (mod_lt _ aK),(by dsimp only;omega),fun j hj=> ?_, ?_⟩,(by show 4-(i+1)<4-i;omega),.cons rfl bM,fun w h=>h⟩
  ·dsimp only at hj ⊢;rw[getD_set_ne ay];exact he j ay
  ·dsimp only;rw[pz _ _ _ ay,mod_succ y,mod_succ x,Nat.pow_succ];exact U5 hv ay
 ·simp only[dh] at aN;refine aj "W" ?_;obtain rfl:i=4:=by omega
  rw[take_of_length_le ay,mod_eq_of_lt hx,mod_eq_of_lt hy] at hv;have hvl:=Da hs hl;have e1:av .u64 out=av .u64 (bH 18446744073709551616 4 (vl 18446744073709551616 out)):=by rw[nJ hs hl]
  rw[e1];refine WC.region (WL.val (V.ji ⟨isAgg318,sizeOf318⟩ (ak rfl)) rfl (WL.mv rfl rfl (WL.t2 call295 rfl rfl (Jv hvl ay) rfl ?_)));refine WL.iH sizeOf318 (ak rfl) (ak rfl) ?_;refine aj "3" ?_;exact aG.ret (H':=F) (bI.one rfl (R1.cO rfl ⟨isAgg318,sizeOf318⟩)) gy ⟨by rw[show 115792089237316195423570985008687907853269984665640564039457584007913129639936=18446744073709551616^4 from rfl,hv],rfl⟩
theorem Lg{x:Nat}(hx:x<fP):aL prog 253 #[w4 x] K F (w4 (aa7 x)):=by
 have hx4:x<115792089237316195423570985008687907853269984665640564039457584007913129639936:=Nat.lt_trans hx aK;have e1:(fP+115792089237316195423570985008687907853269984665640564039457584007913129639936-x)%115792089237316195423570985008687907853269984665640564039457584007913129639936=fP-x:=by unfold fP at *;omega
 refine aC.en func253 ntmps253 ?_;refine aj "a9" fun b1=> ?_;refine WL.jP .u64 4 zeroValue318 rfl rfl (fun b2=> ?_);refine aj "B~T" ?_;refine WA.t 1 rfl (V.ji ⟨isAgg318,sizeOf318⟩ (ak rfl)) ?_;refine WA.two (i:=0) (j:=6) cu (by kernel_rfl) rfl rfl ?_ ?_
 ·refine WL.call (vs:=[]) call247 trivial (mJ) rfl ?_;rintro _ H0 ⟨rfl,h0⟩;subst H0;refine WL.nil ?_;refine WA.two (i:=2) (j:=6) gy (by kernel_rfl) rfl rfl ?_ ?_
  ·refine WL.t2 call246 rfl rfl (kK (x:=fP) (y:=x) aK hx4) rfl ?_;refine aj "bl3~u4~u5n6" ?_;refine WL.jP .u64 4 zeroValue318 rfl rfl (fun b3=> ?_);refine aj "bn7" ?_;refine WL.iH sizeOf318 (ak rfl) (ak rfl) ?_;refine aj "b~w8MN" ?_;rw[e1];refine WC.region (WL.val (V.ji ⟨isAgg318,sizeOf318⟩ (ak rfl)) rfl ?_);refine WL.t1 call296 rfl (qo (x:=fP-x) (by unfold fP;omega)) rfl ?_;refine WL.iH sizeOf318 (ak rfl) (ak rfl) ?_;refine aj "3" ?_;exact aG.ret (H':=F) (bI.one rfl (R1.cO rfl ⟨isAgg318,sizeOf318⟩)) gy ⟨rfl,rfl⟩
  ·refine WL.jP .u64 4 zeroValue318 rfl rfl (fun b3=> ?_);refine aj "bn2" ?_;refine WL.t2 call246 rfl rfl (kK (x:=fP) (y:=x) aK hx4) rfl ?_;refine aj "bl3~u4~u5n7" ?_;refine WL.iH sizeOf318 (ak rfl) (ak rfl) ?_;refine aj "b~w8MN" ?_;rw[e1];refine WC.region (WL.val (V.ji ⟨isAgg318,sizeOf318⟩ (ak rfl)) rfl ?_);refine WL.t1 call296 rfl (qo (x:=fP-x) (by unfold fP;omega)) rfl ?_;refine WL.iH sizeOf318 (ak rfl) (ak rfl) ?_;refine aj "3" ?_;exact aG.ret (H':=F) (bI.one rfl (R1.cO rfl ⟨isAgg318,sizeOf318⟩)) gy ⟨rfl,rfl⟩
 ·refine WL.jP .u64 4 zeroValue318 rfl rfl (fun b3=> ?_);refine aj "bn0" ?_;refine WL.call (vs:=[]) call247 trivial (mJ) rfl ?_;rintro _ H0 ⟨rfl,h0⟩;subst H0;refine aj "bn2" ?_;refine WL.t2 call246 rfl rfl (kK (x:=fP) (y:=x) aK hx4) rfl ?_;refine aj "bl3~u4~u5n7" ?_;refine WL.iH sizeOf318 (ak rfl) (ak rfl) ?_;refine aj "b~w8MN" ?_;rw[e1];refine WC.region (WL.val (V.ji ⟨isAgg318,sizeOf318⟩ (ak rfl)) rfl ?_);refine WL.t1 call296 rfl (qo (x:=fP-x) (by unfold fP;omega)) rfl ?_;refine WL.iH sizeOf318 (ak rfl) (ak rfl) ?_;refine aj "3" ?_;exact aG.ret (H':=F) (bI.one rfl (R1.cO rfl ⟨isAgg318,sizeOf318⟩)) gy ⟨rfl,rfl⟩
end
def Yf(m n o c:Nat):Nat:=((m*n/18446744073709551616+(m*n%18446744073709551616+o+0)/18446744073709551616)%18446744073709551616+((m*n%18446744073709551616+o+0)%18446744073709551616+c+0)/18446744073709551616)%18446744073709551616
theorem Vd{m n o c:Nat}(hm:m<18446744073709551616)(hn:n<18446744073709551616)(ho:o<18446744073709551616)(hc:c<18446744073709551616):m*n+o+c=((m*n%18446744073709551616+o+0)%18446744073709551616+c+0)%18446744073709551616+Yf m n o c*18446744073709551616:=by
 have hb:m*n≤(18446744073709551616-1)*(18446744073709551616-1):=Nat.mul_le_mul ay ay;unfold Yf
 generalize m*n=p at *
 omega
theorem NQ(m n o c:Nat):Yf m n o c<18446744073709551616:=mod_lt _ aK
theorem Qj{V V' A B Q o c lo cy p w:Nat}(h1:V+c*Q=A+B)(h2:V'+o*Q=V+lo*Q)(h3:p+o+c=lo+cy*w):V'+cy*(Q*w)=A+(B+p*Q):=by grind
theorem Rk{x r k y i B:Nat}:x*(r%B^k+B^k*y)*B^i=x*(r%B^k)*B^i+x*y*B^(i+k):=by grind
theorem zK(k j:Nat):(replicate k 0).getD j 0=0:=by grind
theorem Yi{V A B Q o c lo cy m w:Nat}(h1:V+c*Q=A+38*B)(h3:m*38+c+o=lo+cy*w):V+Q*lo+cy*(Q*w)=A+Q*o+38*(B+Q*m):=by grind
section
variable{K:World}{F:List aA}
theorem qN{x y:Nat}(hx:x<115792089237316195423570985008687907853269984665640564039457584007913129639936)(hy:y<115792089237316195423570985008687907853269984665640564039457584007913129639936):aL prog 251 #[w4 x,w4 y] K F (w4 (eZ x y)):=by
 refine aC.en func251 ntmps251 ?_;refine aj "a9" fun b2=> ?_;refine aj "9" fun b3=> ?_;refine aP "w" fun b4=> ?_;refine aP "Tw" fun b5=> ?_;refine aP "BayP" ?_;refine WC.loop (σ:=Nat×List Nat) (fun s=>[(3,ptr b3 0),(4,ptr b4 0),(5,ptr b5 0),(20,w4 x),(21,.i ((s.1:Nat):Int))]) (fun s=>ah b5 309 (av .u64 s.2)::ah b4 318 (av .u64 (replicate 4 0))::ah b3 318 (av .u64 (bH 18446744073709551616 4 y))::F)
  (fun s=>s.1≤4∧s.2.length=8∧aB 18446744073709551616 s.2∧(∀j,s.1+4≤j→s.2.getD j 0=0)∧vl 18446744073709551616 s.2=x%18446744073709551616^s.1*y) (fun s=>4-s.1) (0,replicate 8 0) ⟨zero_le _,rfl,aB.vg aK,fun j _=>zK _ _,by rw[Jm];simp[mod_one]⟩ bM (fun w h=>h.aY 4 [0,1,2] rfl) ?_
 rintro⟨i,wide⟩ ⟨hi,hl,hs,hz,hv⟩;dsimp only at hi hl hs hz hv ⊢;refine aP "a~~HBE" (aX (fun aN=> ?_) fun aN=> ?_)
 ·simp only[dh] at aN;refine aP "1~~gmt" ?_;have hxi:(bH 18446744073709551616 4 x).getD i 0=x/18446744073709551616^i%18446744073709551616:=bW _ _ _ _ aN;rw[hxi];have zO:x/18446744073709551616^i%18446744073709551616<18446744073709551616:=mod_lt _ aK;refine aP "qtayP" ?_;refine WC.loop (σ:=Nat×List Nat×Nat) (fun s=>[(3,ptr b3 0),(4,ptr b4 0),(5,ptr b5 0),(20,w4 x),(21,.i ((i:Nat):Int)),(6,.i ((i:Nat):Int)),(7,.int .u64 ((x/18446744073709551616^i%18446744073709551616:Nat):Int)),(25,w4 y),(26,.i ((s.1:Nat):Int)),(8,.int .u64 ((s.2.2:Nat):Int))]) (fun s=>ah b5 309 (av .u64 s.2.1)::ah b4 318 (av .u64 (replicate 4 0))::ah b3 318 (av .u64 (bH 18446744073709551616 4 y))::F)
   (fun s=>s.1≤4∧s.2.1.length=8∧aB 18446744073709551616 s.2.1∧(∀j,i+4≤j→s.2.1.getD j 0=0)∧s.2.2<18446744073709551616∧vl 18446744073709551616 s.2.1+s.2.2*18446744073709551616^(i+s.1)=x%18446744073709551616^i*y+x/18446744073709551616^i%18446744073709551616*(y%18446744073709551616^s.1)*18446744073709551616^i) (fun s=>4-s.1) (0,wide,0) ⟨zero_le _,hl,hs,hz,(by show 0<_;decide),by dsimp only;rw[hv];simp[mod_one]⟩ bM cu ?_
  rintro⟨k,wd,cy⟩ ⟨hk,KY,yR,JX,Zz,SY⟩;dsimp only at hk KY yR JX Zz SY ⊢;refine aP "a~~HBE" (aX (fun aR=> ?_) fun aR=> ?_)
  ·simp only[dh] at aR;refine aP "1~~gmt" ?_;have hyk:(bH 18446744073709551616 4 y).getD k 0=y/18446744073709551616^k%18446744073709551616:=bW _ _ _ _ aR;rw[hyk];have hyl:y/18446744073709551616^k%18446744073709551616<18446744073709551616:=mod_lt _ aK;have J2:=yR.at_ aK (i+k);refine aj "Q" ?_;refine WL.t2 call293 rfl rfl (kN zO hyl) rfl ?_;refine aP "Cxjz~K~x~9~$C0~N0~$CgQ~Kzc~N~x~sgq<;" ?_;have hm:=Vd zO hyl J2 Zz;refine⟨(k+1,_,Yf (x/18446744073709551616^i%18446744073709551616) (y/18446744073709551616^k%18446744073709551616) (wd.getD (i+k) 0) cy),⟨by show k+1≤4;omega,by show (wd.set _ _).length=8;rw[length_set];exact KY,yR.set (mod_lt _ aK),fun j hj=> ?_,NQ _ _ _ _, ?_⟩,(by show 4-(k+1)<4-k;omega),.cons rfl bM,fun w h=>h⟩
   ·dsimp only;rw[getD_set_ne ay];exact JX j hj
   ·dsimp only;rw[mod_succ y,Rk,←Nat.add_assoc i k 1,Nat.pow_succ];exact Qj SY (Jh _ _ _ _ ay) hm
  ·simp only[dh] at aR;refine WC.exit ?_;obtain rfl:k=4:=by omega
   rw[mod_eq_of_lt hy] at SY;refine aj "h" ?_;refine WL.val (V.wU (j:=4) (ak rfl) (ak rfl)) rfl (aP "c~x~sbq<;" ?_);refine⟨(i+1,_),⟨by show i+1≤4;omega,by show (wd.set _ _).length=8;rw[length_set];exact KY,yR.set Zz,fun j hj=> ?_, ?_⟩,(by show 4-(i+1)<4-i;omega),.cons rfl bM,fun w h=>h⟩
   ·dsimp only at hj ⊢;rw[getD_set_ne ay];exact JX j ay
   ·dsimp only;have h1:=Jh 18446744073709551616 wd (i+4) cy ay;rw[JX (i+4) (Nat.le_refl _),Nat.zero_mul,Nat.add_zero] at h1;rw[h1,SY,mod_succ x,Nat.add_mul];congr 1;simp only[Nat.mul_assoc,Nat.mul_comm,Nat.mul_left_comm]
 ·simp only[dh] at aN;refine aj "W" ?_;obtain rfl:i=4:=by omega
  rw[mod_eq_of_lt hx] at hv;obtain⟨z,hzz⟩:∃z,z=x*y:=⟨_,rfl⟩;rw[←hzz] at hv;have hz8:z<18446744073709551616^8:=by have h1:=nT hs;rw[hv,hl] at h1;exact h1
  obtain rfl:wide=bH 18446744073709551616 8 z:=by rw[←hv,nJ hs hl]
  have Ke:eZ x y=(z%115792089237316195423570985008687907853269984665640564039457584007913129639936+z/115792089237316195423570985008687907853269984665640564039457584007913129639936*115792089237316195423570985008687907853269984665640564039457584007913129639936)%fP:=by rw[mod_add_div',eZ,←hzz]
  refine WC.region ?_;refine WL.val (V.qQ (l:=0) (h:=4) (u:=8) Dl (ak rfl) OO.none (OO.some (ak rfl) (fun _=>rfl)) OO.none (by simp) aK aK aK) rfl ?_;refine WL.val (V.akT runUnderlying318 (ak rfl) (fun _=>by decide)) rfl ?_;refine WL.val (V.gG (vs:=av .u64 (bH 18446744073709551616 4 z)) ⟨isAgg318,sizeOf318⟩ (ak rfl) rfl (fun _=>gD.here (by show _ <+: List.drop 0 _;rw[drop_zero];exact IsPrefix.map _ (by rw[show bH 18446744073709551616 4 z=(bH 18446744073709551616 8 z).take 4 from (Dz aK).symm];exact take_prefix _ _)))) rfl ?_;refine aP "w" fun b14=> ?_;refine aP "vTfbu" ?_;refine WC.loop (σ:=Nat×List Nat×Nat) (fun s=>[(4,ptr b4 0),(5,ptr b5 0),(14,ptr b14 0),(72,.i ((s.1:Nat):Int)),(15,.int .u64 ((s.2.2:Nat):Int))]) (fun s=>ah b14 318 (av .u64 s.2.1)::ah b5 309 (av .u64 (bH 18446744073709551616 8 z))::ah b4 318 (av .u64 (replicate 4 0))::F)
   (fun s=>s.1≤4∧s.2.1.length=4∧aB 18446744073709551616 s.2.1∧(∀j,s.1≤j→s.2.1.getD j 0=(bH 18446744073709551616 4 z).getD j 0)∧s.2.2<18446744073709551616∧vl 18446744073709551616 (s.2.1.take s.1)+s.2.2*18446744073709551616^s.1=z%18446744073709551616^s.1+38*(z/115792089237316195423570985008687907853269984665640564039457584007913129639936%18446744073709551616^s.1)) (fun s=>4-s.1) (0,bH 18446744073709551616 4 z,0) ⟨zero_le _,rfl,bJ aK _ _,fun _ _=>rfl,(by show 0<_;decide),by simp[vl,mod_one]⟩ bM (fun w h=>h.aY 4 [0,1,2] rfl) ?_
  rintro⟨k,wd,cy⟩ ⟨hk,KY,yR,he1,Zz,SY⟩;dsimp only at hk KY yR he1 Zz SY ⊢;refine aP "a~~HBE" (aX (fun bB=> ?_) fun bB=> ?_)
  ·simp only[dh] at bB;refine aj "1j" ?_;refine WL.val (V.wU (i:=4) (ak rfl) (ak rfl)) rfl (aP "~x" ?_);refine WL.val (V.aI (v':= .int .u64 ((z/115792089237316195423570985008687907853269984665640564039457584007913129639936/18446744073709551616^k%18446744073709551616:Nat):Int)) (V.dY isAgg306 (ak rfl)) (fun _=>by rw[bW _ _ _ _ ay,Nat.pow_add,←Nat.div_div_eq_div_mul])) rfl ?_;refine WL.t2 call293 rfl rfl (kN (x:=z/115792089237316195423570985008687907853269984665640564039457584007913129639936/18446744073709551616^k%18446744073709551616) (y:=38) (mod_lt _ aK) aK) rfl ?_;refine aP "Cx0~$C0~N0~x~9c~$!~x~sgQ~Ngq<;" ?_;have GH:z/115792089237316195423570985008687907853269984665640564039457584007913129639936/18446744073709551616^k%18446744073709551616<18446744073709551616:=mod_lt _ aK;have J2:z/18446744073709551616^k%18446744073709551616<18446744073709551616:=mod_lt _ aK;have hm:=Vd GH (show 38<18446744073709551616 by decide) Zz J2;rw[he1 k (Nat.le_refl _),bW _ _ _ _ bB,Nat.add_comm (z/18446744073709551616^k%18446744073709551616) ((z/115792089237316195423570985008687907853269984665640564039457584007913129639936/18446744073709551616^k%18446744073709551616*38%18446744073709551616+cy+0)%18446744073709551616)];refine⟨(k+1,_,Yf (z/115792089237316195423570985008687907853269984665640564039457584007913129639936/18446744073709551616^k%18446744073709551616) 38 cy (z/18446744073709551616^k%18446744073709551616)),⟨by show k+1≤4;omega,by show (wd.set _ _).length=4;rw[length_set];exact KY,yR.set (mod_lt _ aK),fun j hj=> ?_,NQ _ _ _ _, ?_⟩,(by show 4-(k+1)<4-k;omega),.cons rfl bM,fun w h=>h⟩
   ·dsimp only at hj ⊢;rw[getD_set_ne ay];exact he1 j ay
   ·dsimp only;rw[pz _ _ _ ay,mod_succ z,mod_succ (z/115792089237316195423570985008687907853269984665640564039457584007913129639936),Nat.pow_succ];exact Yi SY hm
  ·simp only[dh] at bB;refine aj "W" ?_;obtain rfl:k=4:=by omega
   have hvl:=Da yR KY;rw[take_of_length_le ay,show 18446744073709551616^4=115792089237316195423570985008687907853269984665640564039457584007913129639936 from rfl,mod_eq_of_lt (show z/115792089237316195423570985008687907853269984665640564039457584007913129639936<115792089237316195423570985008687907853269984665640564039457584007913129639936 from Nat.div_lt_of_lt_mul hz8)] at SY;have e1:av .u64 wd=av .u64 (bH 18446744073709551616 4 (vl 18446744073709551616 wd)):=by rw[nJ yR KY]
   rw[e1];refine aP "qyc" ?_;refine WL.t2 call295 rfl rfl (Jv hvl Zz) rfl ?_;refine aP "v3" ?_;exact aG.ret (H':=F) (bI.one rfl (R1.cO rfl ⟨isAgg318,sizeOf318⟩)) gy ⟨by rw[SY,Ke,Rl,Nat.mul_comm 38],rfl⟩
end
theorem abO:fP<115792089237316195423570985008687907853269984665640564039457584007913129639936:=by decide
theorem lZ(x y:Nat):uV x y<fP:=mod_lt _ aK
theorem bZ(x y:Nat):eZ x y<fP:=mod_lt _ aK
theorem VX(x:Nat):aa7 x<fP:=mod_lt _ aK
theorem oh(x y:Nat):uJ x y<fP:=mod_lt _ aK
theorem AJ{x:Nat}(h:x<fP):x<115792089237316195423570985008687907853269984665640564039457584007913129639936:=Nat.lt_trans h abO
theorem CO{x:Nat}{bit:Nat→Bool}:∀ {i out:Nat},out<fP→Ei x bit i out<fP
 | 0,out,h=>h
 | i+1,out,h=>by
  rw[Ei];exact CO (by cases bit i<;>exact bZ _ _)
theorem CP(a:Nat):EI a<fP:=CO aK
section
variable{K:World}{F:List aA}
theorem ag5{x i:Nat}(hi:i<256):aL prog 298 #[w4 x,.i ((i:Nat):Int)] K F (.bool (x.testBit i)):=by
 refine aC.en func298 ntmps298 ?_;refine aj "a9" fun b2=> ?_;refine aj "j" ?_;refine WL.val (V.Yr (j:=64) (ak rfl) (ak rfl)) rfl (aP "~x~9c~~6~0~~7~~Jd>" ?_);congr 1;rw[bW _ _ _ _ ay,show (1:Nat)=2^1-1 from rfl,and_two_pow_sub_one_eq_mod,testBit_eq_decide_div_mod_eq];apply decide_eq_decide.2;have e1:x/18446744073709551616^(i/64)%18446744073709551616/2^(i%64)%2^1=x/2^i%2:=by
  have h1:x/18446744073709551616^(i/64)/2^(i%64)=x/2^i:=by
   rw[show (18446744073709551616:Nat)=2^64 by decide,←Nat.pow_mul,Nat.div_div_eq_div_mul,←Nat.pow_add,div_add_mod]
  rw[←h1,show (18446744073709551616:Nat)=2^64 by decide,Nat.pow_one,mY (B:=2) _ ay]
 rw[e1]
theorem yG{x m f:Nat}{first captured:List Value}{bit:Nat→Bool}(hx:x<115792089237316195423570985008687907853269984665640564039457584007913129639936)(hm:m≤300)(hc:bT prog f)(hb:∀i,i<m→∀F,aL prog f (first++[Value.int .i64 ((i:Nat):Int)]++captured).toArray K F (.bool (bit i))) :
 aL prog 249 #[w4 x,.i ((m:Nat):Int),.func (.func f) first.toArray captured.toArray] K F (w4 (Ei x bit m 1)):=by
 refine aC.en func249 ntmps249 ?_;refine aj "a9" fun b3=> ?_;refine aP "w" fun b6=> ?_;refine aj "T" ?_;refine WL.val (V.l7 (k:= .u64) (l:=[_,_,_,_]) (vs:=[(0,_)]) ⟨ak rfl,trivial⟩ rfl (Ii _)) rfl ?_;refine aP "w" fun b7=> ?_;refine aP "vbr~Bgu" ?_;refine WC.loop (σ:=Nat×Nat) (fun s=>[(2,.func (.func f) first.toArray captured.toArray),(3,ptr b3 0),(6,ptr b6 0),(7,ptr b7 0),(8,.i ((s.1:Int)-1))]) (fun s=>ah b7 318 (av .u64 (bH 18446744073709551616 4 s.2))::ah b6 318 (av .u64 (replicate 4 0))::ah b3 318 (av .u64 (bH 18446744073709551616 4 x))::F)
  (fun s=>s.1≤m∧s.2<fP∧Ei x bit s.1 s.2=Ei x bit m 1) (fun s=>s.1) (m,1) ⟨Nat.le_refl _,(by show 1<fP;decide),rfl⟩ bM (fun w h=>Sat.aS h (by kernel_rfl)) ?_
 rintro⟨i,out⟩ ⟨hi,ho,hp⟩;dsimp only at hi ho hp ⊢;refine aj "r~ik" (aX (fun aN=> ?_) fun aN=> ?_)
 ·simp only[dh] at aN;obtain⟨i,rfl⟩:∃q,i=q+1:=⟨i-1,by omega⟩;rw[show ((i+1:Nat):Int)-1=((i:Nat):Int) by omega];rw[Ei] at hp;refine aP "Hayy" ?_;refine WL.t2 call251 rfl rfl (qN (AJ ho) (AJ ho)) rfl ?_;refine aP "vbec" ?_;refine WL.nC (vs:=[_]) hc (ak rfl) ⟨ak rfl,trivial⟩ (hb i ay _) rfl ?_;rintro _ _ ⟨rfl,rfl⟩;refine aj "k" (aX (fun aR=> ?_) fun aR=> ?_)
  ·skip
   rw[aR] at hp;refine aP "qyy" ?_;refine WL.t2 call251 rfl rfl (qN (AJ (bZ _ _)) hx) rfl ?_;refine aP "vbh~B4" ?_;exact⟨(i,_),⟨by show i≤m;omega,bZ _ _,hp⟩,(by show i<i+1;omega),.cons rfl bM,fun w h=>h⟩
  ·skip
   rw[aR] at hp;refine aj "ih~B4" ?_;exact⟨(i,_),⟨by show i≤m;omega,bZ _ _,hp⟩,(by show i<i+1;omega),.cons rfl bM,fun w h=>h⟩
 ·simp only[dh] at aN;refine aj "W" ?_;obtain rfl:i=0:=by omega
  rw[Ei] at hp;refine aP "qyv3" ?_;exact aG.ret (H':=F) (bI.one rfl (R1.cO rfl ⟨isAgg318,sizeOf318⟩)) gy ⟨by rw[hp],rfl⟩
theorem rA{n:Nat}(hn:n<115792089237316195423570985008687907853269984665640564039457584007913129639936):aL prog 198 #[p9 n] K F (.bool (decide (n<fP))):=by
 refine aC.en func198 ntmps198 ?_;refine aj "a9" fun b1=> ?_;refine aP "xy" ?_;refine WL.t1 call245 rfl (q9 n) rfl ?_;refine WL.call (vs:=[]) call247 trivial (mJ) rfl ?_;rintro _ H0 ⟨rfl,h0⟩;subst H0;refine WL.t2 call246 rfl rfl (kK (x:=n) (y:=fP) hn abO) rfl ?_;refine aP "!w" fun b3=> ?_;refine aP "vj*d>" ?_;congr 1;rcases Nat.lt_or_ge n fP with h | h
 ·simp[h,Nat.not_le.2 h]
 ·simp[h,Nat.not_lt.2 h]
theorem D7{a b:Nat}(ha:a<115792089237316195423570985008687907853269984665640564039457584007913129639936)(hb:b<115792089237316195423570985008687907853269984665640564039457584007913129639936):aL prog 292 #[p9 a,p9 b] K F (.tuple #[w4 (if a<fP∧b<fP then a else 0),w4 (if a<fP∧b<fP then b else 0),.i (if a<fP∧b<fP then 0 else 1)]):=by
 refine aC.en func292 ntmps292 ?_;refine aj "a9" fun b2=> ?_;refine aj "9" fun b3=> ?_;refine aP "w" fun b4=> ?_;refine aP "w" fun b5=> ?_;refine aP "tay" ?_;refine WL.t1 call198 rfl (rA ha) rfl ?_;refine aj "*c" ?_;refine WL.bG (oj:=_) rfl rfl rfl GC.f (V.ji ⟨isAgg97,sizeOf97⟩ (ak rfl)) rfl ?_;refine WL.qh (oj:=_) (vs:=[_]) rfl rfl rfl GC.f call198 ⟨OV.g rfl id,trivial⟩ (fun hg=>rA hb) rfl ?_;refine aj "~~xJk" (aX (fun aN=> ?_) fun aN=> ?_)
 ·simp only[Bool.or_eq_true,Bool.or_eq_false_iff,oD] at aN;have h0:=aN;refine WC.sr (WL.val (V.l7 (k:= .u64) (l:=replicate 4 0) (vs:=[]) trivial rfl (abI )) rfl (WL.val (V.l7 (k:= .u64) (l:=replicate 4 0) (vs:=[]) trivial rfl (abI )) rfl (aP "vvd" ?_)));have h1:¬(a<fP∧b<fP):=ay;rw[if_neg h1,if_neg h1,if_neg h1];exact aG.ret (H':=F) (bI.three rfl (R1.cO (l:=bH 18446744073709551616 4 0) rfl ⟨isAgg318,sizeOf318⟩) (R1.cO (l:=bH 18446744073709551616 4 0) rfl ⟨isAgg318,sizeOf318⟩) (R1.tmp rfl)) gy ⟨rfl,rfl⟩
 ·simp only[Bool.or_eq_true,Bool.or_eq_false_iff,oD] at aN;have h0:=aN;refine aj ")" ?_;rw[if_pos h0,if_pos h0,if_pos h0];refine WC.vG 2 [6] rfl (by simp only[mP,mW,filter_cons,filter_nil,any_cons,any_nil,Nat.reduceBEq,Bool.or_false,Bool.or_true,Bool.not_true,Bool.not_false,if_true,if_false,Bool.false_eq_true];rfl) (by simp only[mP,mW,filter_cons,filter_nil,any_cons,any_nil,Nat.reduceBEq,Bool.or_false,Bool.or_true,Bool.not_true,Bool.not_false,if_true,if_false,Bool.false_eq_true];rfl) ?_;refine aP "~c0" ?_;refine UA.call (vs:=[_]) 1 rfl call245 (fun _=>⟨ak rfl,trivial⟩) (fun H' hF=>q9 a) ?_;refine aP "~c2" ?_;refine UA.call (vs:=[_]) 3 rfl call245 (fun _=>⟨ak rfl,trivial⟩) (fun H' hF=>q9 b) ?_;refine UA.lV 4 rfl sizeOf318 (fun _=>ak rfl) (fun _=>ak rfl) ?_;refine UA.lV 5 rfl sizeOf318 (fun _=>ak rfl) (fun _=>ak rfl) ?_;refine aP "`6_" fun CJ=> ?_;simp only[map_cons,map_nil,cons_append,nil_append];refine WC.ret ?_;exact aG.ret (H':=F) (bI.three rfl (R1.cO rfl ⟨isAgg318,sizeOf318⟩) (R1.cO rfl ⟨isAgg318,sizeOf318⟩) (R1.tmp rfl)) gy ⟨rfl,rfl⟩
theorem Yh{a b:Nat}(ha:a<fP)(hb:b<fP):aL prog 257 #[p9 a,p9 b] K F (.tuple #[p9 (uV a b),.i 0]):=by
 refine aC.en func257 ntmps257 ?_;refine aj "a9" fun b2=> ?_;refine aj "9" fun b3=> ?_;refine aP "w" fun b4=> ?_;refine aP "xyy" ?_;refine WL.t2 call292 rfl rfl (D7 (AJ ha) (AJ hb)) rfl ?_;refine aj "c~M" ?_;rw[if_pos ⟨ha,hb⟩,if_pos ⟨ha,hb⟩,if_pos ⟨ha,hb⟩];refine aP "~Zw" fun b6=> ?_;refine aP "w" fun b7=> ?_;refine aP "vvxyy" ?_;refine WL.t2 call297 rfl rfl (LP (AJ ha) (AJ hb)) rfl ?_;refine WL.t1 call254 rfl (mG (uV a b)) rfl ?_;refine aP "cvd" ?_;exact aG.ret (H':=F) (bI.two rfl (R1.cO rfl ⟨isAgg97,sizeOf97⟩) (R1.tmp rfl)) gy ⟨rfl,rfl⟩
theorem Yo{a b:Nat}(ha:a<fP)(hb:b<fP):aL prog 255 #[p9 a,p9 b] K F (.tuple #[p9 (uJ a b),.i 0]):=by
 refine aC.en func255 ntmps255 ?_;refine aj "a9" fun b2=> ?_;refine aj "9" fun b3=> ?_;refine aP "w" fun b4=> ?_;refine aP "xyy" ?_;refine WL.t2 call292 rfl rfl (D7 (AJ ha) (AJ hb)) rfl ?_;refine aj "c~M" ?_;rw[if_pos ⟨ha,hb⟩,if_pos ⟨ha,hb⟩,if_pos ⟨ha,hb⟩];refine aP "~Zw" fun b6=> ?_;refine aP "w" fun b7=> ?_;refine aP "vvt" ?_;refine WC.sub (Sub.refl _) (fun w h=>h.aY 5 [2,0,1,3,4] rfl) ?_;refine WC.vG 1 [5] rfl (by simp only[mP,mW,filter_cons,filter_nil,any_cons,any_nil,Nat.reduceBEq,Bool.or_false,Bool.or_true,Bool.not_true,Bool.not_false,if_true,if_false,Bool.false_eq_true];rfl) (by simp only[mP,mW,filter_cons,filter_nil,any_cons,any_nil,Nat.reduceBEq,Bool.or_false,Bool.or_true,Bool.not_true,Bool.not_false,if_true,if_false,Bool.false_eq_true];rfl) ?_;refine aP "~c0~c1" ?_;refine UA.call (vs:=[_]) 2 rfl call253 (fun _=>⟨ak rfl,trivial⟩) (fun H' hF=>Lg hb) ?_;refine UA.call (vs:=[_,_]) 3 rfl call297 (fun _=>⟨ak rfl,ak rfl,trivial⟩) (fun H' hF=>LP (AJ ha) (AJ (VX b))) ?_;refine UA.call (vs:=[_]) 4 rfl call254 (fun _=>⟨ak rfl,trivial⟩) (fun H' hF=>mG (uJ a b)) ?_;refine aP "F5" ?_;refine UA.lV 6 rfl sizeOf97 (fun _=>ak rfl) (fun _=>ak rfl) ?_;refine aP "`7_" fun CJ=> ?_;simp only[map_cons,map_nil,cons_append,nil_append];refine WC.ret ?_;exact aG.ret (H':=F) (bI.two rfl (R1.cO rfl ⟨isAgg97,sizeOf97⟩) (R1.tmp rfl)) gy ⟨rfl,rfl⟩
theorem Xp{a b:Nat}(ha:a<fP)(hb:b<fP):aL prog 248 #[p9 a,p9 b] K F (.tuple #[p9 (eZ a b),.i 0]):=by
 refine aC.en func248 ntmps248 ?_;refine aj "a9" fun b2=> ?_;refine aj "9" fun b3=> ?_;refine aP "w" fun b4=> ?_;refine aP "xyy" ?_;refine WL.t2 call292 rfl rfl (D7 (AJ ha) (AJ hb)) rfl ?_;refine aj "c~M" ?_;rw[if_pos ⟨ha,hb⟩,if_pos ⟨ha,hb⟩,if_pos ⟨ha,hb⟩];refine aP "~Zw" fun b6=> ?_;refine aP "w" fun b7=> ?_;refine aP "vvxyy" ?_;refine WL.t2 call251 rfl rfl (qN (AJ ha) (AJ hb)) rfl ?_;refine WL.t1 call254 rfl (mG (eZ a b)) rfl ?_;refine aP "cvd" ?_;exact aG.ret (H':=F) (bI.two rfl (R1.cO rfl ⟨isAgg97,sizeOf97⟩) (R1.tmp rfl)) gy ⟨rfl,rfl⟩
end
theorem uY{B k n m:Nat}(hn:n<B^k)(hm:m<B^k):decide (bH B k n=bH B k m)=decide (n=m):=by
 apply decide_eq_decide.2;constructor
 ·intro h;have h1:=congrArg (vl B) h
  rwa [xO,xO,mod_eq_of_lt hn,mod_eq_of_lt hm] at h1
 ·rintro rfl;rfl
theorem XL{x:Nat}(h:x<fP):x<256^32:=AJ h
theorem Sn{x:Nat}(h:x<fP):x<18446744073709551616^4:=AJ h
section
variable{K:World}{F:List aA}
theorem YW{a:Nat}(ha:a<fP):aL prog 256 #[p9 a] K F (.tuple #[p9 (EI a),.i (if a=0 then 20 else 0)]):=by
 have e1:(fP+115792089237316195423570985008687907853269984665640564039457584007913129639936-2)%115792089237316195423570985008687907853269984665640564039457584007913129639936=fP-2:=by decide
 refine aC.en func256 ntmps256 ?_;refine aj "a9" fun b1=> ?_;refine aP "w" fun b2=> ?_;refine aP "tuay" ?_;refine WL.t1 call198 rfl (rA (AJ ha)) rfl ?_;refine aj "*g" ?_;refine WC.jq rfl ((by simp[ha])) ?_;refine aP "ay" ?_;refine WL.val (V.l7 (l:=bH 256 32 0) (vs:=[]) trivial rfl RL) rfl ?_;refine WL.val (V.ahc (by kernel_rfl) (ak rfl) (ak rfl) (iA.av underlying97 sizeOf5 isAgg5 underlying5 rfl rfl)) rfl ?_;refine aj "gE" (aX (fun aR=> ?_) fun aR=> ?_)
 ·skip
  rw[uY (XL ha) aK] at aR;simp only[dh] at aR;have h1:=aR;refine WC.sr (WL.val (V.l7 (l:=bH 256 32 0) (vs:=[]) trivial rfl RL) rfl (aP "vd" ?_));subst h1;exact aG.ret (H':=F) (bI.two rfl (R1.cO rfl ⟨isAgg97,sizeOf97⟩) (R1.tmp rfl)) gy ⟨by rw[if_pos rfl,show EI 0=0 by kernel_rfl],rfl⟩
 ·skip
  rw[uY (XL ha) aK] at aR;simp only[dh] at aR;have h1:=aR;refine aj "ia" ?_;refine WL.call (vs:=[]) call247 trivial (mJ) rfl ?_;rintro _ H0 ⟨rfl,h0⟩;subst H0;refine WL.val (V.l7 (l:=bH 18446744073709551616 4 2) (vs:=[(0,_)]) ⟨ak rfl,trivial⟩ rfl (Ii _)) rfl (WL.t2 call246 rfl rfl (kK (x:=fP) (y:=2) abO aK) rfl ?_);refine aP "!w" fun b4=> ?_;refine aP "vt" ?_;rw[e1];refine WC.sub (Sub.refl _) (fun w h=>h.aY 3 [1,0,2] rfl) ?_;refine WC.vG 1 [3] rfl (by simp only[mP,mW,filter_cons,filter_nil,any_cons,any_nil,Nat.reduceBEq,Bool.or_false,Bool.or_true,Bool.not_true,Bool.not_false,if_true,if_false,Bool.false_eq_true];rfl) (by simp only[mP,mW,filter_cons,filter_nil,any_cons,any_nil,Nat.reduceBEq,Bool.or_false,Bool.or_true,Bool.not_true,Bool.not_false,if_true,if_false,Bool.false_eq_true];rfl) ?_;refine aP "~c0" ?_;refine UA.call (vs:=[_]) 1 rfl call245 (fun _=>⟨ak rfl,trivial⟩) (fun H' hF=>q9 a) ?_;refine aP "~c2" ?_;refine UA.val 3 rfl (fun _=>V.makeFunc (us:=[_]) (vs:=[]) ⟨ak rfl,trivial⟩ trivial) ?_;refine UA.call (vs:=[_,_,_]) 4 rfl call249 (fun _=>⟨ak rfl,ak rfl,ak rfl,trivial⟩) (fun H' hF=>yG (m:=255) (first:=[w4 (fP-2)]) (captured:=[]) (AJ ha) aK call298 (fun i hi F=>ag5 ay)) ?_;refine UA.call (vs:=[_]) 5 rfl call254 (fun _=>⟨ak rfl,trivial⟩) (fun H' hF=>mG (EI a)) ?_;refine UA.lV 6 rfl sizeOf97 (fun _=>ak rfl) (fun _=>ak rfl) ?_;refine aP "`7_" fun CJ=> ?_;simp only[map_cons,map_nil,cons_append,nil_append];refine WC.ret ?_;exact aG.ret (H':=F) (bI.two rfl (R1.cO rfl ⟨isAgg97,sizeOf97⟩) (R1.tmp rfl)) gy ⟨by rw[if_neg h1],rfl⟩
theorem ahb{i:Nat}:aL prog 250 #[.i ((i:Nat):Int)] K F (.bool (blt 0 i)):=by
 refine aC.en func250 ntmps250 ?_;refine aP "aj~<d>" ?_;congr 1;rw[Bool.eq_iff_iff,blt_eq,decide_eq_true_eq]
theorem agD{i:Nat}:aL prog 252 #[.i ((i:Nat):Int)] K F (.bool (!beq i 2)):=by
 refine aC.en func252 ntmps252 ?_;refine aj "aj" ?_;refine WL.val (V.XY (j:=2) (ak rfl) (ak rfl)) rfl (aj "d>" ?_);congr 2;by_cases h:i=2
 ·subst h;rfl
 ·have :beq i 2=false:=by cases hb:beq i 2 with | false=>rfl | true=>exact absurd (eq_of_beq_eq_true hb) h
  simp[h,this]
theorem ajn:fI<fP:=CO aK
theorem NZ(x y:Nat):beq x y=decide (x=y):=by rw[Bool.eq_iff_iff,decide_eq_true_eq,beq_eq]
def CX(a s:Nat):Nat×Bool:=bif decide (eZ s s=a) then (bif decide (s%2=1) then aa7 s else s,true) else (0,false)
theorem Ti{a:Nat}(ha:a<fP):aL prog 200 #[p9 a] K F (.tuple #[p9 (Au a).1,.bool (Au a).2,.i 0]):=by
 obtain⟨X,hX⟩:∃X,X=Au a:=⟨_,rfl⟩;rw[←hX];unfold Au at hX;obtain⟨r,hr⟩:∃r,r=Ei a (fun i=>blt 0 i) 252 1:=⟨_,rfl⟩;have nW:r<fP:=by rw[hr];exact CO aK
 rw[←hr] at hX;dsimp only at hX;simp only[NZ] at hX;have hX':X=CX a (bif decide (eZ r r=a) then r else eZ r fI):=hX;refine aC.en func200 ntmps200 ?_;refine aj "a9" fun b1=> ?_;refine aP "w" fun b2=> ?_;refine aP "mtay" ?_;refine WL.t1 call198 rfl (rA (AJ ha)) rfl ?_;refine aj "*b" ?_;refine WC.jq rfl ((by simp[ha])) ?_;refine aP "iay" ?_;refine WL.t1 call245 rfl (q9 a) rfl ?_;refine aP "w" fun b5=> ?_;refine aP "vTy" ?_;refine WL.t3 call249 rfl rfl rfl (yG (m:=252) (first:=[]) (captured:=[]) (bit:=fun i=>blt 0 i) (AJ ha) aK call250 (fun i hi F=>ahb)) rfl ?_;refine aP "w" fun b6=> ?_;refine aP "vb" ?_;refine WC.join (σ:=Nat) (fun s=>[(2,ptr b2 0),(5,ptr b5 0),(6,ptr b6 0)]) (fun s=>ah b6 318 (av .u64 (bH 18446744073709551616 4 s))::ah b5 318 (av .u64 (bH 18446744073709551616 4 a))::ah b2 97 (av .u8 (replicate 32 0))::F) (fun s=>s<fP∧X=CX a s) ?_ ?_
 ·skip
  refine WC.seq ?_;rw[←hr];refine aP "~k~~h~~h" ?_;refine WQ.call (vs:=[_,_]) call251 ⟨ak rfl,ak rfl,trivial⟩ (qN (AJ nW) (AJ nW)) rfl (aP "~~h" ?_);refine WQ.val (V.TR (by kernel_rfl) (ak rfl) (ak rfl) (iA.av underlying318 sizeOf306 isAgg306 underlying306 rfl rfl)) rfl ?_;refine aj "~gE" (aX (fun aR=> ?_) fun aR=> ?_)
  ·skip
   rw[uY (Sn (bZ _ _)) (Sn ha)] at aR;simp only[oD] at aR;have h1:=aR;refine WC.DC 1 rfl ?_;refine UA.Pz 0 rfl (fun _=>V.ji ⟨isAgg318,sizeOf318⟩ (ak rfl)) ?_;refine UA.val 1 rfl (fun _=>V.l7 (l:=bH 18446744073709551616 4 2) (vs:=[(0,_)]) ⟨ak rfl,trivial⟩ rfl (Ii _)) ?_;refine UA.call (vs:=[_,_,_]) 2 rfl call249 (fun _=>⟨ak rfl,ak rfl,ak rfl,trivial⟩) (fun H' hF=>yG (m:=253) (first:=[]) (captured:=[]) (bit:=fun i=> !beq i 2) (show 2<_ by decide) aK call252 (fun i hi F=>agD)) ?_;refine UA.call (vs:=[_,_]) 3 rfl call251 (fun _=>⟨ak rfl,ak rfl,trivial⟩) (fun H' hF=>qN (AJ nW) (AJ ajn)) ?_;refine UA.lV 4 rfl sizeOf318 (fun _=>ak rfl) (fun _=>ak rfl) ?_;refine aP "_" fun CJ=> ?_;simp only[map_cons,map_nil,cons_append,nil_append];refine⟨rfl, ?_⟩;first
    | exact⟨eZ r fI,⟨bZ _ _,by rw[hX',decide_eq_false h1,cond_false]⟩,.cons rfl (.cons rfl (.cons rfl (.nil _))),fun w h=>h.aY 4 [0,1,2] rfl⟩
    | exact⟨r,⟨nW,by rw[hX',decide_eq_true h1,cond_true]⟩,.cons rfl (.cons rfl (.cons rfl (.nil _))),fun w h=>h.aY 4 [0,1,2] rfl⟩
  ·skip
   rw[uY (Sn (bZ _ _)) (Sn ha)] at aR;simp only[oD] at aR;have h1:=aR;refine aj "i~O" ?_;first
    | exact⟨eZ r fI,⟨bZ _ _,by rw[hX',decide_eq_false h1,cond_false]⟩,.cons rfl (.cons rfl (.cons rfl (.nil _))),fun w h=>h.aY 4 [0,1,2] rfl⟩
    | exact⟨r,⟨nW,by rw[hX',decide_eq_true h1,cond_true]⟩,.cons rfl (.cons rfl (.cons rfl (.nil _))),fun w h=>h.aY 4 [0,1,2] rfl⟩
 ·skip
  rintro s ⟨hs,hXs⟩;refine aP "NN~k~~h~~h" ?_;refine WQ.call (vs:=[_,_]) call251 ⟨ak rfl,ak rfl,trivial⟩ (qN (AJ hs) (AJ hs)) rfl (aP "~~h" ?_);refine WQ.val (V.TR (by kernel_rfl) (ak rfl) (ak rfl) (iA.av underlying318 sizeOf306 isAgg306 underlying306 rfl rfl)) rfl ?_;refine aj "~gE" (aX (fun bB=> ?_) fun bB=> ?_)
  ·skip
   rw[uY (Sn (bZ _ _)) (Sn ha)] at bB;simp only[oD] at bB;have h2:=bB;refine WC.sr (WL.val (V.l7 (l:=bH 256 32 0) (vs:=[]) trivial rfl RL) rfl (aP "vD" ?_));rw[hXs,CX,decide_eq_false h2,cond_false];exact aG.ret (H':=F) (bI.three rfl (R1.cO rfl ⟨isAgg97,sizeOf97⟩) (R1.tmp rfl) (R1.tmp rfl)) gy ⟨rfl,rfl⟩
  ·skip
   rw[uY (Sn (bZ _ _)) (Sn ha)] at bB;simp only[oD] at bB;have h2:=bB;refine aP ")a~~2~9~~7~~Jk" (aX (fun eF=> ?_) fun eF=> ?_)
   ·skip
    rw[show s%18446744073709551616 &&& 1=s%2 by rw[and_one_is_mod];omega] at eF;simp only[dh] at eF;have h3:=eF;refine aP "qy" ?_;refine WL.t1 call253 rfl (Lg hs) rfl ?_;refine aP "vTy" ?_;refine WL.t1 call254 rfl (mG _) rfl ?_;refine aP "vD" ?_;have h4:s%2=1∨s%2≠1:=ay;rw[hXs,CX,decide_eq_true h2,cond_true];first
     | (rw[decide_eq_true (show s%2=1 by omega),cond_true];exact aG.ret (H':=F) (bI.three rfl (R1.cO rfl ⟨isAgg97,sizeOf97⟩) (R1.tmp rfl) (R1.tmp rfl)) gy ⟨rfl,rfl⟩)
     | (rw[decide_eq_false (show ¬s%2=1 by omega),cond_false];exact aG.ret (H':=F) (bI.three rfl (R1.cO rfl ⟨isAgg97,sizeOf97⟩) (R1.tmp rfl) (R1.tmp rfl)) gy ⟨rfl,rfl⟩)
   ·skip
    rw[show s%18446744073709551616 &&& 1=s%2 by rw[and_one_is_mod];omega] at eF;simp only[dh] at eF;have h3:=eF;refine aP "iay" ?_;refine WL.t1 call254 rfl (mG _) rfl ?_;refine aP "vD" ?_;have h4:s%2=1∨s%2≠1:=ay;rw[hXs,CX,decide_eq_true h2,cond_true];first
     | (rw[decide_eq_true (show s%2=1 by omega),cond_true];exact aG.ret (H':=F) (bI.three rfl (R1.cO rfl ⟨isAgg97,sizeOf97⟩) (R1.tmp rfl) (R1.tmp rfl)) gy ⟨rfl,rfl⟩)
     | (rw[decide_eq_false (show ¬s%2=1 by omega),cond_false];exact aG.ret (H':=F) (bI.three rfl (R1.cO rfl ⟨isAgg97,sizeOf97⟩) (R1.tmp rfl) (R1.tmp rfl)) gy ⟨rfl,rfl⟩)
end
abbrev WM(p:Nat×Nat):List Nat:=bH 256 32 p.1++bH 256 32 p.2
abbrev pt(p:Nat×Nat):Value:= .agg (av .u8 (WM p)).toArray
abbrev plL(p:Pl):List Nat:=bH 256 32 p.x++(bH 256 32 p.y++(bH 256 32 p.z++bH 256 32 p.t))
abbrev plv(p:Pl):Value:= .agg (av .u8 (plL p)).toArray
structure Pl.Ok(p:Pl):Prop where
 x:p.x<fP
 y:p.y<fP
 z:p.z<fP
 t:p.t<fP
theorem Pl.Iy{p:Nat×Nat}(h1:p.1<fP)(h2:p.2<fP):(Pl.of p).Ok:=⟨h1,h2,(by show 1<fP;decide),bZ _ _⟩
theorem Pl.GQ(p q:Pl)(tw:Nat):(p.plus q tw).Ok:=⟨bZ _ _,bZ _ _,bZ _ _,bZ _ _⟩
theorem pW{p:Nat×Nat}(h:uT p=true):p.1<fP∧p.2<fP:=by simp_all [uT,Bool.and_eq_true,blt_eq]
theorem TK(x y:Nat)(w:World):(Instr.build 219 [(0,p9 x),(1,p9 y)].toArray).run prog w= .ok (pt (x,y)) w:=by kernel_rfl
theorem ae6(y:Nat)(w:World):(Instr.build 219 [(1,p9 y)].toArray).run prog w= .ok (pt (0,y)) w:=by kernel_rfl
theorem GZ(w:World):(Instr.build 219 [].toArray).run prog w= .ok (pt (0,0)) w:=by kernel_rfl
theorem aai(x y z t:Nat)(w:World):(Instr.build 283 [(0,p9 x),(1,p9 y),(2,p9 z),(3,p9 t)].toArray).run prog w= .ok (plv ⟨x,y,z,t⟩) w:=by kernel_rfl
theorem agK(p:Nat×Nat)(w:World):(Instr.buildSlice 333 1 [(0,pt p)].toArray).run prog w= .ok (.slice (some ⟨w.heap.size,0,none⟩) 1 1) (w.alloc (.cells (av .u8 (WM p)).toArray 219)):=by kernel_rfl
theorem adO(p q:Nat×Nat)(w:World):(Instr.buildSlice 333 2 [(0,pt p),(1,pt q)].toArray).run prog w= .ok (.slice (some ⟨w.heap.size,0,none⟩) 2 2) (w.alloc (.cells (av .u8 (WM p++WM q)).toArray 219)):=by kernel_rfl
section
variable{K:World}{F:List aA}
theorem kZ{a b:Nat}(ha:a<fP)(hb:b<fP):aL prog 204 #[p9 a,p9 b] K F (p9 (uV a b)):=by
 refine aC.en func204 ntmps204 ?_;refine aj "a9" fun b2=> ?_;refine aj "9" fun b3=> ?_;refine aP "w" fun b4=> ?_;refine aP "Tyy" ?_;refine WL.t2 call257 rfl rfl (Yh ha hb) rfl ?_;refine aP "!w" fun b5=> ?_;refine aP "vxyv3" ?_;exact aG.ret (H':=F) (bI.one rfl (R1.cO rfl ⟨isAgg97,sizeOf97⟩)) gy ⟨rfl,rfl⟩
theorem mR{a b:Nat}(ha:a<fP)(hb:b<fP):aL prog 201 #[p9 a,p9 b] K F (p9 (uJ a b)):=by
 refine aC.en func201 ntmps201 ?_;refine aj "a9" fun b2=> ?_;refine aj "9" fun b3=> ?_;refine aP "w" fun b4=> ?_;refine aP "Tyy" ?_;refine WL.t2 call255 rfl rfl (Yo ha hb) rfl ?_;refine aP "!w" fun b5=> ?_;refine aP "vxyv3" ?_;exact aG.ret (H':=F) (bI.one rfl (R1.cO rfl ⟨isAgg97,sizeOf97⟩)) gy ⟨rfl,rfl⟩
theorem dM{a b:Nat}(ha:a<fP)(hb:b<fP):aL prog 199 #[p9 a,p9 b] K F (p9 (eZ a b)):=by
 refine aC.en func199 ntmps199 ?_;refine aj "a9" fun b2=> ?_;refine aj "9" fun b3=> ?_;refine aP "w" fun b4=> ?_;refine aP "Tyy" ?_;refine WL.t2 call248 rfl rfl (Xp ha hb) rfl ?_;refine aP "!w" fun b5=> ?_;refine aP "vxyv3" ?_;exact aG.ret (H':=F) (bI.one rfl (R1.cO rfl ⟨isAgg97,sizeOf97⟩)) gy ⟨rfl,rfl⟩
theorem zD{a:Nat}(ha:a<fP):aL prog 203 #[p9 a] K F (p9 (EI a)):=by
 refine aC.en func203 ntmps203 ?_;refine aj "a9" fun b1=> ?_;refine aP "w" fun b2=> ?_;refine aP "Ty" ?_;refine WL.t1 call256 rfl (YW ha) rfl ?_;refine aP "!w" fun b3=> ?_;refine aP "vxyv3" ?_;exact aG.ret (H':=F) (bI.one rfl (R1.cO rfl ⟨isAgg97,sizeOf97⟩)) gy ⟨rfl,rfl⟩
theorem adP{n:Nat}(h:n<16777216):[n%256,n/2^8%256,n/2^16%256]++replicate 29 0=bH 256 32 n:=by
 rw[show bH 256 32 n=bH 256 3 n++bH 256 29 (n/256^3) from zB 256 3 29 n,show n/256^3=0 from div_eq_of_lt h,rH];congr 1;simp[bH,Nat.div_div_eq_div_mul]
theorem iK{n:Nat}(h:n<16777216):aL prog 202 #[.i ((n:Nat):Int)] K F (p9 n):=by
 refine aC.en func202 ntmps202 ?_;refine aP "aw" fun b2=> ?_;refine aP "be~Sc~~8~Sc~~9~S" ?_;refine WL.val (V.l7 (k:= .u8) (l:=[_,_,_,_,_,_,_,_,_,_,_,_,_,_,_,_,_,_,_,_,_,_,_,_,_,_,_,_,_,_,_,_]) (vs:=[(0,_),(1,_),(2,_)]) ⟨ak rfl,ak rfl,ak rfl,trivial⟩ rfl (QB _ _ _)) rfl (aP "v3" ?_);refine aG.ret (H':=F) (bI.one rfl (R1.cO rfl ⟨isAgg97,sizeOf97⟩)) gy ⟨?_,rfl⟩;rw[p9,←adP h];rfl
theorem zq:aL prog 205 #[] K F (p9 cD):=by
 refine aC.en func205 ntmps205 ?_;refine aP "aw" fun b0=> ?_;refine aj "T" ?_;refine WL.t1 call202 rfl (iK (n:=0) aK) rfl ?_;refine WL.t1 call202 rfl (iK (n:=121665) aK) rfl ?_;refine WL.t2 call201 rfl rfl (mR aK aK) rfl ?_;refine WL.t1 call202 rfl (iK (n:=121666) aK) rfl ?_;refine WL.t1 call203 rfl (zD aK) rfl ?_;refine WL.t2 call199 rfl rfl (dM (oh _ _) (CP _)) rfl ?_;refine aP "v3" ?_;exact aG.ret (H':=F) (bI.one rfl (R1.cO rfl ⟨isAgg97,sizeOf97⟩)) gy ⟨rfl,rfl⟩
theorem UJ:aL prog 211 #[] K F (pt (0,1)):=by
 refine aC.en func211 ntmps211 ?_;refine aP "aw" fun b0=> ?_;refine aj "T" ?_;refine WL.t1 call202 rfl (iK (n:=1) aK) rfl ?_;refine WL.val (V.build (vs:=[(1,_)]) ⟨ak rfl,trivial⟩ rfl (ae6 _)) rfl (aP "v3" ?_);exact aG.ret (H':=F) (bI.one rfl (R1.cO rfl ⟨isAgg219,sizeOf219⟩)) gy ⟨rfl,rfl⟩
theorem Co{p:Nat×Nat}(h1:p.1<fP)(h2:p.2<fP):aL prog 210 #[pt p] K F (plv (Pl.of p)):=by
 refine aC.en func210 ntmps210 ?_;refine aj "a9" fun b1=> ?_;refine aP "w" fun b2=> ?_;refine aj "B" ?_;refine WC.sub (Sub.refl _) cu (aP "~!~o0~81~o2~~K3" ?_);refine UA.call (vs:=[_]) 4 rfl call202 (fun _=>⟨ak rfl,trivial⟩) (fun H' hF=>iK (n:=1) aK) ?_;refine aP "~o5~86~o7~~K8" ?_;refine UA.call (vs:=[_,_]) 9 rfl call199 (fun _=>⟨ak rfl,ak rfl,trivial⟩) (fun H' hF=>dM h1 h2) ?_;refine UA.val 10 rfl (fun _=>V.build (vs:=[(0,_),(1,_),(2,_),(3,_)]) ⟨ak rfl,ak rfl,ak rfl,ak rfl,trivial⟩ rfl (aai _ _ _ _)) ?_;refine UA.lV 11 rfl sizeOf283 (fun _=>ak rfl) (fun _=>ak rfl) ?_;refine aP "_" fun CJ=> ?_;simp only[map_cons,map_nil,cons_append,nil_append];refine WC.ret ?_;exact aG.ret (H':=F) (bI.one rfl (R1.cO rfl ⟨isAgg283,sizeOf283⟩)) gy ⟨rfl,rfl⟩
theorem Fz{p:Pl}(h:p.Ok):aL prog 213 #[plv p] K F (pt p.plain):=by
 refine aC.en func213 ntmps213 ?_;refine aj "a9" fun b1=> ?_;refine aP "w" fun b2=> ?_;refine aj "T7" ?_;refine WL.val (V.ach ⟨isAgg97,sizeOf97⟩ (ak rfl)) rfl (WL.t1 call203 rfl (zD h.z) rfl ?_);refine aP "w" fun b3=> ?_;refine aP "vB" ?_;refine WC.sub (Sub.refl _) (fun w h=>h.aY 3 [1,0,2] rfl) ?_;refine aP "~!~o0~81~c2" ?_;refine UA.call (vs:=[_,_]) 3 rfl call199 (fun _=>⟨ak rfl,ak rfl,trivial⟩) (fun H' hF=>dM h.x (CP _)) ?_;refine aP "~o4~~y5~c6" ?_;refine UA.call (vs:=[_,_]) 7 rfl call199 (fun _=>⟨ak rfl,ak rfl,trivial⟩) (fun H' hF=>dM h.y (CP _)) ?_;refine UA.val 8 rfl (fun _=>V.build (vs:=[(0,_),(1,_)]) ⟨ak rfl,ak rfl,trivial⟩ rfl (TK _ _)) ?_;refine UA.lV 9 rfl sizeOf219 (fun _=>ak rfl) (fun _=>ak rfl) ?_;refine aP "_" fun CJ=> ?_;simp only[map_cons,map_nil,cons_append,nil_append];refine WC.ret ?_;exact aG.ret (H':=F) (bI.one rfl (R1.cO rfl ⟨isAgg219,sizeOf219⟩)) gy ⟨rfl,rfl⟩
end
section
variable{K:World}{F:List aA}
theorem BO{p q:Pl}{tw:Nat}(hp:p.Ok)(hq:q.Ok)(ht:tw<fP):aL prog 212 #[plv p,plv q,p9 tw] K F (plv (p.plus q tw)):=by
 refine aC.en func212 ntmps212 ?_;refine aj "a9" fun b3=> ?_;refine aj "9" fun b4=> ?_;refine aj "9" fun b5=> ?_;refine aP "w" fun b6=> ?_;refine aP "B~A~o0~~y1~o2~83" ?_;refine UA.call (vs:=[_,_]) 4 rfl call201 (fun _=>⟨ak rfl,ak rfl,trivial⟩) (fun H' hF=>mR hp.y hp.x) ?_;refine aP "~o5~~y6~o7~88" ?_;refine UA.call (vs:=[_,_]) 9 rfl call201 (fun _=>⟨ak rfl,ak rfl,trivial⟩) (fun H' hF=>mR hq.y hq.x) ?_;refine UA.call (vs:=[_,_]) 10 rfl call199 (fun _=>⟨ak rfl,ak rfl,trivial⟩) (fun H' hF=>dM (oh _ _) (oh _ _)) ?_;refine UA.alloc 11 rfl zeroValue97 (cs:=av .u8 (replicate 32 0)) rfl ?_;refine UA.fU 12 0 rfl rfl sizeOf97 (fun _ _=>ak rfl) (fun _ _=>ak rfl) ?_;refine aP "_" fun CJ=> ?_;simp only[map_cons,map_nil,cons_append,nil_append];refine aP "N~A~o0~~y1~o2~83" ?_;refine UA.call (vs:=[_,_]) 4 rfl call204 (fun _=>⟨ak rfl,ak rfl,trivial⟩) (fun H' hF=>kZ hp.y hp.x) ?_;refine aP "~o5~~y6~o7~88" ?_;refine UA.call (vs:=[_,_]) 9 rfl call204 (fun _=>⟨ak rfl,ak rfl,trivial⟩) (fun H' hF=>kZ hq.y hq.x) ?_;refine UA.call (vs:=[_,_]) 10 rfl call199 (fun _=>⟨ak rfl,ak rfl,trivial⟩) (fun H' hF=>dM (lZ _ _) (lZ _ _)) ?_;refine UA.alloc 11 rfl zeroValue97 (cs:=av .u8 (replicate 32 0)) rfl ?_;refine UA.fU 12 0 rfl rfl sizeOf97 (fun _ _=>ak rfl) (fun _ _=>ak rfl) ?_;refine aP "_" fun bs2=> ?_;simp only[map_cons,map_nil,cons_append,nil_append];refine aP "N~A~o0" ?_;refine UA.val 1 rfl (fun _=>V.aa1 ⟨isAgg97,sizeOf97⟩ (ak rfl)) ?_;refine aP "~c2" ?_;refine UA.call (vs:=[_,_]) 3 rfl call199 (fun _=>⟨ak rfl,ak rfl,trivial⟩) (fun H' hF=>dM hp.t ht) ?_;refine aP "~o4" ?_;refine UA.val 5 rfl (fun _=>V.aa1 ⟨isAgg97,sizeOf97⟩ (ak rfl)) ?_;refine UA.call (vs:=[_,_]) 6 rfl call199 (fun _=>⟨ak rfl,ak rfl,trivial⟩) (fun H' hF=>dM (bZ _ _) hq.t) ?_;refine UA.alloc 7 rfl zeroValue97 (cs:=av .u8 (replicate 32 0)) rfl ?_;refine UA.fU 8 0 rfl rfl sizeOf97 (fun _ _=>ak rfl) (fun _ _=>ak rfl) ?_;refine aP "_" fun bs3=> ?_;simp only[map_cons,map_nil,cons_append,nil_append];refine aP "N~A~o0~~!1~o2~~!3" ?_;refine UA.call (vs:=[_,_]) 4 rfl call204 (fun _=>⟨ak rfl,ak rfl,trivial⟩) (fun H' hF=>kZ hp.z hp.z) ?_;refine aP "~o5~~!6" ?_;refine UA.call (vs:=[_,_]) 7 rfl call199 (fun _=>⟨ak rfl,ak rfl,trivial⟩) (fun H' hF=>dM (lZ _ _) hq.z) ?_;refine UA.alloc 8 rfl zeroValue97 (cs:=av .u8 (replicate 32 0)) rfl ?_;refine UA.fU 9 0 rfl rfl sizeOf97 (fun _ _=>ak rfl) (fun _ _=>ak rfl) ?_;refine aP "_" fun bs4=> ?_;simp only[map_cons,map_nil,cons_append,nil_append];refine aP "N~A~c0~c1" ?_;refine UA.call (vs:=[_,_]) 2 rfl call201 (fun _=>⟨ak rfl,ak rfl,trivial⟩) (fun H' hF=>mR (bZ _ _) (bZ _ _)) ?_;refine aP "~c3~c4" ?_;refine UA.call (vs:=[_,_]) 5 rfl call201 (fun _=>⟨ak rfl,ak rfl,trivial⟩) (fun H' hF=>mR (bZ _ _) (bZ _ _)) ?_;refine aP "~c6~c7" ?_;refine UA.call (vs:=[_,_]) 8 rfl call204 (fun _=>⟨ak rfl,ak rfl,trivial⟩) (fun H' hF=>kZ (bZ _ _) (bZ _ _)) ?_;refine aP "~c9~c:" ?_;refine UA.call (vs:=[_,_]) 11 rfl call204 (fun _=>⟨ak rfl,ak rfl,trivial⟩) (fun H' hF=>kZ (bZ _ _) (bZ _ _)) ?_;refine UA.alloc 12 rfl zeroValue97 (cs:=av .u8 (replicate 32 0)) rfl ?_;refine UA.alloc 13 rfl zeroValue97 (cs:=av .u8 (replicate 32 0)) rfl ?_;refine UA.alloc 14 rfl zeroValue97 (cs:=av .u8 (replicate 32 0)) rfl ?_;refine UA.alloc 15 rfl zeroValue97 (cs:=av .u8 (replicate 32 0)) rfl ?_;refine UA.fU 16 3 rfl rfl sizeOf97 (fun _ _=>ak rfl) (fun _ _=>ak rfl) ?_;refine UA.fU 17 2 rfl rfl sizeOf97 (fun _ _=>ak rfl) (fun _ _=>ak rfl) ?_;refine UA.fU 18 1 rfl rfl sizeOf97 (fun _ _=>ak rfl) (fun _ _=>ak rfl) ?_;refine UA.fU 19 0 rfl rfl sizeOf97 (fun _ _=>ak rfl) (fun _ _=>ak rfl) ?_;refine aP "_" fun bs5=> ?_;simp only[map_cons,map_nil,cons_append,nil_append];refine WC.seq ?_;refine WC.sub (Sub.refl _) (fun w h=>h.aY 12 [8,0,1,2,3] rfl) ?_;refine aP "~!~c0~c1" ?_;refine UA.call (vs:=[_,_]) 2 rfl call199 (fun _=>⟨ak rfl,ak rfl,trivial⟩) (fun H' hF=>dM (oh _ _) (oh _ _)) ?_;refine aP "~c3~c4" ?_;refine UA.call (vs:=[_,_]) 5 rfl call199 (fun _=>⟨ak rfl,ak rfl,trivial⟩) (fun H' hF=>dM (lZ _ _) (lZ _ _)) ?_;refine aP "~c6~c7" ?_;refine UA.call (vs:=[_,_]) 8 rfl call199 (fun _=>⟨ak rfl,ak rfl,trivial⟩) (fun H' hF=>dM (oh _ _) (lZ _ _)) ?_;refine aP "~c9~c:" ?_;refine UA.call (vs:=[_,_]) 11 rfl call199 (fun _=>⟨ak rfl,ak rfl,trivial⟩) (fun H' hF=>dM (oh _ _) (lZ _ _)) ?_;refine UA.val 12 rfl (fun _=>V.build (vs:=[(0,_),(1,_),(2,_),(3,_)]) ⟨ak rfl,ak rfl,ak rfl,ak rfl,trivial⟩ rfl (aai _ _ _ _)) ?_;refine UA.lV 13 rfl sizeOf283 (fun _=>ak rfl) (fun _=>ak rfl) ?_;refine aP "_" fun bs6=> ?_;simp only[map_cons,map_nil,cons_append,nil_append];refine WC.ret ?_;exact aG.ret (H':=F) (bI.one rfl (R1.cO (l:=plL (p.plus q tw)) rfl ⟨isAgg283,sizeOf283⟩)) gy ⟨rfl,rfl⟩
theorem acJ{p:Nat×Nat}(h1:p.1<115792089237316195423570985008687907853269984665640564039457584007913129639936)(h2:p.2<115792089237316195423570985008687907853269984665640564039457584007913129639936):aL prog 261 #[pt p] K F (.bool (uT p)):=by
 have e0:uT p=(decide (p.1<fP)&&decide (p.2<fP)&&decide (uJ (eZ p.2 p.2) (eZ p.1 p.1)=uV 1 (eZ cD (eZ (eZ p.1 p.1) (eZ p.2 p.2))))):=by
  unfold uT;rw[NZ];congr 1;congr 1<;>rw[Bool.eq_iff_iff,blt_eq,decide_eq_true_eq]
 rw[e0];refine aC.en func261 ntmps261 ?_;refine aj "a9" fun b1=> ?_;refine aj "ta7" ?_;refine WL.val (V.abf ⟨isAgg97,sizeOf97⟩ (ak rfl)) rfl (WL.t1 call198 rfl (rA h1) rfl ?_);refine aj "*c~e" ?_;refine WL.bG (oj:=_) rfl rfl rfl GC.f (V.abo ⟨isAgg97,sizeOf97⟩ (OV.g rfl id)) rfl ?_;refine WL.qh (oj:=_) (vs:=[_]) rfl rfl rfl GC.f call198 ⟨OV.g rfl id,trivial⟩ (fun hg=>rA h2) rfl ?_;refine aj "~~xJk" (aX (fun aN=> ?_) fun aN=> ?_)
 ·simp only[Bool.or_eq_true,Bool.or_eq_false_iff,oD] at aN;have h0:=aN;refine aj "I>" ?_;rcases h0 with h0 | h0
  ·rw[decide_eq_false h0];rfl
  ·rw[decide_eq_false h0,Bool.and_false];rfl
 ·simp only[Bool.or_eq_true,Bool.or_eq_false_iff,oD] at aN;have h0:=aN;refine aj ")" ?_;rw[decide_eq_true h0.1,decide_eq_true h0.2];refine aP "~A~o0~81~o2~83" ?_;refine UA.call (vs:=[_,_]) 4 rfl call199 (fun _=>⟨ak rfl,ak rfl,trivial⟩) (fun H' hF=>dM h0.1 h0.1) ?_;refine aP "~o5~~K6~o7~~K8" ?_;refine UA.call (vs:=[_,_]) 9 rfl call199 (fun _=>⟨ak rfl,ak rfl,trivial⟩) (fun H' hF=>dM h0.2 h0.2) ?_;refine UA.alloc 10 rfl zeroValue97 (cs:=av .u8 (replicate 32 0)) rfl ?_;refine UA.alloc 11 rfl zeroValue97 (cs:=av .u8 (replicate 32 0)) rfl ?_;refine UA.fU 12 1 rfl rfl sizeOf97 (fun _ _=>ak rfl) (fun _ _=>ak rfl) ?_;refine UA.fU 13 0 rfl rfl sizeOf97 (fun _ _=>ak rfl) (fun _ _=>ak rfl) ?_;refine aP "_" fun CJ=> ?_;simp only[map_cons,map_nil,cons_append,nil_append];refine aP "N~k~~L~~L" ?_;refine WQ.call (vs:=[_,_]) call201 ⟨ak rfl,ak rfl,trivial⟩ (mR (bZ _ _) (bZ _ _)) rfl (WQ.call (vs:=[_]) call202 ⟨ak rfl,trivial⟩ (iK (n:=1) aK) rfl (WQ.call (vs:=[]) call205 trivial (zq) rfl (aP "~~L~~L" ?_)));refine WQ.call (vs:=[_,_]) call199 ⟨ak rfl,ak rfl,trivial⟩ (dM (bZ _ _) (bZ _ _)) rfl (WQ.call (vs:=[_,_]) call199 ⟨ak rfl,ak rfl,trivial⟩ (dM aK (bZ _ _)) rfl (WQ.call (vs:=[_,_]) call204 ⟨ak rfl,ak rfl,trivial⟩ (kZ aK (bZ _ _)) rfl ?_));refine WQ.val (V.ahc (by kernel_rfl) (ak rfl) (ak rfl) (iA.av underlying97 sizeOf5 isAgg5 underlying5 rfl rfl)) rfl ?_;refine aj "~m~g~D" ?_;exact qR F rfl rfl gy ⟨by rw[uY (XL (oh _ _)) (XL (lZ _ _))];rfl,rfl⟩
end
abbrev Ju(p:Nat×Nat):Prop:=p.1<115792089237316195423570985008687907853269984665640564039457584007913129639936∧p.2<115792089237316195423570985008687907853269984665640564039457584007913129639936
theorem VB(p:Nat×Nat):(WM p).length=64:=by simp[aH]
section
variable{K:World}{F:List aA}
theorem Qb{b:Nat}{ps:List (Nat×Nat)}(rP:∀p∈ps,Ju p)(hl:ps.length≤2)(hR:∀i p,ps[i]? =some p→gD K F b (i*64) (av .u8 (WM p))) :
 aL prog 209 #[.slice (some ⟨b,0,none⟩) ps.length ps.length] K F (.i ((if ps.all uT then 0 else 170:Nat):Int)):=by
 refine aC.en func209 ntmps209 ?_;refine aj "afoP" ?_;refine WC.loop (σ:=Nat) (fun i=>[(5,.slice (some ⟨b,0,none⟩) ps.length ps.length),(6,.i ((ps.length:Nat):Int)),(7,.i ((i:Nat):Int))]) (fun _=>F) (fun i=>i≤ps.length∧(ps.take i).all uT=true) (fun i=>ps.length-i) 0 ⟨zero_le _,rfl⟩ bM cu ?_;rintro i ⟨hi,rO⟩;refine aP "a~fBE" (aX (fun aN=> ?_) fun aN=> ?_)
 ·simp only[dh] at aN;obtain⟨p,hp⟩:∃p,ps[i]? =some p:=⟨ps[i],by simp[aN]⟩;have ajm:=rP p (mem_of_getElem? hp);refine aj "Ha" ?_;refine WL.val (V.Gs ajr (ak rfl) (ak rfl) (fun _=>by omega)) rfl ?_;refine WL.val (V.gG (vs:=av .u8 (WM p)) ⟨isAgg219,sizeOf219⟩ (ak rfl) (by rw[au,VB]) (fun _=>by rw[Int.toNat_natCast,Nat.zero_add];exact hR i p hp)) rfl ?_;refine aP "w" fun b4=> ?_;refine aP "vTy" ?_;refine WL.t1 call261 rfl (acJ ajm.1 ajm.2) rfl ?_;refine aj "*k" (aX (fun aR=> ?_) fun aR=> ?_)
  ·skip
   have h1:=aR;refine aj "I>" ?_;rw[if_neg]
   ·rfl
   intro h;rw[all_eq_true.1 h p (mem_of_getElem? hp)] at h1;cases h1
  ·skip
   have h1:=aR;refine aP "iq<;" ?_;refine⟨i+1,⟨by show i+1≤ps.length;omega, ?_⟩,(by show ps.length-(i+1)<ps.length-i;omega),.cons rfl bM,fun w h=>h.tail⟩;rw[take_add_one,hp,all_append,rO]
   simpa using h1
 ·simp only[dh] at aN;refine aj "RI" ?_;obtain rfl:i=ps.length:=by omega
  rw[take_length] at rO;exact qR F rfl rfl gy ⟨by rw[if_pos rO];rfl,rfl⟩
theorem YG{p q:Nat×Nat}(hp:Ju p)(hq:Ju q):aL prog 148 #[pt p,pt q] K F (.tuple #[pt (Ra p q),.i ((if uT p&&uT q then 0 else 170:Nat):Int)]):=by
 refine aC.en func148 ntmps148 ?_;refine aj "a9" fun b2=> ?_;refine aj "9" fun b3=> ?_;refine aP "w" fun b4=> ?_;refine aP "tayy" ?_;refine WL.buildSlice (E:=219) (vs:=[(0,_),(1,_)]) ⟨ak rfl,ak rfl,trivial⟩ rfl (adO p q) rfl (fun b9=> ?_);refine WL.c1 call209 rfl (Qb (ps:=[p,q]) (fun x hx=>by simp only[mem_cons,not_mem_nil,or_false] at hx;rcases hx with rfl | rfl;exact hp;exact hq) (Nat.le_refl 2) (fun i x hx=>by
  match i,hx with
  | 0,hx=>injection hx with hx;subst hx;exact gD.part ⟨WM q,rfl⟩
  | 1,hx=>injection hx with hx;subst hx;exact gD.part ⟨[],by rw[Nat.one_mul,drop_left' (VB p),append_nil]⟩)) rfl ?_
 rintro _ H0 ⟨rfl,h0⟩;subst H0;refine aj "t" ?_;rw[show [p,q].all uT=(uT p&&uT q) by simp];refine aP "h~`k" (aX (fun aN=> ?_) fun aN=> ?_)
 ·skip
  have h0:=aN;have h1:(uT p&&uT q)=false:=by cases h:(uT p&&uT q) with | false=>rfl | true=>rw[h] at h0;simp at h0
  refine WC.sr (WL.val (V.build (vs:=[]) trivial rfl GZ) rfl (aP "cvd" ?_));refine aG.ret (H':=F) (bI.two rfl (R1.cO (l:=WM (0,0)) rfl ⟨isAgg219,sizeOf219⟩) (R1.tmp rfl)) gy ⟨?_,rfl⟩;unfold Ra;rw[h1];rfl
 ·skip
  have h0:=aN;have h1:(uT p&&uT q)=true:=by cases h:(uT p&&uT q) with | true=>rfl | false=>rw[h] at h0;simp at h0
  refine aj ")" ?_;have ⟨h2,h3⟩:uT p=true∧uT q=true:=by simpa using h1
  refine WC.sub (Sub.refl _) (fun w h=>h.aY 4 [1,2,3] rfl) ?_;refine WC.vG 1 [5] rfl (by simp only[mP,mW,filter_cons,filter_nil,any_cons,any_nil,Nat.reduceBEq,Bool.or_false,Bool.or_true,Bool.not_true,Bool.not_false,if_true,if_false,Bool.false_eq_true];rfl) (by simp only[mP,mW,filter_cons,filter_nil,any_cons,any_nil,Nat.reduceBEq,Bool.or_false,Bool.or_true,Bool.not_true,Bool.not_false,if_true,if_false,Bool.false_eq_true];rfl) ?_;refine aP "~c0" ?_;refine UA.call (vs:=[_]) 1 rfl call210 (fun _=>⟨ak rfl,trivial⟩) (fun H' hF=>Co (pW h2).1 (pW h2).2) ?_;refine aP "~c2" ?_;refine UA.call (vs:=[_]) 3 rfl call210 (fun _=>⟨ak rfl,trivial⟩) (fun H' hF=>Co (pW h3).1 (pW h3).2) ?_;refine UA.call (vs:=[]) 4 rfl call205 (fun _=>trivial) (fun H' hF=>zq) ?_;refine UA.call (vs:=[]) 5 rfl call205 (fun _=>trivial) (fun H' hF=>zq) ?_;refine UA.call (vs:=[_,_]) 6 rfl call204 (fun _=>⟨ak rfl,ak rfl,trivial⟩) (fun H' hF=>kZ aK aK) ?_;refine UA.call (vs:=[_,_,_]) 7 rfl call212 (fun _=>⟨ak rfl,ak rfl,ak rfl,trivial⟩) (fun H' hF=>BO (Pl.Iy (pW h2).1 (pW h2).2) (Pl.Iy (pW h3).1 (pW h3).2) (lZ _ _)) ?_;refine UA.call (vs:=[_]) 8 rfl call213 (fun _=>⟨ak rfl,trivial⟩) (fun H' hF=>Fz (Pl.GQ _ _ _)) ?_;refine UA.lV 9 rfl sizeOf219 (fun _=>ak rfl) (fun _=>ak rfl) ?_;refine aP "`:_" fun CJ=> ?_;simp only[map_cons,map_nil,cons_append,nil_append];refine WC.ret ?_;refine aG.ret (H':=F) (bI.two rfl (R1.cO rfl ⟨isAgg219,sizeOf219⟩) (R1.tmp rfl)) gy ⟨?_,rfl⟩;unfold Ra;rw[h1];rfl
end
theorem aaB(B k y v:Nat):(bH B (k+1) y).set k v=bH B k y++[v]:=by simp_all [xC,set_append,aH,if_neg,Nat.sub_self,set_cons_zero]
theorem Hy{B:Nat}{l:List Nat}(h:aB B l){j:Nat}(hj:j<l.length):vl B l/B^j%B=l.getD j 0:=by grind [bW,Uh]
theorem ahw{l:List Nat}(h:aB 256 l){i:Nat}(hi:i<8*l.length):(vl 256 l).testBit i=decide (l.getD (i/8) 0/2^(i%8)%2=1):=by
 rw[←Hy h ay,testBit_eq_decide_div_mod_eq];apply decide_eq_decide.2;have e1:vl 256 l/256^(i/8)%256/2^(i%8)%2=vl 256 l/2^i%2:=by
  have h1:vl 256 l/256^(i/8)/2^(i%8)=vl 256 l/2^i:=by
   rw[show (256:Nat)=2^8 by decide,←Nat.pow_mul,Nat.div_div_eq_div_mul,←Nat.pow_add,div_add_mod]
  rw[←h1,show (256:Nat)=2^8 by decide,mY (B:=2) _ ay]
 rw[e1]
theorem RG(p:Pl):p.plain.1<fP∧p.plain.2<fP:=⟨bZ _ _,bZ _ _⟩
theorem UF{p:Nat×Nat}(h:p.1<fP∧p.2<fP):Ju p:=⟨AJ h.1,AJ h.2⟩
theorem Md(n k:Nat)(p:Nat×Nat):(og n k p).1<fP∧(og n k p).2<fP:=by
 unfold og;cases uT p
 ·exact⟨(by show 0<fP;decide),(by show 0<fP;decide)⟩
 ·exact RG _
section
variable{K:World}{F:List aA}
theorem FK{A:Option Addr}{m cap:Nat}{ns:List Nat}{p:Nat×Nat}(hs:Seq K F A m 1 (av .u8 ns))(h8:aB 256 ns)(hm:m≤64)(hp:Ju p) :
 aL prog 146 #[.slice A m cap,pt p] K F (.tuple #[pt (og (vl 256 ns) m p),.i ((if uT p then 0 else 170:Nat):Int)]):=by
 have hlen:ns.length=m:=by have :=hs.len;rwa [au,Nat.mul_one] at this
 refine aC.en func146 ntmps146 ?_;refine aj "a9" fun b3=> ?_;refine aP "w" fun b4=> ?_;refine aP "tay" ?_;refine WL.buildSlice (E:=219) (vs:=[(0,_)]) ⟨ak rfl,trivial⟩ rfl (agK p) rfl (fun b13=> ?_);refine WL.c1 call209 rfl (Qb (ps:=[p]) (fun x hx=>by simp only[mem_cons,not_mem_nil,or_false] at hx;rcases hx with rfl;exact hp) (by show 1≤2;decide) (fun i x hx=>by
  match i,hx with
  | 0,hx=>injection hx with hx;subst hx;exact gD.all)) rfl ?_
 rintro _ H0 ⟨rfl,h0⟩;subst H0;refine aj "t" ?_;rw[show [p].all uT=uT p by simp];refine aP "h~`k" (aX (fun aN=> ?_) fun aN=> ?_)
 ·skip
  have h0:=aN;have h1:uT p=false:=by cases h:uT p with | false=>rfl | true=>rw[h] at h0;simp at h0
  refine WC.sr (WL.val (V.build (vs:=[]) trivial rfl GZ) rfl (aP "cvd" ?_));refine aG.ret (H':=F) (bI.two rfl (R1.cO (l:=WM (0,0)) rfl ⟨isAgg219,sizeOf219⟩) (R1.tmp rfl)) gy ⟨?_,rfl⟩;unfold og;rw[h1];rfl
 ·skip
  have h0:=aN;have h1:uT p=true:=by cases h:uT p with | true=>rfl | false=>rw[h] at h0;simp at h0
  refine aj "ia" ?_;refine WL.call (vs:=[]) call205 trivial (zq) rfl ?_;rintro _ H0 ⟨rfl,h0⟩;subst H0;refine WL.call (vs:=[]) call205 trivial (zq) rfl ?_;rintro _ H0 ⟨rfl,h0⟩;subst H0;refine WL.t2 call204 rfl rfl (kZ aK aK) rfl ?_;refine aP "w" fun b7=> ?_;refine aP "vB~A" ?_;refine UA.call (vs:=[]) 0 rfl call211 (fun _=>trivial) (fun H' hF=>UJ) ?_;refine UA.call (vs:=[_]) 1 rfl call210 (fun _=>⟨ak rfl,trivial⟩) (fun H' hF=>Co (p:=(0,1)) aK aK) ?_;refine aP "~c2" ?_;refine UA.call (vs:=[_]) 3 rfl call210 (fun _=>⟨ak rfl,trivial⟩) (fun H' hF=>Co (pW h1).1 (pW h1).2) ?_;refine UA.alloc 4 rfl zeroValue283 (cs:=av .u8 (replicate 128 0)) rfl ?_;refine UA.alloc 5 rfl zeroValue283 (cs:=av .u8 (replicate 128 0)) rfl ?_;refine UA.fU 6 1 rfl rfl sizeOf283 (fun _ _=>ak rfl) (fun _ _=>ak rfl) ?_;refine UA.fU 7 0 rfl rfl sizeOf283 (fun _ _=>ak rfl) (fun _ _=>ak rfl) ?_;refine aP "_" fun CJ=> ?_;simp only[map_cons,map_nil,cons_append,nil_append];refine aP "ro~,~Bgu" ?_;refine WC.loop (σ:=Nat×Pl) (fun s=>[(0,.slice A m cap),(4,ptr b4 0),(7,ptr b7 0),(8,ptr (CJ 4) 0),(9,ptr (CJ 5) 0),(10,.i ((s.1:Int)-1))]) (fun s=>ah (CJ 4) 283 (av .u8 (plL s.2))::ah (CJ 5) 283 (av .u8 (plL (Pl.of p)))::ah b7 97 (av .u8 (bH 256 32 cTw))::ah b4 219 (av .u8 (replicate 64 0))::F)
   (fun s=>s.1≤8*m∧s.2.Ok∧zN (Pl.of p) cTw (vl 256 ns) s.1 s.2=zN (Pl.of p) cTw (vl 256 ns) (8*m) (Pl.of (0,1))) (fun s=>s.1) (8*m,Pl.of (0,1)) ⟨Nat.le_refl _,Pl.Iy aK aK,rfl⟩ bM (fun w h=>h.aY 6 [1,0,2,4] rfl) ?_
  rintro⟨i,out⟩ ⟨hi,ho,hq⟩;dsimp only at hi ho hq ⊢;refine aj "r~ik" (aX (fun aR=> ?_) fun aR=> ?_)
  ·simp only[dh] at aR;obtain⟨i,rfl⟩:∃q,i=q+1:=⟨i-1,by omega⟩;rw[show ((i+1:Nat):Int)-1=((i:Nat):Int) by omega];rw[zN,ahw h8 ay] at hq;have hb8:=h8.at_ aK (i/8);refine aP "Hay" ?_;refine WL.val (V.makeFunc (us:=[_]) (vs:=[]) ⟨ak rfl,trivial⟩ trivial) rfl (aP "jyy" ?_);refine WL.nC (first:=[_]) (captured:=[]) (vs:=[_,_]) call212 (ak rfl) ⟨ak rfl,ak rfl,trivial⟩ (BO ho ho (lZ cD cD)) rfl ?_;rintro _ _ ⟨rfl,rfl⟩;refine aP "vbec" ?_;refine WL.val (V.Yr (j:=8) (ak rfl) (ak rfl)) rfl ?_;refine WL.val (V.kI (v:= .int .u8 ((ns.getD (i/8) 0:Nat):Int)) eu (ak rfl) (ak rfl) (hr:=fun _=>by repeat (first | exact Seq.rF hs ay | apply Rd.up))) rfl ?_;refine WL.val (V.dY (v:= .int .u8 ((ns.getD (i/8) 0:Nat):Int)) isAgg5 (ak rfl) (fun _=>by repeat (first | exact Seq.rF hs ay | apply Rd.up))) rfl ?_;refine WL.mv rfl rfl (WL.val (V.XB (j:=8) (ak rfl) (ak rfl)) rfl (aP "~0" ?_));refine WL.val (V.C9 (j:=1) 8 (ak rfl) (ak rfl)) rfl ?_;refine aP "~~Jk" (aX (fun bB=> ?_) fun bB=> ?_)
   ·rw[show ns.getD (i/8) 0/2^(i%8) &&& 1=ns.getD (i/8) 0/2^(i%8)%2 from and_one_is_mod _] at bB;rw[bB] at hq;refine aP "qyyy" ?_;refine WL.t3 call212 rfl rfl rfl (BO (Pl.GQ _ _ _) (Pl.Iy (pW h1).1 (pW h1).2) (lZ _ _)) rfl ?_;refine aP "vbh~B4" ?_;exact⟨(i,_),⟨by show i≤8*m;omega,Pl.GQ _ _ _,hq⟩,(by show i<i+1;omega),.cons rfl bM,fun w h=>h⟩
   ·rw[show ns.getD (i/8) 0/2^(i%8) &&& 1=ns.getD (i/8) 0/2^(i%8)%2 from and_one_is_mod _] at bB;rw[bB] at hq;refine aj "ih~B4" ?_;exact⟨(i,_),⟨by show i≤8*m;omega,Pl.GQ _ _ _,hq⟩,(by show i<i+1;omega),.cons rfl bM,fun w h=>h⟩
  ·simp only[dh] at aR;refine aj "W" ?_;obtain rfl:i=0:=by omega
   rw[zN] at hq;refine aP "qy" ?_;refine WL.t1 call213 rfl (Fz ho) rfl ?_;refine aP "vd" ?_;refine aG.ret (H':=F) (bI.two rfl (R1.cO rfl ⟨isAgg219,sizeOf219⟩) (R1.tmp rfl)) gy ⟨?_,rfl⟩;unfold og;rw[h1,←hq];rfl
end
def vQ(y:Nat):Nat×Bool:=Au (eZ (uJ (eZ y y) 1) (EI (uV (eZ cD (eZ y y)) 1)))
theorem acs{c:Bool}{x y m:Nat}(hx:x<m)(hy:y<m):(bif c then x else y)<m:=by cases c<;>assumption
theorem ae5{c:Bool}{x m:Nat}(hx:x<m)(hm:0<m):(bif c then (x,true) else (0,false)).1<m:=by cases c<;>assumption
theorem SB(a:Nat):(Au a).1<fP:=by
 unfold Au;have h1:Ei a (fun i=>blt 0 i) 252 1<fP:=CO aK;exact ae5 (acs (VX _) (acs h1 (bZ _ _))) aK
theorem Jc(b:Nat):fq b=if b%57896044618658097711785492504343953926634992332820282019728792003956564819968<fP∧(vQ (b%57896044618658097711785492504343953926634992332820282019728792003956564819968)).2=true then (if b<57896044618658097711785492504343953926634992332820282019728792003956564819968 then some ((vQ (b%57896044618658097711785492504343953926634992332820282019728792003956564819968)).1,b%57896044618658097711785492504343953926634992332820282019728792003956564819968) else if (vQ (b%57896044618658097711785492504343953926634992332820282019728792003956564819968)).1=0 then none else some (uJ 0 (vQ (b%57896044618658097711785492504343953926634992332820282019728792003956564819968)).1,b%57896044618658097711785492504343953926634992332820282019728792003956564819968)) else none:=by
 have hb:∀x y:Nat,blt x y=decide (x<y):=fun x y=>by rw[Bool.eq_iff_iff,blt_eq,decide_eq_true_eq]
 have hr:vQ (b%57896044618658097711785492504343953926634992332820282019728792003956564819968)=Au (eZ (uJ (eZ (b%57896044618658097711785492504343953926634992332820282019728792003956564819968) (b%57896044618658097711785492504343953926634992332820282019728792003956564819968)) 1) (EI (uV (eZ cD (eZ (b%57896044618658097711785492504343953926634992332820282019728792003956564819968) (b%57896044618658097711785492504343953926634992332820282019728792003956564819968))) 1))):=rfl;unfold fq;dsimp only;rw[←hr];simp only[hb,NZ]
 generalize vQ (b%57896044618658097711785492504343953926634992332820282019728792003956564819968)=r
 obtain⟨x,o⟩:=r;by_cases h1:b%57896044618658097711785492504343953926634992332820282019728792003956564819968<fP
 ·cases o
  ·simp
  ·by_cases h2:b<57896044618658097711785492504343953926634992332820282019728792003956564819968
   ·simp[h1,h2]
   ·by_cases h3:x=0<;>simp[h1,h2,h3]
 ·simp[h1]
section
variable{K:World}{F:List aA}
theorem u6{b:Nat}(hb:b<115792089237316195423570985008687907853269984665640564039457584007913129639936):aL prog 143 #[p9 b] K F (.tuple #[pt ((fq b).getD (0,0)),.i ((if (fq b).isSome then 0 else 170:Nat):Int)]):=by
 obtain⟨y,hy⟩:∃y,y=b%57896044618658097711785492504343953926634992332820282019728792003956564819968:=⟨_,rfl⟩;obtain⟨X,hX⟩:∃X,X=fq b:=⟨_,rfl⟩;rw[←hX];rw[Jc,←hy] at hX;obtain⟨r,hr⟩:∃r,r=vQ y:=⟨_,rfl⟩;rw[←hr] at hX;have nW:r.1<fP:=by rw[hr];exact SB _
 have e31:(bH 256 32 b).getD 31 0=b/256^31:=by rw[bW _ _ _ _ aK,mod_eq_of_lt (Nat.div_lt_of_lt_mul hb)]
 have ar8:b/256^31<256:=Nat.div_lt_of_lt_mul hb;have hy4:y<115792089237316195423570985008687907853269984665640564039457584007913129639936:=ay;have ajz:(bH 256 32 b).set 31 ((bH 256 32 b).getD 31 0 &&& 127)=bH 256 32 y:=by
  rw[e31,aaB,show bH 256 32 y=bH 256 31 y++[y/256^31%256] from xC _ _ _];have e2:y=b%256^31+256^31*(b/256^31%128):=by rw[hy,show (57896044618658097711785492504343953926634992332820282019728792003956564819968:Nat)=256^31*128 by decide,mod_mul]
  have e3:bH 256 31 y=bH 256 31 b:=by rw[←oF,e2,add_mul_mod_self_left,oF,oF]
  rw[e3];congr 2;rw[show (127:Nat)=2^7-1 from rfl,and_two_pow_sub_one_eq_mod,e2,add_mul_div_left _ _ aK,div_eq_of_lt (mod_lt _ aK),Nat.zero_add];omega
 have agF:b/256^31/2^7=1↔¬b<57896044618658097711785492504343953926634992332820282019728792003956564819968:=by
  rw[Nat.div_div_eq_div_mul,show 256^31*2^7=57896044618658097711785492504343953926634992332820282019728792003956564819968 by decide];omega
 refine aC.en func143 ntmps143 ?_;refine aj "a9" fun b1=> ?_;refine aP "w" fun b2=> ?_;refine aP "x~(" ?_;refine WL.val (V.dY (v:= .int .u8 (((bH 256 32 b).getD 31 0:Nat):Int)) isAgg5 (ak rfl) (fun _=>by repeat (first | exact Rd.nat (by rw[aH];decide) | apply Rd.up))) rfl ?_;refine WL.val (V.wO (j:=7) (ak rfl) (ak rfl)) rfl (aP "x~(" ?_);refine WL.val (V.dY (v:= .int .u8 (((bH 256 32 b).getD 31 0:Nat):Int)) isAgg5 (ak rfl) (fun _=>by repeat (first | exact Rd.nat (by rw[aH];decide) | apply Rd.up))) rfl ?_;refine WL.val (V.C9 (j:=127) 8 (ak rfl) (ak rfl)) rfl (aP "~(~sBN" ?_);rw[ajz,e31];refine aP "qy" ?_;refine WL.t1 call198 rfl (rA hy4) rfl ?_;refine aj "*k" (aX (fun aN=> ?_) fun aN=> ?_)
 ·simp only[oD] at aN;have h0:=aN;rw[if_neg (fun h=>h0 h.1)] at hX;refine WC.sr (WL.val (V.build (vs:=[]) trivial rfl GZ) rfl (aP "vd" ?_));subst hX;exact aG.ret (H':=F) (bI.two rfl (R1.cO (l:=WM (0,0)) rfl ⟨isAgg219,sizeOf219⟩) (R1.tmp rfl)) gy ⟨rfl,rfl⟩
 ·simp only[oD] at aN;have h0:=aN;refine aP "iayy" ?_;refine WL.t2 call199 rfl rfl (dM h0 h0) rfl ?_;refine aP "w" fun b5=> ?_;refine aP "vB~A~c0" ?_;refine UA.call (vs:=[_]) 1 rfl call202 (fun _=>⟨ak rfl,trivial⟩) (fun H' hF=>iK (n:=1) aK) ?_;refine UA.call (vs:=[_,_]) 2 rfl call201 (fun _=>⟨ak rfl,ak rfl,trivial⟩) (fun H' hF=>mR (bZ _ _) aK) ?_;refine UA.call (vs:=[]) 3 rfl call205 (fun _=>trivial) (fun H' hF=>zq) ?_;refine aP "~c4" ?_;refine UA.call (vs:=[_,_]) 5 rfl call199 (fun _=>⟨ak rfl,ak rfl,trivial⟩) (fun H' hF=>dM aK (bZ _ _)) ?_;refine UA.call (vs:=[_]) 6 rfl call202 (fun _=>⟨ak rfl,trivial⟩) (fun H' hF=>iK (n:=1) aK) ?_;refine UA.call (vs:=[_,_]) 7 rfl call204 (fun _=>⟨ak rfl,ak rfl,trivial⟩) (fun H' hF=>kZ (bZ _ _) aK) ?_;refine UA.call (vs:=[_]) 8 rfl call203 (fun _=>⟨ak rfl,trivial⟩) (fun H' hF=>zD (lZ _ _)) ?_;refine UA.call (vs:=[_,_]) 9 rfl call199 (fun _=>⟨ak rfl,ak rfl,trivial⟩) (fun H' hF=>dM (oh _ _) (CP _)) ?_;refine UA.call (vs:=[_]) 10 rfl call200 (fun _=>⟨ak rfl,trivial⟩) (fun H' hF=>Ti (bZ _ _)) ?_;refine aP "F;~W<~W=~W>" ?_;refine UA.alloc 15 rfl zeroValue97 (cs:=av .u8 (replicate 32 0)) rfl ?_;refine UA.fU 16 0 rfl rfl sizeOf97 (fun _ _=>ak rfl) (fun _ _=>ak rfl) ?_;refine aP "`A`B_" fun CJ=> ?_;simp only[map_cons,map_nil,cons_append,nil_append];refine aj "NN" ?_;rw[show Au (eZ (uJ (eZ y y) 1) (EI (uV (eZ cD (eZ y y)) 1)))=r from hr.symm];clear hr ajz e31
  generalize b/256^31=q at *
  refine aj "~k+" ?_;refine WQ.val (V.not (ak rfl)) rfl (aj "+~~i" ?_);refine WQ.bG (oj:=_) rfl rfl rfl GC.f (V.I5 (j:=1) (OV.g rfl id) (ak rfl)) rfl (WQ.bG (oj:=_) rfl rfl rfl GC.f (V.move (OV.g rfl id)) rfl (WQ.bG (oj:=_) rfl rfl rfl GC.ct (V.ji ⟨isAgg97,sizeOf97⟩ (ak rfl)) rfl ?_));refine WQ.qh (oj:=_) (vs:=[_]) rfl rfl rfl GC.ct call202 ⟨ak rfl,trivial⟩ (fun hg=>iK (n:=0) aK) rfl ?_;refine WQ.bG (oj:=_) rfl rfl rfl GC.ct (V.ahc (by kernel_rfl) (OV.g rfl id) (OV.g rfl id) (iA.av underlying97 sizeOf5 isAgg5 underlying5 rfl rfl)) rfl ?_;refine WQ.bG (oj:=_) rfl rfl rfl GC.f (V.Ct (OV.g rfl id) (OV.g rfl id)) rfl ?_;refine aj "~~$~gE" (aX (fun aR=> ?_) fun aR=> ?_)
  ·skip
   rw[uY (XL nW) aK] at aR;simp only[Bool.or_eq_true,Bool.or_eq_false_iff,He,Bool.not_eq_true',Bool.not_eq_false'] at aR;have h1:=aR;have hX1:X=none:=by
    rw[hX];rcases h1 with h1 | h1
    ·rw[if_neg (by rw[h1];simp)]
    ·by_cases h2:r.2=true
     ·rw[if_pos ⟨h0,h2⟩,if_neg (agF.1 h1.1),if_pos h1.2]
     ·rw[if_neg (fun h=>h2 h.2)]
   refine WC.sr (WL.val (V.build (vs:=[]) trivial rfl GZ) rfl (aP "vd" ?_));rw[hX1];exact aG.ret (H':=F) (bI.two rfl (R1.cO (l:=WM (0,0)) rfl ⟨isAgg219,sizeOf219⟩) (R1.tmp rfl)) gy ⟨rfl,rfl⟩
  ·skip
   rw[uY (XL nW) aK] at aR;simp only[Bool.or_eq_true,Bool.or_eq_false_iff,He,Bool.not_eq_true',Bool.not_eq_false'] at aR;have h1:=aR;rw[if_pos ⟨h0,h1.1⟩] at hX;refine aP "ir~~Jk" (aX (fun bB=> ?_) fun bB=> ?_)
   ·simp only[dh] at bB;have h2:=bB;have h3:r.1≠0:=h1.2.resolve_left (fun h=>h h2);rw[if_neg (agF.1 h2),if_neg h3] at hX;refine WC.DC 1 rfl ?_;refine UA.call (vs:=[_]) 0 rfl call202 (fun _=>⟨ak rfl,trivial⟩) (fun H' hF=>iK (n:=0) aK) ?_;refine UA.Pz 1 rfl (fun _=>V.ji ⟨isAgg97,sizeOf97⟩ (ak rfl)) ?_;refine UA.call (vs:=[_,_]) 2 rfl call201 (fun _=>⟨ak rfl,ak rfl,trivial⟩) (fun H' hF=>mR aK nW) ?_;refine UA.lV 3 rfl sizeOf97 (fun _=>ak rfl) (fun _=>ak rfl) ?_;refine aP "_" fun bs2=> ?_;simp only[map_cons,map_nil,cons_append,nil_append];refine aP "ayy" ?_;refine WL.val (V.build (vs:=[(0,_),(1,_)]) ⟨ak rfl,ak rfl,trivial⟩ rfl (TK _ _)) rfl (aP "vd" ?_);subst hX;exact aG.ret (H':=F) (bI.two rfl (R1.cO rfl ⟨isAgg219,sizeOf219⟩) (R1.tmp rfl)) gy ⟨rfl,rfl⟩
   ·simp only[dh] at bB;have h2:=bB;rw[if_pos (Decidable.byContradiction fun h=>h2 (agF.2 h))] at hX;refine aP "iayy" ?_;refine WL.val (V.build (vs:=[(0,_),(1,_)]) ⟨ak rfl,ak rfl,trivial⟩ rfl (TK _ _)) rfl (aP "vd" ?_);subst hX;exact aG.ret (H':=F) (bI.two rfl (R1.cO rfl ⟨isAgg219,sizeOf219⟩) (R1.tmp rfl)) gy ⟨rfl,rfl⟩
theorem Un:aL prog 147 #[] K F (pt cB):=by
 refine aC.en func147 ntmps147 ?_;refine aP "aw" fun b0=> ?_;refine aj "T" ?_;refine WL.t1 call202 rfl (iK (n:=4) aK) rfl ?_;refine WL.t1 call202 rfl (iK (n:=5) aK) rfl ?_;refine WL.t1 call203 rfl (zD aK) rfl ?_;refine WL.t2 call199 rfl rfl (dM aK (CP _)) rfl ?_;refine WL.t1 call143 rfl (u6 (AJ (bZ _ _))) rfl ?_;rw[ajE];refine aP "!w" fun b1=> ?_;refine aP "vxyv3" ?_;exact aG.ret (H':=F) (bI.one rfl (R1.cO rfl ⟨isAgg219,sizeOf219⟩)) gy ⟨rfl,rfl⟩
end
theorem EL{B:Nat}{l:List Nat}(hB:0<B)(h:aB B l)(j:Nat):l.getD j 0=vl B l/B^j%B:=by
 rcases Nat.lt_or_ge j l.length with hj | hj
 ·exact (Hy h hj).symm
 ·have h1:vl B l<B^j:=Nat.lt_of_lt_of_le (nT h) (Nat.pow_le_pow_right hB hj);rw[div_eq_of_lt h1];simp[getD,getElem?_eq_none hj]
theorem Qc(x B i:Nat):x/B^i=x/B^(i+1)*B+x/B^i%B:=by grind [Nat.pow_succ,Nat.div_div_eq_div_mul,div_add_mod']
theorem L8{x y k:Nat}(h:x/k<y/k):x<y:=by grind [Nat.lt_or_ge,Nat.div_le_div_right]
def sQ(x y:Nat):Int:=if x<y then-1 else if y<x then 1 else 0
theorem XA{B L m q c:Nat}(hB:0<B)(hq:q<L)(hm:m/B^q+c<B):(bH B L m).set q (m/B^q%B+c)=bH B L (m+B^q*c):=by
 obtain⟨j,hj⟩:∃j,L=q+(j+1):=⟨L-q-1,by omega⟩;subst hj;have h1:(m+B^q*c)/B^q=m/B^q+c:=add_mul_div_left _ _ (Nat.pow_pos hB);have h2:bH B q (m+B^q*c)=bH B q m:=by rw[←oF,add_mul_mod_self_left,oF]
 rw[zB B q (j+1) m,zB B q (j+1) (m+B^q*c),h1,h2,set_append,aH,if_neg ay,Nat.sub_self];congr 1;have h3:m/B^q<B:=ay;rw[bH,bH,set_cons_zero,mod_eq_of_lt h3,mod_eq_of_lt hm,div_eq_of_lt h3,div_eq_of_lt hm]
structure Row(K:World)(H:List aA)(v:Value)(n:Nat):Prop where
 ex:∃A m cap ws,v= .slice A m cap∧Seq K H A m 1 (av .u64 ws)∧aB 18446744073709551616 ws∧vl 18446744073709551616 ws=n∧m≤1000∧(0<m→ws.getD (m-1) 0≠0)∧m≤cap
section
variable{K:World}{F:List aA}
theorem TN{A:Option Addr}{m cap i:Nat}{ws:List Nat}(hs:Seq K F A m 1 (av .u64 ws)):aL prog 299 #[.slice A m cap,.i ((i:Nat):Int)] K F (.int .u64 ((ws.getD i 0:Nat):Int)):=by
 have hlen:ws.length=m:=by have :=hs.len;rwa [au,Nat.mul_one] at this
 refine aC.en func299 ntmps299 ?_;refine aP "afco~fk" (aX (fun aN=> ?_) fun aN=> ?_)
 ·simp only[dh] at aN;refine aj "ec" ?_;refine WL.val (V.kI (v:= .int .u64 ((ws.getD i 0:Nat):Int)) LK (ak rfl) (ak rfl) (hr:=fun _=>Seq.rF hs ay)) rfl ?_;refine WL.val (V.dY (v:= .int .u64 ((ws.getD i 0:Nat):Int)) isAgg306 (ak rfl) (fun _=>Seq.rF hs ay)) rfl ?_;exact aj "d$" trivial
 ·simp only[dh] at aN;refine aj "iI" ?_;exact qR F rfl rfl gy ⟨by rw[show ws.getD i 0=0 by simp[getD,getElem?_eq_none (show ws.length≤i by omega)]];rfl,rfl⟩
theorem Je{A:Option Addr}{m cap:Nat}{ws:List Nat}(hs:Seq K F A m 1 (av .u64 ws))(hm:m≤1000)(hc:m≤cap):aC prog 300 #[.slice A m cap] K F (fun v H'=>H'=F∧∃m',v= .slice A m' cap∧m'≤m∧vl 18446744073709551616 (ws.take m')=vl 18446744073709551616 ws∧(0<m'→ws.getD (m'-1) 0≠0)):=by
 have hlen:ws.length=m:=by have :=hs.len;rwa [au,Nat.mul_one] at this
 refine aC.en func300 ntmps300 ?_;refine aj "atu" ?_;refine WC.loop (σ:=Nat) (fun q=>[(0,.slice A q cap)]) (fun _=>F) (fun q=>q≤m∧vl 18446744073709551616 (ws.take q)=vl 18446744073709551616 ws) (fun q=>q) m ⟨Nat.le_refl _,by rw[take_of_length_le ay]⟩ bM cu ?_;rintro q ⟨hq,hv⟩;refine aP "ro~<c88~~e" ?_;refine WL.bG (oj:=_) rfl rfl rfl GC.t (V.rV (j:=1) (OV.g rfl id) (ak rfl)) rfl ?_;refine WL.bG (oj:=_) rfl rfl rfl GC.t (V.kI (m:=q) (j:=q-1) (v:= .int .u64 ((ws.getD (q-1) 0:Nat):Int)) LK (OV.g rfl id) (OV.g rfl id) (hb:=fun hc=>by simp at hc;omega) (hr:=fun hc=>Seq.rF hs (by simp at hc;omega))) rfl ?_;refine WL.bG (oj:=_) rfl rfl rfl GC.t (V.dY (v:= .int .u64 ((ws.getD (q-1) 0:Nat):Int)) isAgg306 (OV.g rfl id) (fun hc=>Seq.rF hs (by simp at hc;omega))) rfl ?_;refine WL.bG (oj:=_) rfl rfl rfl GC.t (V.I5 (j:=0) (OV.g rfl id) (ak rfl)) rfl ?_;refine aj "Vk" (aX (fun aN=> ?_) fun aN=> ?_)
 ·simp only[He] at aN;have h0:=aN;refine aP "iuQo~~%" ?_;refine WL.val (V.slice (m:=q) (cap:=cap) (l:=0) (h:=q-1) (u:=cap) LK (ak rfl) OO.none (OO.some (ak rfl) (fun _=>rfl)) OO.none (by simp) ay ay ay) rfl ?_;refine aj "4" ?_;refine⟨q-1,⟨by show q-1≤m;omega, ?_⟩,(by show q-1<q;omega),.cons (look_eq rfl (by rw[zQ,Nat.sub_zero,Nat.sub_zero])) (.nil _),fun w h=>h⟩;show vl 18446744073709551616 (ws.take (q-1))=_;have h1:=Df (B:=18446744073709551616) ws (q-1) ay;rw[show q-1+1=q by omega,h0.2,Nat.mul_zero,Nat.add_zero] at h1;rw[←h1,hv]
 ·simp only[He] at aN;have h0:=aN;refine aj "Red" ?_;refine qR F rfl rfl gy ⟨rfl,q,rfl,hq,hv,fun h=> ?_⟩;rcases h0 with h0 | h0
  ·omega
  ·exact h0
theorem FI{A B:Option Addr}{m m2 cap cap2:Nat}{xs ys:List Nat}(hs:Seq K F A m 1 (av .u64 xs))(rJ:Seq K F B m2 1 (av .u64 ys))(hx:aB 18446744073709551616 xs)(hy:aB 18446744073709551616 ys)(hm:m≤1000)(hm2:m2≤1000) :
 aL prog 258 #[.slice A m cap,.slice B m2 cap2] K F (.i (sQ (vl 18446744073709551616 xs) (vl 18446744073709551616 ys))):=by
 have hlen:xs.length=m:=by have :=hs.len;rwa [au,Nat.mul_one] at this
 have pF:ys.length=m2:=by have :=rJ.len;rwa [au,Nat.mul_one] at this
 refine aC.en func258 ntmps258 ?_;refine aj "afoco" ?_;refine WL.val (V.aI (v':= .i ((Nat.max m m2:Nat):Int)) (V.max (ak rfl) (ak rfl)) (fun _=>by congr 1;show max (m:Int) (m2:Int)=((max m m2:Nat):Int);omega)) rfl ?_;refine WL.val (V.CV (ak rfl) (ak rfl) (fun _=>by have :Nat.max m m2=max m m2:=rfl;omega)) rfl ?_;refine aj "gu" ?_;refine WC.loop (σ:=Nat) (fun i=>[(0,.slice A m cap),(1,.slice B m2 cap2),(5,.i ((i:Int)-1))]) (fun _=>F) (fun i=>i≤Nat.max m m2∧vl 18446744073709551616 xs/18446744073709551616^i=vl 18446744073709551616 ys/18446744073709551616^i) (fun i=>i) (Nat.max m m2) ⟨Nat.le_refl _,by
  have h1:=nT hx;have h2:=nT hy;rw[div_eq_of_lt (Nat.lt_of_lt_of_le h1 (Nat.pow_le_pow_right aK (by rw[hlen];exact Nat.le_max_left _ _))),div_eq_of_lt (Nat.lt_of_lt_of_le h2 (Nat.pow_le_pow_right aK (by rw[pF];exact Nat.le_max_right _ _)))]⟩ bM cu ?_
 rintro i ⟨hi,he⟩;have hmx:Nat.max m m2≤1000:=Nat.max_le.2 ⟨hm,hm2⟩;refine aj "r~ik" (aX (fun aN=> ?_) fun aN=> ?_)
 ·simp only[dh] at aN;obtain⟨i,rfl⟩:∃q,i=q+1:=⟨i-1,by omega⟩;rw[show ((i+1:Nat):Int)-1=((i:Nat):Int) by omega];have ex:=Qc (vl 18446744073709551616 xs) 18446744073709551616 i;have ey:=Qc (vl 18446744073709551616 ys) 18446744073709551616 i;rw[←EL aK hx] at ex;rw[←EL aK hy] at ey;refine aj "1c" ?_;refine WL.t2 call299 rfl rfl (TN hs) rfl ?_;refine aj "z" ?_;refine WL.t2 call299 rfl rfl (TN rJ) rfl ?_;refine aP "mguec~fgE" (aX (fun aR=> ?_) fun aR=> ?_)
  ·simp only[dh] at aR;have h1:=aR;refine aj "I" ?_;exact qR F rfl rfl gy ⟨by rw[sQ,if_pos (L8 (k:=18446744073709551616^i) ay)],rfl⟩
  ·simp only[dh] at aR;have h1:=aR;refine aj "ec" ?_;refine WL.val (V.abg (ak rfl) (ak rfl)) rfl ?_;refine aj "gE" (aX (fun bB=> ?_) fun bB=> ?_)
   ·simp only[dh] at bB;have h2:=bB;refine aj "I" ?_;have h3:vl 18446744073709551616 ys<vl 18446744073709551616 xs:=L8 (k:=18446744073709551616^i) ay;exact qR F rfl rfl gy ⟨by rw[sQ,if_neg ay,if_pos h3],rfl⟩
   ·simp only[dh] at bB;have h2:=bB;refine aj "ih~B4" ?_;exact⟨i,⟨by show i≤_;omega,by rw[ex,ey,he];omega⟩,(by show i<i+1;omega),.cons rfl bM,fun w h=>h⟩
 ·simp only[dh] at aN;refine aj "RI" ?_;obtain rfl:i=0:=by omega
  rw[Nat.pow_zero,Nat.div_one,Nat.div_one] at he;exact qR F rfl rfl gy ⟨by rw[sQ,if_neg ay,if_neg ay],rfl⟩
end
structure Rw where
 b:Nat
 L:Nat
 m:Nat
 cap:Nat
 n:Nat
abbrev Rw.v(r:Rw):Value:= .slice (some ⟨r.b,0,none⟩) r.m r.cap
abbrev Rw.A(r:Rw):aA:=ah r.b 306 (av .u64 (bH 18446744073709551616 r.L r.n))
structure Rw.Ok(r:Rw):Prop where
 mL:r.m≤r.L
 L:r.L≤1000
 cap:r.m≤r.cap
 lt:r.n<18446744073709551616^r.m
 top:0<r.m→r.n/18446744073709551616^(r.m-1)%18446744073709551616≠0
theorem Rw.seq{r:Rw}(h:r.Ok){K:World}{H:List aA}:Seq K (r.A::H) (some ⟨r.b,0,none⟩) r.m 1 (av .u64 (bH 18446744073709551616 r.m r.n)) :=
 Seq.akP (aH _ _ _) (by rw[←Dz h.mL];exact take_prefix _ _)
theorem Rw.vl{r:Rw}(h:r.Ok):vl 18446744073709551616 (bH 18446744073709551616 r.m r.n)=r.n:=by rw[xO,mod_eq_of_lt h.lt]
section
variable{K:World}{F:List aA}
theorem Qh{b L cap n:Nat}(hL:L≤1000)(hc:L≤cap)(hn:n<18446744073709551616^L):aC prog 300 #[.slice (some ⟨b,0,none⟩) L cap] K (ah b 306 (av .u64 (bH 18446744073709551616 L n))::F) (fun v H'=>∃r:Rw,r.Ok∧r.n=n∧r.b=b∧r.L=L∧v=r.v∧H'=r.A::F):=by
 refine (Je (ws:=bH 18446744073709551616 L n) (Seq.qc (aH _ _ _)) hL hc).mono ?_;rintro v H' ⟨rfl,m',rfl,h1,h2,h3⟩;refine⟨⟨b,L,m',cap,n⟩,⟨h1,hL,Nat.le_trans h1 hc, ?_,fun h=> ?_⟩,rfl,rfl,rfl,rfl,rfl⟩
 ·have h4:=nT (B:=18446744073709551616) (l:=(bH 18446744073709551616 L n).take m') (fun y hy=>bJ aK _ _ y (mem_of_mem_take hy));rw[h2,xO,mod_eq_of_lt hn,length_take,aH,Nat.min_eq_left h1] at h4;exact h4
 ·have h:0<m':=h;have h5:=h3 h;rw[bW _ _ _ _ ay] at h5;exact h5
theorem zF{A:Option Addr}{m cap:Nat}{bs:List Nat}(hs:Seq K F A m 1 (av .u8 bs))(h8:aB 256 bs)(hm:m≤2000):aC prog 259 #[.slice A m cap] K F (fun v H'=>∃r:Rw,r.Ok∧r.n=vl 256 bs∧v=r.v∧H'=r.A::F):=by
 have hlen:bs.length=m:=by have :=hs.len;rwa [au,Nat.mul_one] at this
 obtain⟨n,hn⟩:∃n,n=vl 256 bs:=⟨_,rfl⟩;obtain⟨L,hL⟩:∃L,L=(m+7)/8:=⟨_,rfl⟩;have Xb:n<18446744073709551616^L:=by
  have h1:=nT h8;rw[←hn,hlen] at h1;refine Nat.lt_of_lt_of_le h1 ?_;rw[show (18446744073709551616:Nat)=256^8 by decide,←Nat.pow_mul];exact Nat.pow_le_pow_right aK ay
 rw[←hn];refine aC.en func259 ntmps259 ?_;refine aj "ajo" ?_;refine WL.val (V.wU (j:=7) (ak rfl) (ak rfl)) rfl (WL.val (V.Yr (j:=8) (ak rfl) (ak rfl)) rfl ?_);refine WL.VH (m:=L) underlying330 VY (ak rfl) (ak rfl) (fun b10=> ?_);refine aj "foP" ?_;refine WC.loop (σ:=Nat) (fun i=>[(3,.slice (some ⟨b10,0,none⟩) L L),(11,.slice A m cap),(12,.i ((m:Nat):Int)),(13,.i ((i:Nat):Int))]) (fun i=>ah b10 306 (av .u64 (bH 18446744073709551616 L (n%256^i)))::F) (fun i=>i≤m) (fun i=>m-i) 0 (zero_le _) bM (fun w h=>Sat.aS h (by rw[Nat.pow_zero,mod_one,rH])) ?_;rintro i hi;refine aP "a~fBE" (aX (fun aN=> ?_) fun aN=> ?_)
 ·simp only[dh] at aN;have hb8:=h8.at_ aK i;have hq:i/8<L:=ay;refine aj "1" ?_;refine WL.val (V.kI (v:= .int .u8 ((bs.getD i 0:Nat):Int)) eu (ak rfl) (ak rfl) (hr:=fun _=>by repeat (first | exact Seq.rF hs ay | apply Rd.up))) rfl ?_;refine WL.val (V.dY (v:= .int .u8 ((bs.getD i 0:Nat):Int)) isAgg5 (ak rfl) (fun _=>by repeat (first | exact Seq.rF hs ay | apply Rd.up))) rfl ?_;refine aP "mg~!F0F1" ?_;refine UA.val 2 rfl (fun _=>V.Yr (j:=8) (ak rfl) (ak rfl)) ?_;refine aP "~%3~=4F5" ?_;refine UA.val 6 rfl (fun _=>V.rG (i:=bs.getD i 0) runUnderlying5 runUnderlying306 (ak rfl) (fun _=>kV (M:=18446744073709551616) rfl rfl ay)) ?_;refine aP "F7" ?_;refine UA.val 8 rfl (fun _=>V.XB (j:=8) (ak rfl) (ak rfl)) ?_;refine UA.val 9 rfl (fun _=>V.Pb (i:=8) (ak rfl) (ak rfl)) ?_;refine UA.val 10 rfl (fun _=>V.Jk (M:=18446744073709551616) (ak rfl) (ak rfl)) ?_;refine UA.val 11 rfl (fun _=>V.ZG (i:=(bH 18446744073709551616 L (n%256^i)).getD (i/8) 0) (j:=bs.getD i 0*2^(8*(i%8))%18446744073709551616) 64 (ak rfl) (ak rfl) (fun _=>⟨Nat.lt_of_lt_of_le (aB.at_ (bJ aK _ _) aK _) aK,mod_lt _ aK⟩)) ?_;refine aP "~%<" ?_;refine UA.at_ 13 rfl sizeOf306 (fun _=>ak rfl) (fun _=>ak rfl) ?_;refine aP "_" fun CJ=> ?_;simp only[map_cons,map_nil,cons_append,nil_append];refine aP "q<;" ?_;refine⟨i+1,(by show i+1≤m;omega),(by show m-(i+1)<m-i;omega),.cons rfl bM,fun w h=>Sat.aS h ?_⟩;obtain⟨q,r,hqr⟩:∃q r,q=i/8∧r=i%8:=⟨_,_,rfl,rfl⟩;obtain⟨hq1,DX⟩:=hqr;have e0:256^i=18446744073709551616^q*256^r:=by rw[show (18446744073709551616:Nat)=256^8 by decide,←Nat.pow_mul,←Nat.pow_add];congr 1;omega
  have e1:bs.getD i 0=n/256^i%256:=by rw[hn,Hy h8 ay]
  have hx:n%256^i/18446744073709551616^q<256^r:=Nat.div_lt_of_lt_mul (by rw[←e0];exact mod_lt _ (Nat.pow_pos aK));have hr8:256^r*256≤18446744073709551616:=by rw[←Nat.pow_succ,show (18446744073709551616:Nat)=256^8 by decide];exact Nat.pow_le_pow_right aK ay
  have hy:256^r*(n/256^i%256)+256^r≤18446744073709551616:=by
   have :256^r*(n/256^i%256+1)≤256^r*256:=mul_le_mul_left _ (mod_lt _ aK);rw[Nat.mul_add,Nat.mul_one] at this;omega
  have h2:(2:Nat)^(8*r)=256^r:=by rw[Nat.pow_mul]
  have hp:0<256^r:=Nat.pow_pos aK;rw[←hq1,←DX,e1,bW _ _ _ _ ay,mod_succ n 256 i,e0,Nat.mul_assoc,←XA aK ay (by rw[←e0];omega),←e0];congr 2;rw[h2,Nat.mul_comm (n/256^i%256),mod_eq_of_lt (show 256^r*(n/256^i%256)<18446744073709551616 by omega),Nat.or_comm,Nat.mul_comm (256^r),←h2,vT (by rw[h2];exact Nat.lt_of_le_of_lt (mod_le _ _) hx),Nat.add_comm]
 ·simp only[dh] at aN;refine aj "W" ?_;obtain rfl:i=m:=by omega
  rw[mod_eq_of_lt (show n<256^i by have h1:=nT h8;rwa [←hn,hlen] at h1)];refine aj "h" ?_;refine WL.c1 call300 rfl (Qh ay (Nat.le_refl _) Xb) rfl ?_;rintro _ _ ⟨r,hr,rn,rb,rL,rfl,rfl⟩;refine aj "d" ?_;exact qR (r.A::F) rfl rfl cu ⟨r,hr,rn,rfl,rfl⟩
end
end Go.Proofs.YtcedojacbhnbiaaGreat
