import Derived.Test.YtcedojacbhnbiaaGreatP10
import Derived.Laws.LoneSync
set_option autoImplicit true
set_option linter.all false
set_option maxHeartbeats 2000000
set_option maxRecDepth 20000
set_option relaxedAutoImplicit true
namespace Go.Proofs.YtcedojacbhnbiaaGreat
open Go.Sl Go.RowKit Tryz List Nat
set_option exponentiation.threshold 5000
def Ub(pub:Nat)(msg:List Nat)(r s:Nat):Nat :=
 if (eZ pub).isSome∧(eZ r).isSome then (if kE pub msg r s then 0 else 191) else 170
theorem NP(h:¬((eZ pub).isSome∧(eZ r).isSome)):kE pub msg r s=false:=by grind [kE]
theorem aem:Ub pub msg r s=0↔kE pub msg r s=true:=by grind [Ub,NP]
theorem X8(y:Nat):(vS y).1<fP:=Pv _
theorem Js(h:eZ b=some p):p.1<fP∧p.2<fP:=by
 rw[Jh] at h;obtain⟨y,l⟩:∃y,y=b%57896044618658097711785492504343953926634992332820282019728792003956564819968:=⟨_,Z⟩;obtain⟨u,d⟩:∃u,u=vS y:=⟨_,Z⟩;have k:u.1<fP:=by rw[d];exact X8 y
 obtain⟨z,j⟩:∃z,z=uF 0 u.1:=⟨_,Z⟩;have e:z<fP:=by rw[j];exact nX _ _
 rw[←l,←d,←j] at h;clear d l j;obtain⟨c,m⟩:∃c:Prop,c=(b<57896044618658097711785492504343953926634992332820282019728792003956564819968):=⟨_,Z⟩;by_cases a:y<fP∧u.2=true
 ·rw[if_pos a] at h;split at h
  ·injection h with h;rw[←h];exact⟨k,a.1⟩
  ·split at h
   ·cases h
   ·injection h with h;rw[←h];exact⟨e,a.1⟩
 ·rw[if_neg a] at h;cases h
theorem M8:∀(vs cs:List Value) (o:Nat) (r:List Value),cs.drop o=vs++r→Oc cs o vs
 | [],_,_,_,_=>trivial
 | v::vs,cs,o,r,h=>by
  refine⟨?_,M8 vs cs (o+1) r ?_⟩
  ·have h1:=getElem?_drop (xs:=cs) (i:=o) (j:=0);rw[h] at h1;rw[Nat.add_zero] at h1;rw[←h1];rfl
  ·have a:(cs.drop o).drop 1=vs++r:=by rw[h];rfl
   rwa [drop_drop] at a
theorem ZL(k:IntKind)(l r:List Nat):Oc (av k (l++r)) 0 (av k l):=by grind [M8,dx]
theorem abh(k:IntKind)(x:Nat)(r:List Nat):Oc (av k (bG 256 32 x++r)) 32 (av k r):=by simp_all [M8,kQ,drop_left',aI,append_nil]
theorem ajL(a b:Nat×Nat):iW prog 10000 219 (pt a) (pt b) (decide (bG 256 32 a.1=bG 256 32 b.1)&&(decide (bG 256 32 a.2=bG 256 32 b.2)&&true)) :=
 iW.struct underlying219 (by kernel_rfl)
  (JZ.cons aN (yH ⟨isAgg97,sizeOf97⟩ (vs:=av .u8 (bG 256 32 a.1)) Z (ZL _ _ _)) (yH ⟨isAgg97,sizeOf97⟩ (vs:=av .u8 (bG 256 32 b.1)) Z (ZL _ _ _)) (iW.av underlying97 sizeOf5 isAgg5 underlying5 (jl _) (jl _))
  (JZ.cons aN (yH ⟨isAgg97,sizeOf97⟩ (vs:=av .u8 (bG 256 32 a.2)) Z (abh _ _ _)) (yH ⟨isAgg97,sizeOf97⟩ (vs:=av .u8 (bG 256 32 b.2)) Z (abh _ _ _)) (iW.av underlying97 sizeOf5 isAgg5 underlying5 (jl _) (jl _)) JZ.nil))
theorem aeu(p q:Nat×Nat):(Pm p q).1<fP∧(Pm p q).2<fP:=by
 unfold Pm;cases uK p&&uK q
 ·exact⟨(by show 0<fP;decide),(by show 0<fP;decide)⟩
 ·exact PY _
theorem VP(hx:x<fP)(hy:y<fP):decide (bG 256 32 x=bG 256 32 y)=beq x y:=by
 rw[Bool.eq_iff_iff,decide_eq_true_eq,beq_eq];constructor
 ·intro h;have a:=yA (zR hx);have b:=yA (zR hy);rw[←a,h,b]
 ·intro h;rw[h]
theorem WK(agt:pub<115792089237316195423570985008687907853269984665640564039457584007913129639936)(hs:Seq K F A m 1 (av .u8 msg))(h8:aA 256 msg)(hm:m≤10000000)(hsg:Seq K F B 64 1 (av .u8 sg))(akP:aA 256 sg)(bA:64≤cap2) :
 aK prog 84 #[o8 pub,.slice A m cap,.slice B 64 cap2] K F (.i ((Ub pub msg (vl 256 (sg.take 32)) (vl 256 (sg.drop 32)):Nat):Int)):=by
 have Oa:msg.length=m:=by have :=hs.len;rwa [au,Nat.mul_one] at this
 have mR:sg.length=64:=by have :=hsg.len;rwa [au,Nat.mul_one] at this
 obtain⟨r,W⟩:∃r,r=vl 256 (sg.take 32):=⟨_,Z⟩;obtain⟨s,RF⟩:∃s,s=vl 256 (sg.drop 32):=⟨_,Z⟩;rw[←W,←RF];have I:(sg.take 32).length=32:=by rw[length_take];omega
 have D:(sg.drop 32).length=32:=by rw[length_drop];omega
 have uM:aA 256 (sg.take 32):=λy hy=>akP y (mem_of_mem_take hy);have pI:aA 256 (sg.drop 32):=λy hy=>akP y (mem_of_mem_drop hy);have pG:r<115792089237316195423570985008687907853269984665640564039457584007913129639936:=by have :=nH uM;rw[I,←W] at this;exact this
 have acj:s<115792089237316195423570985008687907853269984665640564039457584007913129639936:=by have :=nH pI;rw[D,←RF] at this;exact this
 have kr:bG 256 32 r=sg.take 32:=by rw[W,ng uM I]
 have UN:bG 256 32 s=sg.drop 32:=by rw[RF,ng pI D]
 have X:Seq K F B 32 1 (av .u8 (bG 256 32 r)):=by rw[kr,←dU];exact hsg.take aN
 have GL:Seq K F (if cap2=32 then B else B.map (·.add (32*1))) 32 1 (av .u8 (bG 256 32 s)):=by
  have n:=Seq.rD (l:=32) (h:=64) (u:=cap2) hsg aN aN bA;rw[take_of_length_le ay] at n;rw[UN];exact n
 obtain⟨B2,J⟩:∃B2,B2=(if cap2=32 then B else B.map (·.add (32*1))):=⟨_,Z⟩;rw[←J] at GL;refine aB.en func84 ntmps84 ?_;refine aj "a." λO=> ?_;refine aj "fj" ?_;refine WL.val (V.XV (j:=64) (ak Z) (ak Z)) Z<|aj "h" (aW (λn=> ?_) λn=> ?_)
 ·skip
  refine aj "D" ?_;exact absurd n (by simp)
 ·skip
  refine aP "|~NM0" ?_;refine UA.val 1 Z (λ_=>V.aG (v':= .slice B 32 cap2) (V.slice (m:=64) (cap:=cap2) (l:=0) (h:=32) (u:=cap2) dO (ak Z) OO.none (OO.some (ak Z) (λ_=>Z)) OO.none (by simp) ay ay ay) (λ_=>by rw[zK,Nat.sub_zero,Nat.sub_zero])) ?_;refine UA.val 2 Z (λ_=>V.abP runUnderlying97 (ak Z) (λ_=>by decide)) ?_;refine UA.val 3 Z (λ_=>V.VD (l:=bG 256 32 r) ⟨isAgg97,sizeOf97⟩ (ak Z) (λ_=>X.up)) ?_;refine aP "M4" ?_;refine UA.val 5 Z (λ_=>V.aG (v':= .slice B2 32 (cap2-32)) (V.slice (m:=64) (cap:=cap2) (l:=32) (h:=64) (u:=cap2) dO (ak Z) (OO.some (ak Z) (λ_=>Z)) OO.none OO.none (by simp) ay ay ay) (λ_=>by rw[J])) ?_;refine UA.val 6 Z (λ_=>V.abP runUnderlying97 (ak Z) (λ_=>by decide)) ?_;refine UA.val 7 Z (λ_=>V.VD (l:=bG 256 32 s) ⟨isAgg97,sizeOf97⟩ (ak Z) (λ_=>GL.up)) ?_;refine UA.alloc 8 Z zeroValue97 (cs:=av .u8 (replicate 32 0)) Z ?_;refine UA.alloc 9 Z zeroValue97 (cs:=av .u8 (replicate 32 0)) Z ?_;refine UA.gq 10 1 Z Z sizeOf97 (λ_ _=>ak Z) (λ_ _=>ak Z) ?_;refine UA.gq 11 0 Z Z sizeOf97 (λ_ _=>ak Z) (λ_ _=>ak Z) ?_;refine aP "(" λBS=> ?_;simp only[map_cons,map_nil,cons_append,nil_append];refine aP "aB" ?_;refine WL.t1 call143 Z (vO agt) Z<|aP "5z" λb9=> ?_;refine aP "AwB" ?_;refine WL.t1 call143 Z (vO pG) Z<|aP "5z" λL=> ?_;refine aP "Af~~n%" ?_;refine WL.bI (oj:=_) Z Z Z GC.f (V.XV (j:=0) (OV.g Z id) (ak Z)) Z<|aj "Ih" (aW (λQ=> ?_) λQ=> ?_)
  ·have N7:¬((eZ pub).isSome∧(eZ r).isSome):=by
    revert Q;cases (eZ pub).isSome<;>cases (eZ r).isSome<;>simp
   refine aj "D" ?_;exact qR F Z Z eO ⟨by rw[Ub,if_neg N7];rfl,Z⟩
  ·have N7:(eZ pub).isSome∧(eZ r).isSome:=by
    revert Q;cases (eZ pub).isSome<;>cases (eZ r).isSome<;>simp
   obtain⟨p,e⟩:=Option.isSome_iff_exists.1 N7.1;obtain⟨q,Y⟩:=Option.isSome_iff_exists.1 N7.2;have l7:=Js e;have Ki:=Js Y;obtain⟨k,N⟩:∃k,k=HV (bG 256 32 r++bG 256 32 pub++msg):=⟨_,Z⟩;have vX:k<115792089237316195423570985008687907853269984665640564039457584007913129639936:=by rw[N];exact aaT _
   obtain⟨a,R⟩:∃a,a=nN s 32 cB:=⟨_,Z⟩;obtain⟨b,U⟩:∃b,b=Pm q (nN k 32 p):=⟨_,Z⟩;have hv:kE pub msg r s=(blt s cL&&(beq a.1 b.1&&beq a.2 b.2)):=by unfold kE;rw[e,Y,R,U,N]
   rw[show Ub pub msg r s=if kE pub msg r s then 0 else 191 by rw[Ub,if_pos N7],hv];rw[show (eZ pub).getD (0,0)=p by rw[e];rfl,show (eZ r).getD (0,0)=q by rw[Y];rfl];refine aP "|aB" ?_;refine WL.t1 call144 Z (YU acj) Z<|aj "9h" (aW (λG=> ?_) λG=> ?_)
   ·simp only[oK] at G;have EJ:blt s cL=false:=Bool.eq_false_iff.2 λh=>G (le_of_ble_eq_true h);rw[EJ];exact aj "D+" trivial
   ·simp only[oK] at G;have EJ:blt s cL=true:=ble_eq_true_of_le G;rw[EJ];refine WC.skip<|WC.join (σ:=Nat) (λd=>[(3,ptr O 0),(6,.i 0),(8,ptr (BS 9) 0),(9,ptr b9 0),(11,ptr L 0),(13,ptr d 0)]) (λd=>ah d 97 (av .u8 (bG 256 32 k))::ah L 219 (av .u8 (Wj q))::ah b9 219 (av .u8 (Wj p))::ah (BS 9) 97 (av .u8 (bG 256 32 s))::F) (λ_=>True) ?_ ?_
    ·skip
     refine aj "~X" ?_;refine WA.t 0 Z (V.kM zJ (ak Z)) ?_;refine WA.t 1 Z (V.kM zJ (ak Z)) ?_;refine aj "n2" ?_;refine WA.two (i:=3) (j:=5) cO (by kernel_rfl) Z Z ?_ ?_
     ·refine WL.buildSlice (E:=34) (cs:=[_,_,_]) (vs:=[(0,_),(1,_),(2,_)]) ⟨ak Z,ak Z,ak Z,trivial⟩ Z (zW _ _ _ _ _ _ _ _ _) Z (λS=>WL.nil<|WA.two (i:=4) (j:=5) eO (by kernel_rfl) Z Z ?_ ?_)
      ·refine WL.c1 call145 Z ((Mt (ps:=[⟨some ⟨BS 8,0,none⟩,32,32,bG 256 32 r⟩,⟨some ⟨O,0,none⟩,32,32,bG 256 32 pub⟩,⟨A,m,cap,msg⟩]) (by repeat (first | exact Seq.all Z | apply Seq.up)) (λp e=>by
        simp only[mem_cons,not_mem_nil,or_false] at e;rcases e with rfl | rfl | rfl
        ·repeat (first | exact Seq.pz (jl _) | apply Seq.up)
        ·repeat (first | exact Seq.pz (jl _) | apply Seq.up)
        ·repeat (first | exact hs | apply Seq.up)) (by
        intro x C;simp only[flatMap_cons,flatMap_nil,append_nil,mem_append] at C;rcases C with h | h | h
        ·exact bL aN _ _ x h
        ·exact bL aN _ _ x h
        ·exact h8 x h) (by simp only[flatMap_cons,flatMap_nil,append_nil,length_append,aI];omega) aN).eq (v':=o8 k) (by rw[N];simp)) Z ?_
       rintro _ H ⟨rfl,n⟩;subst H;refine aP "cm5z" λd=> ?_;refine aP "cm6A*~s" ?_;exact⟨d,trivial,.cons Z bC,λw h=>h.bg 7 [0,2,3,4] Z⟩
      ·refine aP "z" λd=> ?_;refine aj "cm4" ?_;refine WL.c1 call145 Z ((Mt (ps:=[⟨some ⟨BS 8,0,none⟩,32,32,bG 256 32 r⟩,⟨some ⟨O,0,none⟩,32,32,bG 256 32 pub⟩,⟨A,m,cap,msg⟩]) (by repeat (first | exact Seq.all Z | apply Seq.up)) (λp e=>by
        simp only[mem_cons,not_mem_nil,or_false] at e;rcases e with rfl | rfl | rfl
        ·repeat (first | exact Seq.pz (jl _) | apply Seq.up)
        ·repeat (first | exact Seq.pz (jl _) | apply Seq.up)
        ·repeat (first | exact hs | apply Seq.up)) (by
        intro x C;simp only[flatMap_cons,flatMap_nil,append_nil,mem_append] at C;rcases C with h | h | h
        ·exact bL aN _ _ x h
        ·exact bL aN _ _ x h
        ·exact h8 x h) (by simp only[flatMap_cons,flatMap_nil,append_nil,length_append,aI];omega) aN).eq (v':=o8 k) (by rw[N];simp)) Z ?_
       rintro _ H ⟨rfl,n⟩;subst H;refine aP "cm6A*~s" ?_;exact⟨d,trivial,.cons Z bC,λw h=>h.bg 7 [0,2,3,4] Z⟩
     ·refine aP "z" λd=> ?_;refine aj "cm3" ?_;refine WL.buildSlice (E:=34) (cs:=[_,_,_]) (vs:=[(0,_),(1,_),(2,_)]) ⟨ak Z,ak Z,ak Z,trivial⟩ Z (zW _ _ _ _ _ _ _ _ _) Z (λS=> ?_);refine aj "cm4" ?_;refine WL.c1 call145 Z ((Mt (ps:=[⟨some ⟨BS 8,0,none⟩,32,32,bG 256 32 r⟩,⟨some ⟨O,0,none⟩,32,32,bG 256 32 pub⟩,⟨A,m,cap,msg⟩]) (by repeat (first | exact Seq.all Z | apply Seq.up)) (λp e=>by
       simp only[mem_cons,not_mem_nil,or_false] at e;rcases e with rfl | rfl | rfl
       ·repeat (first | exact Seq.pz (jl _) | apply Seq.up)
       ·repeat (first | exact Seq.pz (jl _) | apply Seq.up)
       ·repeat (first | exact hs | apply Seq.up)) (by
       intro x C;simp only[flatMap_cons,flatMap_nil,append_nil,mem_append] at C;rcases C with h | h | h
       ·exact bL aN _ _ x h
       ·exact bL aN _ _ x h
       ·exact h8 x h) (by simp only[flatMap_cons,flatMap_nil,append_nil,length_append,aI];omega) aN).eq (v':=o8 k) (by rw[N];simp)) Z ?_
      rintro _ H ⟨rfl,n⟩;subst H;refine aP "cm6A*~s" ?_;exact⟨d,trivial,.cons Z bC,λw h=>h.bg 7 [1,2,3,4] Z⟩
    ·skip
     rintro d -
     refine aP "L~N" ?_;refine UA.val 0 Z (λ_=>V.kM zJ (ak Z)) ?_;refine UA.call (vs:=[]) 1 Z call147 (λ_=>trivial) (λH' P=>Sn) ?_;refine UA.call (vs:=[_,_]) 2 Z call146 (λ_=>⟨ak Z,ak Z,trivial⟩) (λH' P=>(ES ((Seq.pz (jl _)).up.up.up.sat P) (bL aN _ _) aN (p:=cB) ⟨by decide,by decide⟩).eq (v':= .tuple #[pt a,.i ((if uK cB then 0 else 170:Nat):Int)]) (by rw[yA acj,R])) ?_;refine aP "M3~84~85" ?_;refine UA.alloc 6 Z zeroValue219 (cs:=av .u8 (replicate 64 0)) Z ?_;refine aP "~~~e~a8(" λx2=> ?_;simp only[map_cons,map_nil,cons_append,nil_append];refine aP "L~N" ?_;refine UA.val 0 Z (λ_=>V.kM zJ (ak Z)) ?_;refine aP "~f1" ?_;refine UA.call (vs:=[_,_]) 2 Z call146 (λ_=>⟨ak Z,ak Z,trivial⟩) (λH' P=>(ES ((Seq.pz (jl _)).up.sat P) (bL aN _ _) aN (p:=p) (Sr l7)).eq (v':= .tuple #[pt (nN k 32 p),.i ((if uK p then 0 else 170:Nat):Int)]) (by rw[yA vX])) ?_;refine aP "M3~84~85" ?_;refine UA.alloc 6 Z zeroValue219 (cs:=av .u8 (replicate 64 0)) Z ?_;refine aP "~~~e~a8(" λx0=> ?_;simp only[map_cons,map_nil,cons_append,nil_append];refine aP "aBB" ?_;refine WL.t2 call148 Z Z ((Yc (Sr Ki) (Sr (Lf _ _ _))).eq (v':= .tuple #[pt b,.i ((if uK q&&uK (nN k 32 p) then 0 else 170:Nat):Int)]) (by rw[U])) Z<|aP "5AGaBB" ?_;refine WL.val (V.Qc (by kernel_rfl) (ak Z) (ak Z) (ajL a b)) Z ?_;have M:a.1<fP∧a.2<fP:=by rw[R];exact Lf _ _ _
     have BI:b.1<fP∧b.2<fP:=by rw[U];exact aeu _ _
     rw[VP M.1 BI.1,VP M.2 BI.2];refine aj "h" (aW (λT=> ?_) λT=> ?_)
     ·have UR:(beq a.1 b.1&&beq a.2 b.2)=false:=by
       revert T;cases beq a.1 b.1<;>cases beq a.2 b.2<;>simp
      refine aj "D" ?_;exact qR F Z Z eO ⟨by rw[UR];rfl,Z⟩
     ·have UR:(beq a.1 b.1&&beq a.2 b.2)=true:=by
       revert T;cases beq a.1 b.1<;>cases beq a.2 b.2<;>simp
      refine aj "qD" ?_;exact qR F Z Z eO ⟨by rw[UR];rfl,Z⟩
theorem YP:∀n:Nat,n<32→1≤n→(18446744073709551616-n) &&& 31=32-n:=by decide
theorem CQ(i:Nat):2^(i+1)/2=2^i:=by omega
theorem acA(h:n%2^(i+1)=0):n ||| 2^i=n+2^i:=by
 have a:=div_add_mod n (2^(i+1));rw[h,Nat.add_zero,Nat.mul_comm] at a;rw[←a,uU (Nat.pow_lt_pow_right aN ay)]
theorem Vy(h:n%2^(i+1)=0):n%2^i=0:=by simp_all [Nat.pow_succ,mod_mul]
theorem abb(hX:X=18446744073709551616*u+v)(hu:u<18446744073709551616):((u/18446744073709551616+(u%18446744073709551616+v/18446744073709551616+0)/18446744073709551616)%18446744073709551616=0∧((u%18446744073709551616+v/18446744073709551616+0)%18446744073709551616<L∨((u%18446744073709551616+v/18446744073709551616+0)%18446744073709551616=L∧v%18446744073709551616=0))∧v<18446744073709551616*18446744073709551616∧L<18446744073709551616)↔(X≤L*18446744073709551616∧v<18446744073709551616*18446744073709551616∧L<18446744073709551616):=by omega
theorem Us(hx:x<4294967296)(h1:1≤n)(h63:n<32):aK prog 334 #[.int .u32 ((x:Nat):Int),.i (-((n:Nat):Int))] K F (.int .u32 ((pR x n:Nat):Int)):=by
 refine aB.en func334 ntmps334 ?_;refine aj "ai" ?_;refine WL.val (V.aG (v':= .int .u64 ((18446744073709551616-n:Nat):Int)) (V.FC runUnderlying3 runUnderlying232 (ak Z)) (λ_=>by congr 1;show ((-(n:Int))%18446744073709551616)=_;omega)) Z<|WL.val (V.CY (j:=31) 64 (ak Z) (ak Z) (λ_=>⟨by show 18446744073709551616-n<18446744073709551616;omega,by decide⟩)) Z ?_;rw[YP n h63 h1];refine aj "0" ?_;refine WL.val (V.G7 (M:=4294967296) (ak Z) (ak Z)) Z (aj "x" ?_);refine WL.val (V.ake (i:=32) (M:=18446744073709551616) (ak Z) (ak Z)) Z (aP "~%" ?_);rw[show 32-(32-n)=n by omega];exact WL.val (V.Zv (i:=x*2^(32-n)%4294967296) (j:=x/2^n) 32 (ak Z) (ak Z) (λ_=>⟨mod_lt _ aN,Nat.lt_of_le_of_lt (div_le_self _ _) hx⟩)) Z<|aj "d+" trivial
theorem ig(hx:x<4294967296)(h1:1≤n)(h63:n<32):aK prog 313 #[.int .u32 ((x:Nat):Int),.i ((n:Nat):Int)] K F (.int .u32 ((pR x n:Nat):Int)):=by
 refine aB.en func313 ntmps313 ?_;refine aj "a0~~_" ?_;exact WL.t2 call334 Z Z (Us hx h1 h63) Z<|aj "d+" trivial
theorem Kg(hp:p<1000):aK prog 333 #[.i ((p:Nat):Int)] K F (.int .u32 ((fQ p 2 64 37 0%4294967296:Nat):Int)):=by
 obtain⟨R,m⟩:∃R,R=fQ p 2 64 37 0:=⟨_,Z⟩;rw[←m];refine aB.en func333 ntmps333 ?_;refine aj "awtaos" ?_;refine WC.loop (σ:=Nat×Nat) (λs=>[(0,.i ((p:Nat):Int)),(3,.int .u64 ((s.2:Nat):Int)),(4,.int .u64 ((2^s.1/2:Nat):Int))]) (λ_=>F)
  (λs=>s.1≤37∧s.2%2^s.1=0∧s.2+2^s.1≤2^37∧fQ p 2 64 s.1 s.2=R) (λs=>s.1) (37,0) ⟨Nat.le_refl _,zero_mod _,by show 0+2^37≤2^37;omega,m.symm⟩ bC cO ?_
 rintro⟨k,n⟩ ⟨hk,h0,hl,hq⟩;dsimp only at hk h0 hl hq ⊢;refine aP "r~`h" (aW (λaL=> ?_) λaL=> ?_)
 ·simp only[cZ] at aL;obtain⟨i,rfl⟩:∃q,k=q+1:=⟨k-1,by rcases eq_zero_or_pos k with h | h; (subst h;exact absurd aL aN);omega⟩;rw[CQ];rw[fQ] at hq;rw[Nat.pow_succ] at hl;have d:0<2^i:=Nat.pow_pos aN;refine aj "Yb" ?_;refine WL.val (V.Zv (i:=n) (j:=2^i) 64 (ak Z) (ak Z) (λ_=>⟨by omega,by omega⟩)) Z ?_;rw[acA h0];obtain⟨x,l⟩:∃x,x=n+2^i:=⟨_,Z⟩;rw[←l] at hq ⊢;have uI:x<18446744073709551616:=ay;have e:x^2=x*x:=Nat.pow_two x;rw[e] at hq;have L8:=Vy h0;refine aj "0" ?_;refine WL.t2 call293 Z Z (ku uI uI) Z<|aj "H0" ?_;refine WL.val (V.qQ (i:=p) runUnderlying3 runUnderlying306 (ak Z) (λ_=>kN (M:=18446744073709551616) Z Z ay)) Z<|aP "~l%~z" ?_;refine WL.bI (oj:=_) Z Z Z GC.f (V.qQ (i:=p) runUnderlying3 runUnderlying306 (OV.g Z id) (λ_=>kN (M:=18446744073709551616) Z Z ay)) Z<|WL.bI (oj:=_) Z Z Z GC.f (V.G5 (OV.g Z id) (OV.g Z id)) Z (aj "~~1~~N" ?_);refine WL.bI (oj:=_) Z Z Z GC.ct (V.G5 (j:=0) (OV.g Z id) (ak Z)) Z<|aj "~~2Ih" (aW (λa=> ?_) λa=> ?_)
  ·simp only[Bool.or_eq_true,Bool.or_eq_false_iff,Gi] at a;rw[show ble (x*x) (p*2^64)=true from ble_eq_true_of_le ay,cond_true] at hq;refine aP "gO~~ON" ?_;exact⟨(i,x),⟨by show i≤37;omega,by show x%2^i=0;rw[l,add_mod_right];exact L8,by show x+2^i≤2^37;omega,hq⟩,(by show i<i+1;omega),.cons Z bC,λw h=>h⟩
  ·simp only[Bool.or_eq_true,Bool.or_eq_false_iff,Gi] at a;rw[show ble (x*x) (p*2^64)=false from Bool.eq_false_iff.2 λh=>by have :=le_of_ble_eq_true h;omega,cond_false] at hq;refine aP "qg~~ON" ?_;exact⟨(i,n),⟨by show i≤37;omega,L8,by show n+2^i≤2^37;omega,hq⟩,(by show i<i+1;omega),.cons Z bC,λw h=>h⟩
 ·simp only[cZ] at aL;have b:k=0:=by
   rcases eq_zero_or_pos k with h | h
   ·exact h
   ·obtain⟨i,rfl⟩:∃q,k=q+1:=⟨k-1,by omega⟩;have d:0<2^i:=Nat.pow_pos aN;rw[CQ] at aL;omega
  refine aj "W" ?_;subst b;rw[fQ] at hq;refine aP "g~~~yd" ?_;exact qR F Z Z eO ⟨by rw[hq],Z⟩
theorem OA(hp:p<1000):aK prog 332 #[.i ((p:Nat):Int)] K F (.int .u32 ((fQ p 3 96 36 0%4294967296:Nat):Int)):=by
 obtain⟨R,C⟩:∃R,R=fQ p 3 96 36 0:=⟨_,Z⟩;rw[←C];refine aB.en func332 ntmps332 ?_;refine aj "awtaos" ?_;refine WC.loop (σ:=Nat×Nat) (λs=>[(0,.i ((p:Nat):Int)),(3,.int .u64 ((s.2:Nat):Int)),(4,.int .u64 ((2^s.1/2:Nat):Int))]) (λ_=>F)
  (λs=>s.1≤36∧s.2%2^s.1=0∧s.2+2^s.1≤2^36∧fQ p 3 96 s.1 s.2=R) (λs=>s.1) (36,0) ⟨Nat.le_refl _,zero_mod _,by show 0+2^36≤2^36;omega,C.symm⟩ bC cO ?_
 rintro⟨k,n⟩ ⟨hk,h0,hl,hq⟩;dsimp only at hk h0 hl hq ⊢;refine aP "r~`h" (aW (λaL=> ?_) λaL=> ?_)
 ·simp only[cZ] at aL;obtain⟨i,rfl⟩:∃q,k=q+1:=⟨k-1,by rcases eq_zero_or_pos k with h | h; (subst h;exact absurd aL aN);omega⟩;rw[CQ];rw[fQ] at hq;rw[Nat.pow_succ] at hl;have m:0<2^i:=Nat.pow_pos aN;refine aj "Yb" ?_;refine WL.val (V.Zv (i:=n) (j:=2^i) 64 (ak Z) (ak Z) (λ_=>⟨by omega,by omega⟩)) Z ?_;rw[acA h0];obtain⟨x,B⟩:∃x,x=n+2^i:=⟨_,Z⟩;rw[←B] at hq ⊢;have uI:x<18446744073709551616:=ay;have r:x^3=x*x*x:=by rw[Nat.pow_succ,Nat.pow_two]
  rw[r] at hq;have L8:=Vy h0;have gL:x≤2^36:=ay;have ar9:x*x≤2^36*2^36:=Nat.mul_le_mul gL gL;obtain⟨a,u⟩:∃a,a=x*x/18446744073709551616:=⟨_,Z⟩;obtain⟨d,aou⟩:∃d,d=x*x%18446744073709551616:=⟨_,Z⟩;have anT:a<1000:=ay;have akk:d<18446744073709551616:=ay;have H:x*x*x=18446744073709551616*(a*x)+d*x:=by
   rw[show x*x=18446744073709551616*a+d by omega,Nat.add_mul,Nat.mul_assoc]
  have G:a*x<18446744073709551616:=Nat.lt_of_le_of_lt (Nat.mul_le_mul (Nat.le_of_lt anT) gL) aN;have D:d*x<18446744073709551616*18446744073709551616:=mul_lt_mul'' akk uI;have aeK:=abb (L:=p*2^32%18446744073709551616) H G;refine aj "0" ?_;refine WL.t2 call293 Z Z ((ku uI uI).eq (v':= .tuple #[.int .u64 ((a:Nat):Int),.int .u64 ((d:Nat):Int)]) (by rw[u,aou])) Z<|aj "H0" ?_;refine WL.t2 call293 Z Z (ku (show a<18446744073709551616 by omega) uI) Z<|aj "H0" ?_;refine WL.t2 call293 Z Z (ku akk uI) Z<|aP "H0~=H0~0i" ?_;refine WL.val (V.qQ (i:=p) runUnderlying3 runUnderlying306 (ak Z) (λ_=>kN (M:=18446744073709551616) Z Z ay)) Z<|WL.val (V.G7 (j:=32) (M:=18446744073709551616) (ak Z) (ak Z)) Z (aP "i~~+b!!" ?_);refine WL.bI (oj:=_) Z Z Z GC.t (V.zI (OV.g Z id) (OV.g Z id)) Z (aj "~~<~~j~~j" ?_);refine WL.bI (oj:=_) Z Z Z GC.cf (V.G5 (OV.g Z id) (OV.g Z id)) Z (WL.bI (oj:=_) Z Z Z GC.cf (V.move (OV.g Z id)) Z (aj "~~N" ?_));refine WL.bI (oj:=_) Z Z Z GC.ct (V.G5 (j:=0) (OV.g Z id) (ak Z)) Z (WL.bI (oj:=_) Z Z Z GC.cf (V.Ci (OV.g Z id) (OV.g Z id)) Z ?_);refine aj "~~=Sh" (aW (λe=> ?_) λe=> ?_)
  ·simp only[Bool.or_eq_true,Bool.or_eq_false_iff,Gi] at e;have y:p*2^32%18446744073709551616<18446744073709551616:=mod_lt _ aN;have b:p*2^32%18446744073709551616*18446744073709551616=p*2^96:=by rw[mod_eq_of_lt ay];omega
   rw[b] at aeK;rw[show ble (x*x*x) (p*2^96)=true from ble_eq_true_of_le (aeK.1 ⟨e.1,e.2,D,y⟩).1,cond_true] at hq;refine aP "gO~~ON" ?_;exact⟨(i,x),⟨by show i≤36;omega,by show x%2^i=0;rw[B,add_mod_right];exact L8,by show x+2^i≤2^36;omega,hq⟩,(by show i<i+1;omega),.cons Z bC,λw h=>h⟩
  ·simp only[Bool.or_eq_true,Bool.or_eq_false_iff,Gi] at e;have y:p*2^32%18446744073709551616<18446744073709551616:=mod_lt _ aN;have b:p*2^32%18446744073709551616*18446744073709551616=p*2^96:=by rw[mod_eq_of_lt ay];omega
   rw[b] at aeK;rw[show ble (x*x*x) (p*2^96)=false from Bool.eq_false_iff.2 λh=>by have I:=aeK.2 ⟨le_of_ble_eq_true h,D,y⟩;omega,cond_false] at hq;refine aP "qg~~ON" ?_;exact⟨(i,n),⟨by show i≤36;omega,L8,by show n+2^i≤2^36;omega,hq⟩,(by show i<i+1;omega),.cons Z bC,λw h=>h⟩
 ·simp only[cZ] at aL;have l:k=0:=by
   rcases eq_zero_or_pos k with h | h
   ·exact h
   ·obtain⟨i,rfl⟩:∃q,k=q+1:=⟨k-1,by omega⟩;have m:0<2^i:=Nat.pow_pos aN;rw[CQ] at aL;omega
  refine aj "W" ?_;subst l;rw[fQ] at hq;refine aP "g~~~yd" ?_;exact qR F Z Z eO ⟨by rw[hq],Z⟩
theorem MW:aK prog 311 #[] K F (.agg (av .u32 uR).toArray):=by
 have k:∀i,i<8→fQ ((fB.take 8).getD i 0) 2 64 37 0%4294967296=uR.getD i 0:=λi j=>C9 (f:=λp=>fQ p 2 64 37 0%4294967296) adG (by rw[length_take];exact j);have Gs:uR.length=8:=by decide
 obtain⟨b,uL⟩:∃b,b=uR:=⟨_,Z⟩;obtain⟨a,qY⟩:∃a,a=fB.take 8:=⟨_,Z⟩;have l7:∀i,a.getD i 0<1000:=by rw[qY];exact λi=>yU i 8
 have JO:a.length=8:=by rw[qY];decide
 rw[←qY,←uL] at k;rw[←uL] at Gs ⊢;refine aB.en func311 ntmps311 ?_;refine aP "az" λd=> ?_;refine aP "Qz" λe=> ?_;refine aj "Q" ?_;refine WL.c1 call275 Z (nY (n:=8) aN) Z ?_;rintro _ _ ⟨A,cap,rfl,rfl⟩;refine aj "HfjR" ?_;rw[←qY];refine WC.loop (σ:=Nat×List Nat) (λs=>[(0,ptr d 0),(1,ptr e 0),(10,.slice A 8 cap),(11,.i ((8:Nat):Int)),(12,.i ((s.1:Nat):Int))]) (λs=>aV (.slice A 8 cap) 3 1 8 (av .i64 a)::ah e 349 (av .u32 s.2)::ah d 349 (av .u32 (replicate 8 0))::F)
  (λs=>s.1≤8∧s.2=b.take s.1++replicate (8-s.1) 0) (λs=>8-s.1) (0,replicate 8 0) ⟨zero_le _,Z⟩ bC cO ?_
 rintro⟨i,ws⟩ ⟨j,hw⟩;dsimp only at j hw ⊢;have UQ:ws.length=8:=by rw[hw,length_append,length_take,length_replicate];omega
 refine aP "a~lGJ" (aW (λaL=> ?_) λaL=> ?_)
 ·simp only[cZ] at aL;have hr:Rd K (aV (.slice A 8 cap) 3 1 8 (av .i64 a)::ah e 349 (av .u32 ws)::ah d 349 (av .u32 (replicate 8 0))::F) _ _:=Seq.qH (aV.seq (by rw[au,JO])) (show i<8 by omega);refine aj "Y" ?_;refine WL.val (V.jW (v:= .i ((a.getD i 0:Nat):Int)) eB (ak Z) (ak Z) (hr:=λ_=>hr)) Z<|WL.val (V.d9 (v:= .i ((a.getD i 0:Nat):Int)) isAgg3 (ak Z) (λ_=>hr)) Z<|aj "lOb" ?_;refine WL.t1 call333 Z ((Kg (l7 i)).eq (v':= .int .u32 ((b.getD i 0:Nat):Int)) (by rw[k i ay])) Z<|aP "~K~Bcp=>" ?_;exact⟨(i+1,_),⟨by show i+1≤8;omega,by dsimp only;rw[hw];exact qp Gs ay⟩,(by show 8-(i+1)<8-i;omega),.cons Z bC,λw h=>h⟩
 ·simp only[cZ] at aL;refine aj "W" ?_;obtain rfl:i=8:=by omega
  rw[Nat.sub_self,replicate_zero,append_nil,take_of_length_le ay] at hw;rw[hw];refine aP "pBA6" ?_;exact aF.ret (H':=F) (bJ.one Z (R1.dh (l:=b) Z ⟨isAgg349,sizeOf349⟩)) eO ⟨Z,Z⟩
theorem J9:aK prog 310 #[] K F (.agg (av .u32 rC).toArray):=by
 have k:∀i,i<64→fQ ((fB.take 64).getD i 0) 3 96 36 0%4294967296=rC.getD i 0:=λi j=>C9 (f:=λp=>fQ p 3 96 36 0%4294967296) adp (by rw[length_take];exact j);have Gs:rC.length=64:=by decide
 obtain⟨b,uL⟩:∃b,b=rC:=⟨_,Z⟩;obtain⟨a,qY⟩:∃a,a=fB.take 64:=⟨_,Z⟩;have l7:∀i,a.getD i 0<1000:=by rw[qY];exact λi=>yU i 64
 have JO:a.length=64:=by rw[qY];decide
 rw[←qY,←uL] at k;rw[←uL] at Gs ⊢;refine aB.en func310 ntmps310 ?_;refine aP "az" λd=> ?_;refine aP "Qz" λe=> ?_;refine aj "Q" ?_;refine WL.c1 call275 Z (nY (n:=64) aN) Z ?_;rintro _ _ ⟨A,cap,rfl,rfl⟩;refine aj "HfjR" ?_;rw[←qY];refine WC.loop (σ:=Nat×List Nat) (λs=>[(0,ptr d 0),(1,ptr e 0),(10,.slice A 64 cap),(11,.i ((64:Nat):Int)),(12,.i ((s.1:Nat):Int))]) (λs=>aV (.slice A 64 cap) 3 1 64 (av .i64 a)::ah e 348 (av .u32 s.2)::ah d 348 (av .u32 (replicate 64 0))::F)
  (λs=>s.1≤64∧s.2=b.take s.1++replicate (64-s.1) 0) (λs=>64-s.1) (0,replicate 64 0) ⟨zero_le _,Z⟩ bC cO ?_
 rintro⟨i,ws⟩ ⟨j,hw⟩;dsimp only at j hw ⊢;have UQ:ws.length=64:=by rw[hw,length_append,length_take,length_replicate];omega
 refine aP "a~lGJ" (aW (λaL=> ?_) λaL=> ?_)
 ·simp only[cZ] at aL;have hr:Rd K (aV (.slice A 64 cap) 3 1 64 (av .i64 a)::ah e 348 (av .u32 ws)::ah d 348 (av .u32 (replicate 64 0))::F) _ _:=Seq.qH (aV.seq (by rw[au,JO])) (show i<64 by omega);refine aj "Y" ?_;refine WL.val (V.jW (v:= .i ((a.getD i 0:Nat):Int)) eB (ak Z) (ak Z) (hr:=λ_=>hr)) Z<|WL.val (V.d9 (v:= .i ((a.getD i 0:Nat):Int)) isAgg3 (ak Z) (λ_=>hr)) Z<|aj "lOb" ?_;refine WL.t1 call332 Z ((OA (l7 i)).eq (v':= .int .u32 ((b.getD i 0:Nat):Int)) (by rw[k i ay])) Z<|aP "~K~Bcp=>" ?_;exact⟨(i+1,_),⟨by show i+1≤64;omega,by dsimp only;rw[hw];exact qp Gs ay⟩,(by show 64-(i+1)<64-i;omega),.cons Z bC,λw h=>h⟩
 ·simp only[cZ] at aL;refine aj "W" ?_;obtain rfl:i=64:=by omega
  rw[Nat.sub_self,replicate_zero,append_nil,take_of_length_le ay] at hw;rw[hw];refine aP "pBA6" ?_;exact aF.ret (H':=F) (bJ.one Z (R1.dh (l:=b) Z ⟨isAgg348,sizeOf348⟩)) eO ⟨Z,Z⟩
def s1E(x:Nat):Nat:=pR x 6 ^^^ pR x 11 ^^^ pR x 25
def s0E(x:Nat):Nat:=pR x 2 ^^^ pR x 13 ^^^ pR x 22
def z1E(x:Nat):Nat:=pR x 17 ^^^ pR x 19 ^^^ x/2^10
def z0E(x:Nat):Nat:=pR x 7 ^^^ pR x 18 ^^^ x/2^3
theorem jL(hx:x<4294967296):pR x n<2^32:=adY hx
theorem VO(hx:x<4294967296):x/2^n<2^32:=Nat.lt_of_le_of_lt (div_le_self _ _) hx
theorem fZ(s data:List Nat):gV s data=QD 4294967296 s (yK 4294967296 s1E s0E rC (xu 4294967296 z1E z0E 48 (abA 4 16 data [])).reverse (O8.of s)):=rfl
theorem aiI:∀ {l:List Nat},4≤l.length→l.take 4=[l.getD 0 0,l.getD 1 0,l.getD 2 0,l.getD 3 0]
 | _::_::_::_::_,_=>rfl
theorem be4(ha:a<256)(hb:b<256)(hc:c<256)(hd:d<256):a*2^24%4294967296 ||| b*2^16%4294967296 ||| c*2^8%4294967296 ||| d=be [a,b,c,d]:=by
 rw[mod_eq_of_lt (show a*2^24<4294967296 by omega),mod_eq_of_lt (show b*2^16<4294967296 by omega),mod_eq_of_lt (show c*2^8<4294967296 by omega),uU (show b*2^16<2^24 by omega),
  show a*2^24+b*2^16=(a*256+b)*2^16 by omega,uU (show c*2^8<2^16 by omega),show (a*256+b)*2^16+c*2^8=((a*256+b)*256+c)*2^8 by omega,uU (show d<2^8 by omega)]
 show _=256*(256*(256*(256*0+a)+b)+c)+d;omega
theorem vC(hr:∀i,i<64→Rd K F (some ⟨br,o+i,none⟩) (.int .u32 ((rC.getD i 0:Nat):Int)))(hs:Seq K F A 64 1 (av .u8 data))(hd:aA 256 data)(mR:s.length=8)(RF:aA 4294967296 s)(kS:64≤cap) :
 aK prog 269 #[ptr br o,.agg (av .u32 s).toArray,.slice A 64 cap] K F (.agg (av .u32 (gV s data)).toArray):=by
 have wF:data.length=64:=by have :=hs.len;rwa [au,Nat.mul_one] at this
 obtain⟨B,uL⟩:∃B,B=rC:=⟨_,Z⟩;have vX:B.length=64:=by rw[uL];decide
 have anm:aA 4294967296 B:=by rw[uL];unfold aA;decide
 rw[fZ,←uL];rw[←uL] at hr;obtain⟨Rw,L⟩:∃R,R=xu 4294967296 z1E z0E 48 (abA 4 16 data []):=⟨_,Z⟩;rw[←L];refine aB.en func269 ntmps269 ?_;refine aj "a." λI=> ?_;refine aP "z" λG=> ?_;refine aP "Qz" λQ=> ?_;refine aj "crcs" ?_;refine WC.loop (σ:=Nat×List Nat) (λs=>[(0,ptr br o),(2,.slice A 64 cap),(4,ptr I 0),(6,ptr G 0),(7,ptr Q 0),(24,.i ((s.1:Nat):Int))]) (λt=>ah Q 348 (av .u32 t.2)::ah G 349 (av .u32 (replicate 8 0))::ah I 349 (av .u32 s)::F)
  (λt=>t.1≤64∧t.2.length=64∧aA 4294967296 t.2∧(∀j,t.1≤j→t.2.getD j 0=0)∧xu 4294967296 z1E z0E (48-(t.1-16)) (abA 4 (16-t.1) (data.drop (4*t.1)) (t.2.take t.1).reverse)=Rw) (λt=>64-t.1) (0,replicate 64 0) ⟨zero_le _,length_replicate,aA.wJ aN,λj _=>y7 _ _,L.symm⟩ bC cO ?_
 rintro⟨i,ws⟩ ⟨hi,UQ,nS,hz,m⟩;dsimp only at hi UQ nS hz m ⊢;refine WC.sr (WL.val (V.zI (j:=64) (ak Z) (ak Z)) Z ?_);refine aj "GJ" (aW (λaL=> ?_) λaL=> ?_)
 ·simp only[cZ] at aL;refine aj "Yf" ?_;refine WL.val (V.zI (j:=16) (ak Z) (ak Z)) Z<|aj "h" (aW (λU=> ?_) λU=> ?_)
  ·simp only[cZ] at U;rw[show 16-i=16-(i+1)+1 by omega,Fx,drop_drop,show 48-(i-16)=48-(i+1-16) by omega] at m;refine WC.seq ?_;have r:∀j,data.getD j 0<256:=λj=>hd.at_ aN j;have kr:∀j,4*i+j<64→Rd K F (A.map (·.add (4*i+j))) (.int .u8 ((data.getD (4*i+j) 0:Nat):Int)):=λj hj=>Seq.qH hs hj;have Y:be ((data.drop (4*i)).take 4)=be [data.getD (4*i) 0,data.getD (4*i+1) 0,data.getD (4*i+2) 0,data.getD (4*i+3) 0]:=by
    rw[aiI (by rw[length_drop];omega),getD_drop,getD_drop,getD_drop,getD_drop,Nat.add_zero]
   rw[Y] at m;have N:=be4 (r (4*i)) (r (4*i+1)) (r (4*i+2)) (r (4*i+3));refine aP "~<M0M1M2~~33" ?_;refine UA.val 4 Z (λ_=>V.jW (v:= .int .u8 ((data.getD (4*i+0) 0:Nat):Int)) dO (ak Z) (ak Z) (hr:=λ_=>(kr 0 ay).up.up)) ?_;refine UA.val 5 Z (λ_=>V.d9 (v:= .int .u8 ((data.getD (4*i+0) 0:Nat):Int)) isAgg5 (ak Z) (λ_=>(kr 0 ay).up.up)) ?_;refine UA.val 6 Z (λ_=>V.qQ (i:=data.getD (4*i+0) 0) runUnderlying5 runUnderlying339 (ak Z) (λ_=>kN (M:=4294967296) Z Z (by have :=r (4*i+0);omega))) ?_;refine UA.val 7 Z (λ_=>V.G7 (j:=24) (M:=4294967296) (ak Z) (ak Z)) ?_;refine aP "M8M9~~3:" ?_;refine UA.val 11 Z (λ_=>V.wN (j:=1) (ak Z) (ak Z)) ?_;refine UA.val 12 Z (λ_=>V.jW (v:= .int .u8 ((data.getD (4*i+1) 0:Nat):Int)) dO (ak Z) (ak Z) (hr:=λ_=>(kr 1 ay).up.up)) ?_;refine UA.val 13 Z (λ_=>V.d9 (v:= .int .u8 ((data.getD (4*i+1) 0:Nat):Int)) isAgg5 (ak Z) (λ_=>(kr 1 ay).up.up)) ?_;refine UA.val 14 Z (λ_=>V.qQ (i:=data.getD (4*i+1) 0) runUnderlying5 runUnderlying339 (ak Z) (λ_=>kN (M:=4294967296) Z Z (by have :=r (4*i+1);omega))) ?_;refine UA.val 15 Z (λ_=>V.G7 (j:=16) (M:=4294967296) (ak Z) (ak Z)) ?_;refine UA.val 16 Z (λ_=>V.Zv (i:=data.getD (4*i) 0*2^24%4294967296) (j:=data.getD (4*i+1) 0*2^16%4294967296) 32 (ak Z) (ak Z) (λ_=>⟨mod_lt _ aN,mod_lt _ aN⟩)) ?_;refine aP "MAMB~~3C" ?_;refine UA.val 20 Z (λ_=>V.wN (j:=2) (ak Z) (ak Z)) ?_;refine UA.val 21 Z (λ_=>V.jW (v:= .int .u8 ((data.getD (4*i+2) 0:Nat):Int)) dO (ak Z) (ak Z) (hr:=λ_=>(kr 2 ay).up.up)) ?_;refine UA.val 22 Z (λ_=>V.d9 (v:= .int .u8 ((data.getD (4*i+2) 0:Nat):Int)) isAgg5 (ak Z) (λ_=>(kr 2 ay).up.up)) ?_;refine UA.val 23 Z (λ_=>V.qQ (i:=data.getD (4*i+2) 0) runUnderlying5 runUnderlying339 (ak Z) (λ_=>kN (M:=4294967296) Z Z (by have :=r (4*i+2);omega))) ?_;refine UA.val 24 Z (λ_=>V.G7 (j:=8) (M:=4294967296) (ak Z) (ak Z)) ?_;refine UA.val 25 Z (λ_=>V.Zv (i:=data.getD (4*i) 0*2^24%4294967296 ||| data.getD (4*i+1) 0*2^16%4294967296) (j:=data.getD (4*i+2) 0*2^8%4294967296) 32 (ak Z) (ak Z) (λ_=>⟨or_lt_two_pow (mod_lt _ aN) (mod_lt _ aN),mod_lt _ aN⟩)) ?_;refine aP "MJMK~~3L" ?_;refine UA.val 29 Z (λ_=>V.wN (j:=3) (ak Z) (ak Z)) ?_;refine UA.val 30 Z (λ_=>V.jW (v:= .int .u8 ((data.getD (4*i+3) 0:Nat):Int)) dO (ak Z) (ak Z) (hr:=λ_=>(kr 3 ay).up.up)) ?_;refine UA.val 31 Z (λ_=>V.d9 (v:= .int .u8 ((data.getD (4*i+3) 0:Nat):Int)) isAgg5 (ak Z) (λ_=>(kr 3 ay).up.up)) ?_;refine UA.val 32 Z (λ_=>V.qQ (i:=data.getD (4*i+3) 0) runUnderlying5 runUnderlying339 (ak Z) (λ_=>kN (M:=4294967296) Z Z (by have :=r (4*i+3);omega))) ?_;refine UA.val 33 Z (λ_=>V.aG (v':= .int .u32 ((be [data.getD (4*i) 0,data.getD (4*i+1) 0,data.getD (4*i+2) 0,data.getD (4*i+3) 0]:Nat):Int)) (V.Zv (i:=data.getD (4*i) 0*2^24%4294967296 ||| data.getD (4*i+1) 0*2^16%4294967296 ||| data.getD (4*i+2) 0*2^8%4294967296) (j:=data.getD (4*i+3) 0) 32 (ak Z) (ak Z) (λ_=>⟨or_lt_two_pow (or_lt_two_pow (mod_lt _ aN) (mod_lt _ aN)) (mod_lt _ aN),Nat.lt_trans (r _) aN⟩)) (λ_=>by rw[N])) ?_;refine aP "~VR" ?_;refine UA.at_ 35 Z sizeOf339 (λ_=>ak Z) (λ_=>ak Z) ?_;refine aP "(" λBS=> ?_;simp only[map_cons,map_nil,cons_append,nil_append];refine aP "Kp=>" ?_;refine⟨(i+1,be [data.getD (4*i) 0,data.getD (4*i+1) 0,data.getD (4*i+2) 0,data.getD (4*i+3) 0] |> ws.set i),⟨by show i+1≤64;omega,by show (ws.set i _).length=64;rw[length_set];exact UQ,nS.set (by rw[←N];exact or_lt_two_pow (n:=32) (or_lt_two_pow (or_lt_two_pow (mod_lt _ aN) (mod_lt _ aN)) (mod_lt _ aN)) (Nat.lt_trans (r _) aN)),λk S=> ?_, ?_⟩,(by show 64-(i+1)<64-i;omega),.cons Z bC,λw h=>h⟩
   ·dsimp only at S ⊢;rw[getD_set_ne ay];exact hz k ay
   ·dsimp only;rw[Gu ay,show 4*(i+1)=4*i+4 by omega];exact m
  ·simp only[cZ] at U;refine aj "|" ?_;have C:=nS.at_ aN (i-15);have D:=nS.at_ aN (i-2);rw[show 48-(i-16)=48-(i+1-16)+1 by omega,IJ,show 16-i=0 by omega,abA,VF,oo ay ay,oo ay ay,oo ay ay,oo ay ay] at m;refine aP "~NM0" ?_;refine UA.val 1 Z (λ_=>V.rD (j:=15) (ak Z) (ak Z)) ?_;refine aP "~V2~C3M4" ?_;refine UA.val 5 Z (λ_=>V.rD (j:=2) (ak Z) (ak Z)) ?_;refine aP "~V6~C7~a8~a9(" λx3=> ?_;simp only[map_cons,map_nil,cons_append,nil_append];refine aP "~<M0M1" ?_;refine UA.val 2 Z (λ_=>V.rD (j:=16) (ak Z) (ak Z)) ?_;refine aP "~V3~~b4M5" ?_;refine UA.call (vs:=[_,_]) 6 Z call313 (λ_=>⟨ak Z,ak Z,trivial⟩) (λH' J=>ig (n:=7) C aN aN) ?_;refine aP "M7" ?_;refine UA.call (vs:=[_,_]) 8 Z call313 (λ_=>⟨ak Z,ak Z,trivial⟩) (λH' J=>ig (n:=18) C aN aN) ?_;refine UA.val 9 Z (λ_=>V.ru 32 (ak Z) (ak Z) (λ_=>⟨jL C,jL C⟩)) ?_;refine aP "M:" ?_;refine UA.val 11 Z (λ_=>V.wK (j:=3) (ak Z) (ak Z)) ?_;refine UA.val 12 Z (λ_=>V.ru 32 (ak Z) (ak Z) (λ_=>⟨xor_lt_two_pow (jL C) (jL C),VO C⟩)) ?_;refine aP "~~p=M>" ?_;refine UA.val 15 Z (λ_=>V.rD (j:=7) (ak Z) (ak Z)) ?_;refine aP "~V@~~bA~~pBMC" ?_;refine UA.call (vs:=[_,_]) 20 Z call313 (λ_=>⟨ak Z,ak Z,trivial⟩) (λH' J=>ig (n:=17) D aN aN) ?_;refine aP "ME" ?_;refine UA.call (vs:=[_,_]) 22 Z call313 (λ_=>⟨ak Z,ak Z,trivial⟩) (λH' J=>ig (n:=19) D aN aN) ?_;refine UA.val 23 Z (λ_=>V.ru 32 (ak Z) (ak Z) (λ_=>⟨jL D,jL D⟩)) ?_;refine aP "MH" ?_;refine UA.val 25 Z (λ_=>V.wK (j:=10) (ak Z) (ak Z)) ?_;refine UA.val 26 Z (λ_=>V.ru 32 (ak Z) (ak Z) (λ_=>⟨xor_lt_two_pow (jL D) (jL D),VO D⟩)) ?_;refine aP "~~pK~VL" ?_;refine UA.at_ 29 Z sizeOf339 (λ_=>ak Z) (λ_=>ak Z) ?_;refine aP "(" λx0=> ?_;simp only[map_cons,map_nil,cons_append,nil_append];refine aP "p=>" ?_;refine⟨(i+1,_),⟨by show i+1≤64;omega,by show (ws.set i _).length=64;rw[length_set];exact UQ,nS.set (mod_lt _ aN),λk S=> ?_, ?_⟩,(by show 64-(i+1)<64-i;omega),.cons Z bC,λw h=>h⟩
   ·dsimp only at S ⊢;rw[getD_set_ne ay];exact hz k ay
   ·dsimp only;rw[Gu ay,show 16-(i+1)=0 by omega,abA];exact m
 ·simp only[cZ] at aL;refine aj "W" ?_;obtain rfl:i=64:=by omega
  rw[take_of_length_le ay] at m;have m:ws.reverse=Rw:=m;have X:Rw.reverse=ws:=by rw[←m,reverse_reverse]
  rw[X];obtain⟨Ro,O⟩:∃R,R=yK 4294967296 s1E s0E B ws (O8.of s):=⟨_,Z⟩;rw[←O];refine aP "~N~~~u0~C1" ?_;refine UA.val 2 Z (λ_=>V.fV (j:=1) EL (ak Z) (ak Z)) ?_;refine aP "~C3" ?_;refine UA.val 4 Z (λ_=>V.fV (j:=2) EL (ak Z) (ak Z)) ?_;refine aP "~C5" ?_;refine UA.val 6 Z (λ_=>V.fV (j:=3) EL (ak Z) (ak Z)) ?_;refine aP "~C7" ?_;refine UA.val 8 Z (λ_=>V.fV (j:=4) EL (ak Z) (ak Z)) ?_;refine aP "~C9" ?_;refine UA.val 10 Z (λ_=>V.fV (j:=5) EL (ak Z) (ak Z)) ?_;refine aP "~C;" ?_;refine UA.val 12 Z (λ_=>V.fV (j:=6) EL (ak Z) (ak Z)) ?_;refine aP "~C=" ?_;refine UA.val 14 Z (λ_=>V.fV (j:=7) EL (ak Z) (ak Z)) ?_;refine aP "~C?~a@~aA~aB~aC~aD~aE~aF~aG(" λx2=> ?_;simp only[map_cons,map_nil,cons_append,nil_append];refine aj "rcs" ?_;refine WC.loop (σ:=Nat×O8) (λt=>[(0,ptr br o),(4,ptr I 0),(6,ptr G 0),(7,ptr Q 0),(11,.int .u32 ((t.2.a:Nat):Int)),(12,.int .u32 ((t.2.b:Nat):Int)),(13,.int .u32 ((t.2.c:Nat):Int)),(14,.int .u32 ((t.2.d:Nat):Int)),(15,.int .u32 ((t.2.e:Nat):Int)),(16,.int .u32 ((t.2.f:Nat):Int)),(17,.int .u32 ((t.2.g:Nat):Int)),(18,.int .u32 ((t.2.h:Nat):Int)),(118,.i ((t.1:Nat):Int))]) (λ_=>ah Q 348 (av .u32 ws)::ah G 349 (av .u32 (replicate 8 0))::ah I 349 (av .u32 s)::F)
   (λt=>t.1≤64∧t.2.Ok 4294967296∧yK 4294967296 s1E s0E (B.drop t.1) (ws.drop t.1) t.2=Ro) (λt=>64-t.1) (0,O8.of s) ⟨zero_le _,O8.Ju aN RF,O.symm⟩ bC cO ?_
  rintro⟨i,a,b,c,d,e,f,g,h⟩ ⟨hi,ho,m⟩;have jh:=ho;obtain⟨x,r,hc,ZB,y,hf,hg,hh⟩:=ho;dsimp only at hi m x r hc ZB y hf hg hh ⊢;refine WC.sr (WL.val (V.zI (j:=64) (ak Z) (ak Z)) Z ?_);refine aj "GJ" (aW (λT=> ?_) λT=> ?_)
  ·simp only[cZ] at T;rw[Io _ _ _ _ ay ay] at m;refine aP "Yt~NM0M1" ?_;refine UA.call (vs:=[_,_]) 2 Z call313 (λ_=>⟨ak Z,ak Z,trivial⟩) (λH' J=>ig (n:=6) y aN aN) ?_;refine aP "M3" ?_;refine UA.call (vs:=[_,_]) 4 Z call313 (λ_=>⟨ak Z,ak Z,trivial⟩) (λH' J=>ig (n:=11) y aN aN) ?_;refine UA.val 5 Z (λ_=>V.ru 32 (ak Z) (ak Z) (λ_=>⟨jL y,jL y⟩)) ?_;refine aP "M6" ?_;refine UA.call (vs:=[_,_]) 7 Z call313 (λ_=>⟨ak Z,ak Z,trivial⟩) (λH' J=>ig (n:=25) y aN aN) ?_;refine UA.val 8 Z (λ_=>V.ru 32 (ak Z) (ak Z) (λ_=>⟨xor_lt_two_pow (jL y) (jL y),jL y⟩)) ?_;refine aP "~~p9M:M;" ?_;refine UA.val 12 Z (λ_=>V.CY 32 (ak Z) (ak Z)) ?_;refine aP "M=" ?_;refine UA.val 14 Z (λ_=>V.ajX (M:=4294967296) (ak Z)) ?_;refine aP "M?" ?_;refine UA.val 16 Z (λ_=>V.CY 32 (ak Z) (ak Z)) ?_;refine UA.val 17 Z (λ_=>V.ru 32 (ak Z) (ak Z)) ?_;refine aP "~~pBMCMD~~&E" ?_;refine UA.val 22 Z (λ_=>V.aG (v':=ptr br (o+i)) (V.YM (j:=(i:Int)) afq (ak Z) (ak Z) (λ_=>by omega)) (λ_=>by simp)) ?_;refine UA.val 23 Z (λ_=>V.d9 (v:= .int .u32 ((B.getD i 0:Nat):Int)) isAgg339 (ak Z) (λ_=>(hr i T).up.up.up)) ?_;refine aP "~~pHMI~VJ~CK~~pL~aM(" λx4=> ?_;simp only[map_cons,map_nil,cons_append,nil_append];refine aj "e" ?_;refine WL.t2 call313 Z Z (ig (n:=2) x aN aN) Z<|WL.mv Z Z (WL.t2 call313 Z Z (ig (n:=13) x aN aN) Z ?_);refine WL.val (V.ru 32 (ak Z) (ak Z) (λ_=>⟨jL x,jL x⟩)) Z<|WL.mv Z Z (WL.t2 call313 Z Z (ig (n:=22) x aN aN) Z ?_);refine WL.val (V.ru 32 (ak Z) (ak Z) (λ_=>⟨xor_lt_two_pow (jL x) (jL x),jL x⟩)) Z<|aP "x~~~fx~~~f" ?_;refine WL.val (V.ru 32 (ak Z) (ak Z)) Z (aP "x~~~f" ?_);refine WL.val (V.ru 32 (ak Z) (ak Z)) Z (aP "~~4Ob~~4xxb~~4xblllllllop=>" ?_);refine⟨(i+1,Ui 4294967296 s1E s0E ⟨a,b,c,d,e,f,g,h⟩ (B.getD i 0) (ws.getD i 0)),⟨by show i+1≤64;omega,Vt aN _ _ jh _ _,m⟩,(by show 64-(i+1)<64-i;omega), ?_,λw h=>h⟩;rw[MV];exact .cons Z bC
  ·simp only[cZ] at T;refine aj "WL" ?_;obtain rfl:i=64:=by omega
   rw[←vX,drop_length] at m;have m:O8.mk a b c d e f g h=Ro:=m;rw[←m];refine aj "gxxxb" ?_;refine WL.val (V.lX (l:=O8.list ⟨a,b,c,d,e,f,g,h⟩) (vs:=[(0,_),(1,_),(2,_),(3,_),(4,_),(5,_),(6,_),(7,_)]) ⟨ak Z,ak Z,ak Z,ak Z,ak Z,ak Z,ak Z,ak Z,trivial⟩ Z (uS _ _ _ _ _ _ _ _)) Z ?_;obtain⟨ad,u⟩:∃ad,ad=QD 4294967296 s ⟨a,b,c,d,e,f,g,h⟩:=⟨_,Z⟩;have abL:ad.length=8:=by rw[u];rfl
   obtain⟨P,Gh⟩:∃P,P=O8.list ⟨a,b,c,d,e,f,g,h⟩:=⟨_,Z⟩;have anl:P.length=8:=by rw[Gh];rfl
   have ahD:∀k,k<8→(s.getD k 0+P.getD k 0)%4294967296=ad.getD k 0:=λk S=>by rw[Gh,u];exact KM S
   rw[←u,←Gh];refine aj "R" ?_;refine WC.loop (σ:=Nat×List Nat) (λt=>[(4,ptr I 0),(6,ptr G 0),(191,.agg (av .u32 P).toArray),(192,.i ((t.1:Nat):Int))]) (λt=>ah Q 348 (av .u32 ws)::ah G 349 (av .u32 (replicate 8 0))::ah I 349 (av .u32 t.2)::F)
    (λt=>t.1≤8∧t.2=ad.take t.1++s.drop t.1) (λt=>8-t.1) (0,s) ⟨zero_le _,Z⟩ bC cO ?_
   rintro⟨i,st⟩ ⟨hi,dL⟩;dsimp only at hi dL ⊢;have qU:st.length=8:=by rw[dL,length_append,length_take,length_drop];omega
   refine aP "a~~sGJ" (aW (λH=> ?_) λH=> ?_)
   ·simp only[cZ] at H;have W:st.getD i 0=s.getD i 0:=by rw[dL];exact Qz abL mR H
    refine aP "Y~~tlO~K~4b~~4" ?_;rw[W,ahD i H];refine aP "~K~Bcp=>" ?_;exact⟨(i+1,_),⟨by show i+1≤8;omega,by dsimp only;rw[dL];exact Oy abL mR H⟩,(by show 8-(i+1)<8-i;omega),.cons Z bC,λw h=>h⟩
   ·simp only[cZ] at H;refine aj "W" ?_;obtain rfl:i=8:=by omega
    rw[take_of_length_le ay,drop_of_length_le ay,append_nil] at dL;rw[dL];refine aP "pBA6" ?_;exact aF.ret (H':=F) (bJ.one Z (R1.dh (l:=ad) Z ⟨isAgg349,sizeOf349⟩)) eO ⟨by rw[u],Z⟩
end Go.Proofs.YtcedojacbhnbiaaGreat
namespace Go.Sl
open Go Go.RowKit Go.Proofs.YtcedojacbhnbiaaGreat List Nat
theorem WL.Z4{T E bytes m q:Nat}(hT:P.underlying T=some (.slice E))(hE:dH P E 1 bytes z)(hx:OV true e x (.int k l))(hy:OV true e y (.int k' r))
 (hl:l=(m:Int)) (hq:r=(q:Int)) (hmq:m≤q) (hb:(bytes:Int)*(q:Int)≤281474976710656) (RH:blt 0 bytes=true) (hz:z.cells= #[z]) (hd:blt d n=true)
 (h:∀b,WL Mo P K n ops rest Q ((d,.slice (some ⟨b,0,none⟩) m q)::e) (ah b E (replicate q z)::H)) :
 WL Mo P K n ops (⟨some d,.makeSlice T x y,ty,pos,af,none⟩::rest) Q e H:=by
 obtain⟨i,B,a,hs,JC,F,G⟩:=hE;subst hl hq JC;have amH:0<i.bytes:=by simpa using RH
 refine WL.makeSlice hT B a hx hy ay ay hb (by
  have C:(1:Int)*(q:Int)≤(i.bytes:Int)*(q:Int):=Int.mul_le_mul_of_nonneg_right ay ay;omega) hd (λb=> ?_)
 have u:=h b;rw[Int.toNat_natCast,Int.toNat_natCast,hs,Nat.mul_one,hz];have D:(madeCells #[z] q).toList=replicate q z:=by
  apply ext_getElem
  ·simp[madeCells]
  ·intro j C u;simp[madeCells,mod_one]
 rw[D];exact u
end Go.Sl
namespace Go.Proofs.YtcedojacbhnbiaaGreat
open Go.Sl Go.RowKit Tryz List Nat
set_option exponentiation.threshold 5000
theorem Ug(hm:m≤1000000000000):aB prog 270 #[.i ((m:Nat):Int)] K F (λv H'=>∃A' M cap',M=(lT 64 8 m).length∧v= .slice A' M cap'∧M≤cap'∧H'=aV (.slice A' M cap') 5 1 M (av .u8 (lT 64 8 m))::F):=by
 obtain⟨R,D⟩:∃R,R=(m+8)%64:=⟨_,Z⟩;refine aB.en func270 ntmps270 ?_;refine aj "aw" ?_;refine WL.Z4 (m:=1) (q:=128) underlying34 yL (ak Z) (ak Z) Z Z aN aN Z Z Z (λy=>WL.sub (H':=ah y 5 (av .u8 (replicate 128 0))::F) (Sub.refl _) cO (aj "i" ?_));refine WL.val (V.Lc (j:=0) dO (ak Z) (ak Z)) Z (aP "~BGs" ?_);refine WC.loop (σ:=Nat×Option Addr×Nat) (λs=>[(0,.i ((m:Nat):Int)),(3,.slice s.2.1 (1+s.1) s.2.2)]) (λs=>aV (.slice s.2.1 (1+s.1) s.2.2) 5 1 (1+s.1) (av .u8 (128::replicate s.1 0))::F)
  (λs=>s.1≤63-R∧1+s.1≤s.2.2) (λs=>63-R-s.1) (0,some ⟨y,0,none⟩,128) ⟨zero_le _,by show 1≤128;decide⟩ bC (λw h=>Sat.BX h Z (show 1≤128 by decide) (show 128≤maxLen by decide)) ?_
 rintro⟨z,A3,c3⟩ ⟨hz,hz3⟩;dsimp only at hz hz3 ⊢;refine aP "rbj~W" ?_;refine WL.val (V.wN (j:=8) (ak Z) (ak Z)) Z<|aP "~~(~~nh" (aW (λk=> ?_) λk=> ?_)
 ·simp only[oK] at k;refine aj "qsg" ?_;refine WL.buildSlice (E:=5) (cs:=av .u8 [_]) (vs:=[(0,_)]) ⟨ak Z,trivial⟩ Z (jc _) Z (λC=>aP "?~7" λl b aq0 Zj=> ?_);refine aj "N" ?_;refine⟨(z+1,l,b),⟨by show z+1≤63-R;omega,by show 1+(z+1)≤b;omega⟩,(by show 63-R-(z+1)<63-R-z;omega),.cons Z bC,λw h=> ?_⟩;have e:=Sat.wm (h.bg 2 [0] Z) (show av .u8 (128::replicate z 0++[0])=av .u8 (128::replicate (z+1) 0) by rw[cons_append,replicate_succ']);exact e
 ·simp only[oK] at k;refine aj "WL" ?_;obtain rfl:z=63-R:=by omega
  obtain⟨M,u⟩:∃M,M=1+(63-R):=⟨_,Z⟩;obtain⟨L,n⟩:∃L,L=128::replicate (63-R) 0:=⟨_,Z⟩;rw[←u] at hz3;rw[←u,←n];refine aj "pos" ?_;refine WC.loop (σ:=Nat×Option Addr×Nat) (λs=>[(0,.i ((m:Nat):Int)),(3,.slice s.2.1 (M+s.1) s.2.2),(4,.i (56-8*(s.1:Int)))]) (λs=>aV (.slice s.2.1 (M+s.1) s.2.2) 5 1 (M+s.1) (av .u8 (L++(bG 256 8 (8*m)).reverse.take s.1))::F)
   (λs=>s.1≤8∧M+s.1≤s.2.2) (λs=>8-s.1) (0,A3,c3) ⟨zero_le _,hz3⟩ bC (λw h=>Sat.wm h (by rw[take_zero,append_nil])) ?_
  rintro⟨j,A3,c3⟩ ⟨hj,hj3⟩;dsimp only at hj hj3 ⊢;refine aj "r~gh" (aW (λd=> ?_) λd=> ?_)
  ·simp only[cZ] at d;rw[show (56-8*(j:Int))=((56-8*j:Nat):Int) by omega];refine aj "Egb" ?_;refine WL.val (V.qQ (i:=m) runUnderlying3 runUnderlying306 (ak Z) (λ_=>kN (M:=18446744073709551616) Z Z ay)) Z ?_;refine WL.val (V.Tx (i:=8) (M:=18446744073709551616) (ak Z) (ak Z)) Z (aP "b~%~1" ?_);refine WL.buildSlice (E:=5) (cs:=av .u8 [_]) (vs:=[(0,_)]) ⟨ak Z,trivial⟩ Z (jc _) Z (λVa=> ?_);refine aP "?~7" λr a agy ag3=> ?_;refine aj "O~DN" ?_;refine⟨(j+1,r,a),⟨by show j+1≤8;omega,by show M+(j+1)≤a;omega⟩,(by show 8-(j+1)<8-j;omega),.cons Z (.cons Z (.cons (look_eq Z (by congr 1;dsimp only;omega)) (.nil _))),λw h=> ?_⟩;have e:=Sat.wm (h.bg 2 [0] Z) (show av .u8 (L++(bG 256 8 (8*m)).reverse.take j++[8*m%18446744073709551616/2^(56-8*j)%256])=av .u8 (L++(bG 256 8 (8*m)).reverse.take (j+1)) by
    rw[←zT (aI _ _ _) ay,bV _ _ _ _ ay,mod_eq_of_lt (show 8*m<18446744073709551616 by omega),show (2:Nat)^(56-8*j)=256^(8-1-j) by rw[show 56-8*j=8*(8-1-j) by omega,Nat.pow_mul],append_assoc _ _ [_]])
   exact e
  ·simp only[cZ] at d;refine aj "W" ?_;obtain rfl:j=8:=by omega
   have x:L++(bG 256 8 (8*m)).reverse.take 8=lT 64 8 m:=by
    rw[take_of_length_le (by rw[length_reverse,aI];decide),n,D];simp[lT]
   have B:(lT 64 8 m).length=M+8:=by
    rw[←x,n,take_of_length_le (by rw[length_reverse,aI];decide)];simp only[length_append,length_cons,length_replicate,length_reverse,aI];omega
   rw[x];refine aj "gd" ?_;exact qR _ Z Z cO ⟨A3,M+8,c3,B.symm,Z,hj3,Z⟩
end Go.Proofs.YtcedojacbhnbiaaGreat
namespace Go.Sl
open Go Go.RowKit Go.BigFrame Go.Proofs.YtcedojacbhnbiaaGreat List Nat
theorem V.ajh(hf:c=true→∀w,Sat K w H→(callFunc f vs.toArray).run P w= .ok (.value v) w)(gL:Ga c e xs vs):eX Mo P K n c e H ⟨dst,.call ⟨.value (.func f),xs.toArray,ats⟩,ty,pos,af,gd⟩ v:=λb a w h d=>by
 rw[execOp_call_go,map_toArray,gL.ev h b]
 simpa using hf b w d
theorem WL.aei(hf:∀w,Sat K w H→∃w',(callFunc f vs.toArray).run P w= .ok (.value v) w'∧Sat K w' H')(gL:Ga true e xs vs)(hd:blt d n=true)
 (h:WL Mo P K n ops rest Q ((d,v)::e) H'):WL Mo P K n ops (⟨some d,.call ⟨.value (.func f),xs.toArray,ats⟩,ty,pos,af,none⟩::rest) Q e H:=by
 refine WL.RQ (R:=λu ou=>u=v∧ou=H') (λa w j m=> ?_) hd (λu ou ⟨r,l⟩=>by subst r l;exact h);obtain⟨w',b,k⟩:=hf w m;refine⟨v,w',H', ?_,k,Z,Z⟩;rw[execOp_call_go,map_toArray,gL.ev j Z]
 simpa using b
end Go.Sl
namespace Go.Proofs.YtcedojacbhnbiaaGreat
open Go.Sl Go.RowKit Tryz List Nat
theorem Yt(hr:Rd K H (some ⟨b,o,none⟩) (.int .u32 x)):∀w,Sat K w H→(callFunc 340 #[ptr b o]).run prog w= .ok (.value (.int .u32 x)) w:=λw e=>by
 obtain⟨a,d,h⟩:=hr w e;injection d with d
 subst d;exact run_call_load func340 (by kernel_rfl) (by kernel_rfl) (by kernel_rfl) .u32 (by kernel_rfl) h
theorem XL(hr:Rd K H (some ⟨b,o,none⟩) (.i x)):∀w,Sat K w H→(callFunc 314 #[ptr b o]).run prog w= .ok (.value (.i x)) w:=λw e=>by
 obtain⟨a,d,h⟩:=hr w e;injection d with d
 subst d;exact run_call_load func314 (by kernel_rfl) (by kernel_rfl) (by kernel_rfl) .i64 (by kernel_rfl) h
theorem Un(hu:bT K H b o [.int .u32 y] H'):∀w,Sat K w H→∃w',(callFunc 351 #[ptr b o,.int .u32 y]).run prog w= .ok (.value (.tuple #[])) w'∧Sat K w' H':=λw d=>by
 obtain⟨h,j⟩:=hu.may w d.2 0 (Nat.zero_lt_one);obtain⟨u,a⟩:=Option.isSome_iff_exists.1 h;refine⟨w.setCell ⟨b,o,none⟩ (.int .u32 y), ?_,(hu.run (P:=prog) d (λv e=>by rcases mem_singleton.1 e with rfl;rfl)).2⟩;exact run_call_store func351 (by kernel_rfl) (by kernel_rfl) (by kernel_rfl) (by kernel_rfl) a j
theorem af3(hr:Rd K H (some ⟨b,o,none⟩) (.int .i32 x))(hu:bT K H b o [.int .i32 y] H'):∀w,Sat K w H→∃w',(callFunc 357 #[ptr b o,.int .i32 x,.int .i32 y]).run prog w= .ok (.value (.bool true)) w'∧Sat K w' H':=λw e=>by
 obtain⟨l,j⟩:=hu.may w e.2 0 (Nat.zero_lt_one);obtain⟨a,d,h⟩:=hr w e;injection d with d
 subst d;refine⟨w.setCell ⟨b,o,none⟩ (.int .i32 y), ?_,(hu.run (P:=prog) e (λv k=>by rcases mem_singleton.1 k with rfl;rfl)).2⟩;exact run_call_cas_hit func357 (by kernel_rfl) (by kernel_rfl) (by kernel_rfl) .i32 (by kernel_rfl) h j
theorem Z0(hr:Rd K H (some ⟨b,o,none⟩) (.int .i32 x))(hs:IntKind.i32.wrap (x+y)=s)(hu:bT K H b o [.int .i32 s] H'):∀w,Sat K w H→∃w',(callFunc 362 #[ptr b o,.int .i32 y]).run prog w= .ok (.value (.int .i32 s)) w'∧Sat K w' H':=λw e=>by
 obtain⟨l,j⟩:=hu.may w e.2 0 (Nat.zero_lt_one);obtain⟨a,d,h⟩:=hr w e;injection d with d
 subst d;refine⟨w.setCell ⟨b,o,none⟩ (.int .i32 s), ?_,(hu.run (P:=prog) e (λv k=>by rcases mem_singleton.1 k with rfl;rfl)).2⟩;exact run_call_add func362 (by kernel_rfl) (by kernel_rfl) (by kernel_rfl) .i32 (by kernel_rfl) h j (by simp[Op.intArith,hs])
theorem ZY(hr:Rd K H (some ⟨b,o,none⟩) (.i x))(hs:IntKind.i64.wrap (x+y)=s)(hu:bT K H b o [.i s] H'):∀w,Sat K w H→∃w',(callFunc 312 #[ptr b o,.i y]).run prog w= .ok (.value (.i s)) w'∧Sat K w' H':=λw e=>by
 obtain⟨l,j⟩:=hu.may w e.2 0 (Nat.zero_lt_one);obtain⟨a,d,h⟩:=hr w e;injection d with d
 subst d;refine⟨w.setCell ⟨b,o,none⟩ (.i s), ?_,(hu.run (P:=prog) e (λv k=>by rcases mem_singleton.1 k with rfl;rfl)).2⟩;exact run_call_add func312 (by kernel_rfl) (by kernel_rfl) (by kernel_rfl) .i64 (by kernel_rfl) h j (by simp[Op.intArith,hs])
theorem Cj:vK prog 356 [] (.tuple #[]):=λw=>run_call_mark0 func356 (by kernel_rfl) (by kernel_rfl) (by kernel_rfl) .disable (by kernel_rfl) w
theorem Fj:vK prog 358 [] (.tuple #[]):=λw=>run_call_mark0 func358 (by kernel_rfl) (by kernel_rfl) (by kernel_rfl) .enable (by kernel_rfl) w
theorem Mi(b o:Nat):vK prog 359 [ptr b o] (.tuple #[]):=λw=>run_call_marked func359 (by kernel_rfl) (by kernel_rfl) (by kernel_rfl) .acquire (by kernel_rfl) _ w
theorem CO(b o:Nat):vK prog 361 [ptr b o] (.tuple #[]):=λw=>run_call_marked func361 (by kernel_rfl) (by kernel_rfl) (by kernel_rfl) .releaseMerge (by kernel_rfl) _ w
theorem Ey{x:Nat}(hr:Rd K F (some ⟨b,o,none⟩) (.int .u32 (x:Int))):aK prog 330 #[ptr b o] K F (.bool (!decide (x=0))):=by
 refine aB.en func330 ntmps330 ?_;refine aj "aiU" ?_;exact WL.val (V.ajh (vs:=[_]) (λ_=>Yt hr) ⟨ak Z,trivial⟩) Z<|aP "~~nd+" trivial
theorem TV{x:Nat}(hr:Rd K F (some ⟨b,o,none⟩) (.i (x:Int))):aK prog 271 #[ptr b o] K F (.i (x:Int)):=by
 refine aB.en func271 ntmps271 ?_;refine aj "aiU" ?_;exact WL.val (V.ajh (vs:=[_]) (λ_=>XL hr) ⟨ak Z,trivial⟩) Z<|aj "d+" trivial
end Go.Proofs.YtcedojacbhnbiaaGreat
namespace Go.Sl
open Go Go.RowKit Go.Proofs.YtcedojacbhnbiaaGreat List Nat
theorem V.QX{src d t:Nat}(hs:P.underlying src=some (.pointer t))(hd:P.underlying d=some .unsafePointer)(JQ:(P.info? t).map (λi=>decide (i.size=0))=some false)
 (hx:OV c e x (ptr b o)) (hr:c=true→Rd K H (some ⟨b,o,none⟩) v):eX Mo P K n c e H ⟨dst,.convert src d x,ty,pos,af,gd⟩ (ptr b o):=λj a w k m=>by
 show ((do pure (Next.value (←convert src d (a.eval x)))):Sem Next).run P w=_;rw[hx.ev j k];obtain⟨ad,h,l⟩:=hr j w m;injection h with h
 subst h;rw[Sem.run_bind,run_convert_to_unsafe hs hd JQ l];rfl
end Go.Sl
namespace Go.Proofs.YtcedojacbhnbiaaGreat
open Go.Sl Go.RowKit Tryz List Nat
theorem TA:aK prog 352 #[.bool true] K F (.int .u32 1):=by
 refine aB.en func352 ntmps352 ?_;refine aj "afh" (aW (λa=> ?_) λa=> ?_)
 ·skip
  exact aj "D+" trivial
 ·skip
  refine aj "qD" ?_;exact absurd a (by simp)
theorem WM{x:Nat}(hr:Rd K (C::F) (some ⟨b,o,none⟩) (.i (x:Int)))(hs:x+y≤9223372036854775807)(hu:bT K (C::F) b o [.i ((x+y:Nat):Int)] (C'::F)):aB prog 268 #[ptr b o,.i (y:Int)] K (C::F) (λv H'=>v= .i ((x+y:Nat):Int)∧H'=C'::F):=by
 refine aB.en func268 ntmps268 ?_;refine aj "aiUb" ?_;refine WL.aei (vs:=[_,_]) (ZY hr (by rw[←Int.natCast_add];exact wrap_i64 ay) hu) ⟨ak Z,ak Z,trivial⟩ Z<|aj "d" ?_;exact qR (C'::F) Z Z cO ⟨Z,Z⟩
theorem P5(hr':Rd K (C'::F) (some ⟨b,o,none⟩) (.int .i32 1))(hr:Rd K (C::F) (some ⟨b,o,none⟩) (.int .i32 0))(hu:bT K (C::F) b o [.int .i32 1] (C'::F)):aB prog 349 #[ptr b o] K (C::F) (λv H'=>v= .tuple #[]∧H'=C'::F):=by
 refine aB.en func349 ntmps349 ?_;refine WC.sr<|WL.val (V.ext (vs:=[]) (λ_=>Cj) trivial) Z<|aj "crU" ?_;refine WL.aei (vs:=[_,_,_]) (af3 hr hu) ⟨ak Z,ak Z,ak Z,trivial⟩ Z (aj "c3L3a" ?_);refine WL.val (V.ext (vs:=[]) (λ_=>Fj) trivial) Z<|aj "cg" ?_;refine WL.val (V.QX underlying412 underlying416 (by kernel_rfl) (ak Z) (λ_=>hr')) Z<|WL.val (V.ext (vs:=[_]) (λ_=>Mi _ _) ⟨ak Z,trivial⟩) Z<|aj "6" ?_;exact aF.ret (H':=C'::F) (bJ.none Z) cO ⟨Z,Z⟩
theorem JV(hr:Rd K (C::F) (some ⟨b,o,none⟩) (.int .i32 1))(hu:bT K (C::F) b o [.int .i32 0] (C'::F)):aB prog 350 #[ptr b o] K (C::F) (λv H'=>v= .tuple #[]∧H'=C'::F):=by
 refine aB.en func350 ntmps350 ?_;refine aj "L3eU" ?_;refine WL.val (V.load (v:= .int .i32 1) isAgg21 (ak Z) (λ_=>hr)) Z<|aj "ce" ?_;refine WL.val (V.QX underlying412 underlying416 (by kernel_rfl) (ak Z) (λ_=>hr)) Z<|WL.val (V.ext (vs:=[_]) (λ_=>CO _ _) ⟨ak Z,trivial⟩) Z<|aj "cp" ?_;refine WL.val (V.ext (vs:=[]) (λ_=>Cj) trivial) Z<|aj "ceU" ?_;refine WL.aei (vs:=[_,_]) (Z0 (s:=0) hr aN hu) ⟨ak Z,ak Z,trivial⟩ Z (aj "fu2qp" ?_);exact WL.val (V.ext (vs:=[]) (λ_=>Fj) trivial) Z<|WL.nil<|aF.normal (H':=C'::F) (bJ.none Z) cO ⟨Z,Z⟩
theorem TJ(hr':Rd K (C'::F) (some ⟨b,o,none⟩) (.int .i32 1))(hr:Rd K (C::F) (some ⟨b,o,none⟩) (.int .i32 0))(hu:bT K (C::F) b o [.int .i32 1] (C'::F)):aB prog 341 #[ptr b o] K (C::F) (λv H'=>v= .tuple #[]∧H'=C'::F):=by
 refine aB.en func341 ntmps341 ?_;refine aj "gU" ?_;refine WL.c1 call349 Z (P5 hr' hr hu) Z ?_;rintro _ _ ⟨rfl,rfl⟩;exact WL.nil<|aF.normal (H':=C'::F) (bJ.none Z) cO ⟨Z,Z⟩
end Go.Proofs.YtcedojacbhnbiaaGreat
namespace Go.Sl
open Go Go.RowKit Go.Proofs.YtcedojacbhnbiaaGreat List Nat
def Ve(P:Program)(K:World)(pd:List aH→Prop):List Deferred→List aH→Prop
 | [],H=>pd H
 | d::ds,H=>∃g args,d=⟨.fn (.func g) #[],args⟩∧bP P g∧Fp P g args K H (λH'=>Ve P K pd ds H')
theorem VJ(sW:∀H' w',Sat K w' H'→pd H'→Leaves P fn tmps R [] .returning w') :
 ∀ (ds:List Deferred) (H:List aH) (w:World),Sat K w H→Ve P K pd ds H→Leaves P fn tmps R ds .returning w
 | [],H,w,hw,h=>sW H w hw h
 | d::ds,H,w,hw,h=>by
  obtain⟨g,args,rfl,k1,k2⟩:=h;refine leaves_cons (f:=g) (args:=args) (by simp) (by show (callFunc g (args++ #[])).run P w=_;rw[k1];simp)<|(k2 w hw).mono ?_;rintro k j w' ⟨rfl,v,a,rfl,e,b⟩;exact VJ sW ds a w' e b
def agM(P:Program)(K:World)(n:Nat)(fn:Func)(post:Value→List aH→Prop):iX
 | Mo,.normal,e,H | Mo,.ret,e,H=>∃pd,Ve P K pd Mo.ds H∧∀H',pd H'→∃v ou,bJ Mo P K n fn e H' v∧(∀w,Sat K w H'→Sat K w ou)∧post v ou
 | _,_,_,_=>False
theorem aB.aen{n:Nat}(hf:P.funcs[f]? =some fn)(hb:fn.body=some c)(hn:fn.ntmps=n)(hl:ble vs.length n=true)
 (h:WC ⟨none,[]⟩ P K n c (agM P K n fn post) (kV 0 vs) H):aB P f vs.toArray K H post:=by
 intro w I;refine calls_of_wp_defers hf hb (wp_mono (h _ w ?_ I) ?_)
 ·have Dp:vs.length≤n:=by simpa using hl
  refine⟨Z,by simp[hn];omega,λt v M=> ?_⟩;obtain⟨_,b⟩:=nO vs 0 t v M;simp only[Nat.sub_zero] at b;have J:t<vs.length:=by
   rcases Nat.lt_or_ge t vs.length with h | h
   ·exact h
   ·simp[getElem?_eq_none h] at b
  rw[Array.getD_eq_getD_getElem?,Array.getElem?_append_left (by simpa using J)];simp[b]
 ·rintro x a w ⟨ds,B,d,m,b,y⟩;have l:(∃pd,Ve P K pd ds d∧∀j,pd j→∃v ou,bJ ⟨none,ds⟩ P K n fn B j v∧(∀w,Sat K w j→Sat K w ou)∧post v ou) →
   Leaves P fn a.tmps (λe k=>∃v d,e= .returned v∧Sat K k d∧post v d) a.defers .returning w:=by
   rintro⟨pd,k2,k3⟩;rw[m.defers];refine VJ (λj k r D=> ?_) ds d w b k2;obtain⟨u,G,F,L,C⟩:=k3 j D;exact⟨u,F a k m r,u,G,Z,L k r,C⟩
  cases x<;>first
   | exact l y
   | exact y.elim
theorem WL.ZO(hx:Ga true e xs vs)
 (h:WL ⟨none,⟨.fn (.func f) #[],vs.toArray⟩::ds⟩ P K n ops rest Q e H):WL ⟨none,ds⟩ P K n ops (⟨none,.defer ⟨.value (.func f),xs.toArray,ats⟩,ty,pos,af,none⟩::rest) Q e H:=λa w b j=>by
 refine kH Z λR k=> ?_;show Oper.wp P _ a w R _;unfold Oper.wp;have d:(execOp a.eval ⟨none,.defer ⟨.value (.func f),xs.toArray,ats⟩,ty,pos,af,none⟩).run P w= .ok (.defer ⟨.fn (.func f) #[],vs.toArray⟩) w:=by
  show ((do pure (Next.defer (←resolve a.eval ⟨.value (.func f),xs.toArray,ats⟩ ty))):Sem Next).run P w=_;have d:resolve a.eval ⟨.value (.func f),xs.toArray,ats⟩ ty=pure { target:= .fn (.func f) #[],args:=vs.toArray }:=by
   simp[resolve,map_toArray,hx.ev b Z,Deferred.ofValue,Act.eval]
  rw[d];rfl
 rw[d,Oper.upon_defer];refine k _ _ (h _ w ⟨?_,b.size,b.at_⟩ j);show _::a.defers=_::ds;rw[b.defers]
theorem G9(h:Fp P f args K H p)(hpq:∀H',p H'→q H'):Fp P f args K H q:=λw e =>
 (h w e).mono λ_ _ _ ⟨a,v,H',b,d,j⟩=>⟨a,v,H',b,d,hpq H' j⟩
end Go.Sl
namespace Go.Proofs.YtcedojacbhnbiaaGreat
open Go.Sl Go.RowKit Tryz List Nat
theorem Rf(hu:bT K (C::F) b o [.int .u32 1] (C'::F)):Fp prog 343 #[ptr b o,.bool true] K (C::F) (λH'=>H'=C'::F):=by
 refine aB.aaU func343 Z ntmps343 Z ?_;simp only[kV,reduceAdd];refine aP "~5n0~c142n3m4" ?_;refine WL.t1 call352 Z (TA) Z<|aj "cm5" ?_;refine WL.aei (vs:=[_,_]) (Un hu) ⟨ak Z,ak Z,trivial⟩ Z (aj "*" ?_);exact aF.normal (H':=C'::F) (bJ.none Z) cO Z
theorem Ke(hr:Rd K (C::F) (some ⟨b,o,none⟩) (.int .i32 1))(hu:bT K (C::F) b o [.int .i32 0] (C'::F)):Fp prog 342 #[ptr b o] K (C::F) (λH'=>H'=C'::F):=by
 refine aB.aaU func342 Z ntmps342 Z ?_;simp only[kV,reduceAdd];refine aj "gU" ?_;refine WL.c1 call350 Z (JV hr hu) Z ?_;rintro _ _ ⟨rfl,rfl⟩;exact WL.nil<|aF.normal (H':=C'::F) (bJ.none Z) cO Z
theorem QA{g:Nat}{cap:List Value}(hg:bP prog g)(KC:Rd K (C::F) (some ⟨b,o+1,none⟩) (.int .i32 0))(hu1:bT K (C::F) b (o+1) [.int .i32 1] (C1::F))(Dq:Rd K (C1::F) (some ⟨b,o+1,none⟩) (.int .i32 1))
 (hd:Rd K (C1::F) (some ⟨b,o,none⟩) (.int .u32 ((0:Nat):Int))) (hf:aB prog g cap.toArray K (C1::F) (λv H'=>H'=C2::F)) (hu3:bT K (C2::F) b o [.int .u32 1] (C3::F)) (Mc:Rd K (C3::F) (some ⟨b,o+1,none⟩) (.int .i32 1)) (hu4:bT K (C3::F) b (o+1) [.int .i32 0] (C4::F)) :
 aB prog 331 #[ptr b o,.func (.func g) #[] cap.toArray] K (C::F) (λv H'=>v= .tuple #[]∧H'=C4::F):=by
 refine aB.aen func331 Z ntmps331 Z ?_;simp only[kV,reduceAdd];refine aj "eU" ?_;refine WL.c1 call341 Z (TJ Dq KC hu1) Z ?_;rintro _ _ ⟨rfl,rfl⟩;refine aj "ceU" ?_;refine WL.ZO (vs:=[_]) ⟨ak Z,trivial⟩ (aj "ceU" ?_);refine WL.t1 call330 Z (Ey hd) Z<|aj "9c3eU" ?_;refine WL.ZO (vs:=[_,_]) ⟨ak Z,ak Z,trivial⟩ (aj "cg" ?_);refine WL.ny (first:=[]) (captured:=cap) (vs:=[]) hg (ak Z) trivial (by simpa using hf) Z ?_;rintro _ _ rfl;refine WL.nil ?_;exact⟨λH'=>H'=C4::F,⟨_,_,Z,call343,G9 (Rf hu3) λH' a=>by subst a;exact⟨_,_,Z,call342,G9 (Ke Mc hu4) λH' a=>a⟩⟩,λH' a=>by subst a;exact⟨_,C4::F,bJ.none Z,λw h=>h,Z,Z⟩⟩
theorem adL{g:Nat}{cap:List Value}(hg:bP prog g)(hd0:Rd K (C::F) (some ⟨b,o,none⟩) (.int .u32 ((0:Nat):Int)))(KC:Rd K (C::F) (some ⟨b,o+1,none⟩) (.int .i32 0))(hu1:bT K (C::F) b (o+1) [.int .i32 1] (C1::F))(Dq:Rd K (C1::F) (some ⟨b,o+1,none⟩) (.int .i32 1))
 (hd:Rd K (C1::F) (some ⟨b,o,none⟩) (.int .u32 ((0:Nat):Int))) (hf:aB prog g cap.toArray K (C1::F) (λv H'=>H'=C2::F)) (hu3:bT K (C2::F) b o [.int .u32 1] (C3::F)) (Mc:Rd K (C3::F) (some ⟨b,o+1,none⟩) (.int .i32 1)) (hu4:bT K (C3::F) b (o+1) [.int .i32 0] (C4::F)) :
 aB prog 308 #[ptr b o,.func (.func g) #[] cap.toArray] K (C::F) (λv H'=>v= .tuple #[]∧H'=C4::F):=by
 refine aB.en func308 ntmps308 ?_;refine aj "eU" ?_;refine WL.t1 call330 Z (Ey hd0) Z<|aj "9c3gb" ?_;refine WL.c2 call331 Z Z (QA hg KC hu1 Dq hd hf hu3 Mc hu4) Z ?_;rintro _ _ ⟨rfl,rfl⟩;exact WL.nil<|aF.normal (H':=C4::F) (bJ.none Z) cO ⟨Z,Z⟩
theorem aag(hd:Rd K F (some ⟨b,o,none⟩) (.int .u32 ((1:Nat):Int))):aB prog 308 #[ptr b o,fv] K F (λv H'=>v= .tuple #[]∧H'=F):=by
 refine aB.en func308 ntmps308 ?_;refine aj "eU" ?_;refine WL.t1 call330 Z (Ey hd) Z<|aj "92q" ?_;exact aF.normal (H':=F) (bJ.none Z) cO ⟨Z,Z⟩
def dG(done mtx:Nat)(rs st:List Nat)(rest:Value)(cnt:Nat):List Value :=
 [.int .u32 (done:Int),.int .i32 (mtx:Int),.int .u32 0]++(av .u32 rs++(av .u32 st++[rest,.i (cnt:Int)]))
theorem I9(ha:a.length=o)(hv:vs'.length=vs.length):oU (a++(vs++r)) o vs'=a++(vs'++r):=by grind [mD,take_left',drop_drop,drop_left',append_assoc]
theorem Sq(h:rs.length=64)(h':rs'.length=64):bT K (ah b T (dG d m rs st r c)::F) b 3 (av .u32 rs') (ah b T (dG d m rs' st r c)::F) :=
 bT.here (ble_eq_true_of_le (by simp only[dG,length_append,length_cons,length_nil,au,h,h'];omega)) (I9 Z (by rw[au,au,h,h']))
theorem yX(h:rs.length=64)(h2:st.length=8)(h':st'.length=8):bT K (ah b T (dG d m rs st r c)::F) b 67 (av .u32 st') (ah b T (dG d m rs st' r c)::F):=by
 refine bT.here (ble_eq_true_of_le (by simp only[dG,length_append,length_cons,length_nil,au,h,h2,h'];omega)) ?_;rw[dG,←append_assoc];rw[I9 (by simp only[length_append,length_cons,length_nil,au,h]) (by rw[au,au,h2,h'])];rw[dG,append_assoc]
theorem abf{d':Nat}:bT K (ah b T (dG d m rs st r c)::F) b 0 [.int .u32 (d':Int)] (ah b T (dG d' m rs st r c)::F) :=
 bT.here (ble_eq_true_of_le (by simp only[dG,length_append,length_cons,length_nil];omega)) Z
theorem Vi{m':Nat}:bT K (ah b T (dG d m rs st r c)::F) b 1 [.int .i32 (m':Int)] (ah b T (dG d m' rs st r c)::F) :=
 bT.here (ble_eq_true_of_le (by simp only[dG,length_append,length_cons,length_nil];omega)) Z
theorem MR:Rd K (ah b T (dG d m rs st r c)::F) (some ⟨b,0,none⟩) (.int .u32 (d:Int)):=Rd.here Z
theorem UH:Rd K (ah b T (dG d m rs st r c)::F) (some ⟨b,1,none⟩) (.int .i32 (m:Int)):=Rd.here Z
theorem Nl(h:rs.length=64)(h2:st.length=8):aB prog 309 #[ptr bc 0] K (ah b 354 (dG d m rs st r c)::ah bc Tc [ptr b 0]::F) (λv H'=>H'=ah b 354 (dG d m rC uR r c)::ah bc Tc [ptr b 0]::F):=by
 have Gs:uR.length=8:=by decide
 have l6:rC.length=64:=by decide
 obtain⟨e,uL⟩:∃e,e=rC:=⟨_,Z⟩;obtain⟨hs,a⟩:∃hs,hs=uR:=⟨_,Z⟩;rw[←uL] at l6;rw[←a] at Gs;rw[←uL,←a];refine aB.en func309 ntmps309 ?_;refine aP "~5~~T0~~T1m2" ?_;refine WL.call (vs:=[]) call310 trivial (J9.eq (v':= .agg (av .u32 e).toArray) (by rw[uL])) Z ?_;rintro _ j ⟨rfl,k⟩;subst j;refine aj "cm3" ?_;refine WL.call (vs:=[]) call311 trivial (MW.eq (v':= .agg (av .u32 hs).toArray) (by rw[a])) Z ?_;rintro _ j ⟨rfl,k⟩;subst j;refine aj "c~c445m6" ?_;refine WL.store (cs:=av .u32 e) sizeOf348 (ak Z) (ak Z) Z (by rw[au];exact l6) (gP _ _) (Sq h l6)<|aj "c~c748m9" ?_;refine WL.store (cs:=av .u32 hs) sizeOf349 (ak Z) (ak Z) Z (by rw[au];exact Gs) (gP _ _) (by first | exact yX h h2 Gs | exact yX l6 h2 Gs)<|aj "*" ?_;exact aF.normal (H':=_) (bJ.none Z) cO Z
theorem Ou(h:rs.length=64)(h2:st.length=8):aB prog 267 #[ptr b 0] K (ah b 354 (dG 0 0 rs st r c)::F) (λv H'=>v= .tuple #[]∧H'=ah b 354 (dG 1 0 rC uR r c)::F):=by
 refine aB.en func267 ntmps267 ?_;refine aj "a~k" λa=> ?_;refine aj "cp~9" ?_;refine WL.val (V.load (v:=ptr b 0) isAgg301 (ak Z) (λ_=>(Rd.here Z).up)) Z<|aj "U~2" ?_;refine WL.c2 call308 Z Z (adL (g:=309) (cap:=[ptr a 0]) call309 MR UH (Vi (m':=1)) UH MR (Nl h h2) (abf (d':=1)) UH (Vi (m':=0))) Z ?_;rintro _ _ ⟨rfl,rfl⟩;exact WL.nil<|aF.normal (H':=ah b 354 (dG 1 0 rC uR r c)::F) (bJ.none Z) (λw h=>h.bg 2 [0] Z) ⟨Z,Z⟩
theorem QN:aB prog 267 #[ptr b 0] K (ah b 354 (dG 1 0 rs st r c)::F) (λv H'=>v= .tuple #[]∧H'=ah b 354 (dG 1 0 rs st r c)::F):=by
 refine aB.en func267 ntmps267 ?_;refine aj "a~k" λa=> ?_;refine aj "cp<U~2" ?_;refine WL.c2 call308 Z Z (aag (MR.up)) Z ?_;rintro _ _ ⟨rfl,rfl⟩;exact WL.nil<|aF.normal (H':=ah b 354 (dG 1 0 rs st r c)::F) (bJ.none Z) (λw h=>h.tail) ⟨Z,Z⟩
theorem Uu:aB prog 231 #[] K F (λv H'=>∃b,v=ptr b 0∧H'=ah b 354 (dG 0 0 (replicate 64 0) (replicate 8 0) (.slice none 0 0) 0)::F):=by
 refine aB.en func231 ntmps231 ?_;refine aj "aw^" ?_;refine WL.box (cs:=[_,_,_,_,_,_,_,_,_,_,_,_,_,_,_,_,_,_,_,_,_,_,_,_,_,_,_,_,_,_,_,_,_,_,_,_,_,_,_,_,_,_,_,_,_,_,_,_,_,_,_,_,_,_,_,_,_,_,_,_,_,_,_,_,_,_,_,_,_,_,_,_,_,_,_,_,_]) (ak Z) Z Z (λa=>aj "d" ?_);exact qR _ Z Z cO ⟨_,Z,Z⟩
theorem EM(f:List Nat→List Nat→List Nat)(q:Nat):∀(a b:Nat) (d s:List Nat),dz f q (a+b) d s=dz f q b (d.drop (q*a)) (dz f q a d s)
 | 0,b,d,s=>by rw[Nat.zero_add,Nat.mul_zero,drop_zero];rfl
 | a+1,b,d,s=>by
  rw[show a+1+b=a+b+1 by omega,dz,dz,EM f q a b,drop_drop,Nat.mul_add,Nat.mul_one,Nat.add_comm q (q*a)]
theorem Cb(f:List Nat→List Nat→List Nat)(q:Nat):∀(a:Nat) (d r s:List Nat),q*a≤d.length→dz f q a (d++r) s=dz f q a d s
 | 0,_,_,_,_=>rfl
 | a+1,d,r,s,h=>by
  rw[Nat.mul_add,Nat.mul_one] at h;rw[dz,dz,take_append_of_le_length ay,drop_append_of_le_length ay];exact Cb f q a (d.drop q) r _ (by rw[length_drop];omega)
theorem NI(data:List Nat):dz gV 64 ((data.length+(lT 64 8 data.length).length)/64) (data++lT 64 8 data.length) uR =
 dz gV 64 ((data.length%64+(lT 64 8 data.length).length)/64) (data.drop (64*(data.length/64))++lT 64 8 data.length) (dz gV 64 (data.length/64) data uR):=by
 rw[show (data.length+(lT 64 8 data.length).length)/64=data.length/64+(data.length%64+(lT 64 8 data.length).length)/64 by omega,EM,Cb _ _ _ _ _ _ ay,drop_append_of_le_length ay]
theorem Ql(ha:a.length=o):oU (a++(v::r)) o [v']=a++(v'::r):=by
 have :=I9 (a:=a) (vs:=[v]) (vs':=[v']) (r:=r) ha Z;exact this
theorem OB(h:rs.length=64)(h2:st.length=8):(dG d m rs st r c).length=77:=by
 simp only[dG,length_append,length_cons,length_nil,au,h,h2]
theorem Bp(d m c:Nat)(rs st:List Nat)(r:Value):dG d m rs st r c=([.int .u32 (d:Int),.int .i32 (m:Int),.int .u32 0]++av .u32 rs++av .u32 st)++(r::[.i (c:Int)]):=by
 simp[dG]
theorem xw(d m c:Nat)(rs st:List Nat)(r:Value):dG d m rs st r c=([.int .u32 (d:Int),.int .i32 (m:Int),.int .u32 0]++av .u32 rs++av .u32 st++[r])++((.i (c:Int))::[]):=by
 simp[dG]
theorem Jk(h:rs.length=64)(h2:st.length=8):bT K (ah b T (dG d m rs st r c)::F) b 75 [r'] (ah b T (dG d m rs st r' c)::F):=by
 refine bT.here (ble_eq_true_of_le (by rw[OB h h2];show 75+1≤77;omega)) ?_;rw[Bp,Ql (by simp only[length_append,length_cons,length_nil,au,h,h2]),←Bp]
theorem Yj{c':Nat}(h:rs.length=64)(h2:st.length=8):bT K (ah b T (dG d m rs st r c)::F) b 76 [.i (c':Int)] (ah b T (dG d m rs st r c')::F):=by
 refine bT.here (ble_eq_true_of_le (by rw[OB h h2];show 76+1≤77;omega)) ?_;rw[xw,Ql (by simp only[length_append,length_cons,length_nil,au,h,h2]),←xw]
theorem pU(h:rs.length=64)(h2:st.length=8):Rd K (ah b T (dG d m rs st r c)::F) (some ⟨b,75,none⟩) r:=Rd.here (by
 rw[Bp,getElem?_append_right (by simp only[length_append,length_cons,length_nil,au,h,h2];decide)];simp only[length_append,length_cons,length_nil,au,h,h2];rfl)
theorem QJ(h:rs.length=64)(h2:st.length=8):Rd K (ah b T (dG d m rs st r c)::F) (some ⟨b,76,none⟩) (.i (c:Int)):=Rd.here (by
 rw[xw,getElem?_append_right (by simp only[length_append,length_cons,length_nil,au,h,h2];decide)];simp only[length_append,length_cons,length_nil,au,h,h2];rfl)
theorem DK(h:rs.length=64)(hi:i<64):Rd K (ah b T (dG d m rs st r c)::F) (some ⟨b,3+i,none⟩) (.int .u32 ((rs.getD i 0:Nat):Int)):=Rd.here (by
 rw[dG,getElem?_append_right (by simp),getElem?_append_left (by rw[au,h];simp;omega)];have :=jH .u32 rs (i:=i) ay
 simpa using this)
theorem Dy(h:rs.length=64):fH K (ah b T (dG d m rs st r c)::F) b 67 (av .u32 st):=fH.here (by
 rw[dG,←append_assoc,drop_left' (by simp only[length_append,length_cons,length_nil,au,h])];exact prefix_append _ _)
theorem Sb(hs:Seq K F A m 1 (av .u8 data))(h8:aA 256 data)(hm:m≤100000000) :
 aB prog 232 #[ptr b 0,.slice A m cap] K (ah b 354 (dG 0 0 (replicate 64 0) (replicate 8 0) (.slice none 0 0) 0)::F) (λv H'=>v= .i 0∧∃A' c' E,(∀H,Sl.Seq K (E::H) A' (m%64) 1 (av .u8 (data.drop (64*(m/64)))))∧m%64≤c'∧H'=E::ah b 354 (dG 1 0 rC (dz gV 64 (m/64) data uR) (.slice A' (m%64) c') m)::F):=by
 have C:data.length=m:=by have :=hs.len;rwa [au,Nat.mul_one] at this
 have Gs:uR.length=8:=by decide
 have l6:rC.length=64:=by decide
 refine aB.en func232 ntmps232 ?_;refine aj "af~b2T" ?_;refine WL.c1 call267 Z (Ou length_replicate length_replicate) Z ?_;rintro _ _ ⟨rfl,rfl⟩;refine aj "ceUbj" ?_;refine WL.c2 call268 Z Z (WM (x:=0) (y:=m) (QJ l6 Gs) ay (Yj l6 Gs)) Z ?_;rintro _ _ ⟨rfl,rfl⟩;refine aj "cebU" ?_;refine WL.val (V.load (v:= .slice none 0 0) isAgg34 (ak Z) (λ_=>pU l6 Gs)) Z<|WL.mv Z Z<|WL.sub (H':=aV (.slice none 0 0) 5 1 0 (av .u8 [])::ah b 354 (dG 1 0 rC uR (.slice none 0 0) (0+m))::F) (Sub.refl _) (λw h=>h.gI _ _)<|WL.Gn (m:=0) (l:=[]) underlying34 yL (ak Z) (ak Z) (λd a akr ald=> ?_) hs.up;rw[Nat.zero_add] at akr ald ⊢;refine aj "U" ?_;refine WL.store (cs:=[.slice d m a]) sizeOf34 (ak Z) (ak Z) Z Z Z (Jk l6 Gs).up<|aj "Gs" ?_;obtain⟨J,uL⟩:∃J,J=rC:=⟨_,Z⟩;obtain⟨R,M⟩:∃R,R=dz gV 64 (m/64) data uR:=⟨_,Z⟩;obtain⟨I,e⟩:∃I,I=uR:=⟨_,Z⟩;have aom:aA 4294967296 I:=by rw[e];unfold aA;decide
 rw[←uL] at l6;rw[←e] at Gs;rw[←M];rw[←e] at M;rw[←uL,←e];refine WC.loop (σ:=(Nat×Option Addr×Nat)×List Nat×List Nat) (λt=>[(0,ptr b 0),(4,.i 0)]) (λt=>ah b 354 (dG 1 0 J t.2.2 (.slice t.1.2.1 (64*t.1.1+m%64) t.1.2.2) m)::aV (.slice d m a) 5 1 m (av .u8 data)::F)
  (λt=>(∀H,Sl.Seq K (aV (.slice d m a) 5 1 m (av .u8 data)::H) t.1.2.1 (64*t.1.1+m%64) 1 (av .u8 t.2.1))∧64*t.1.1+m%64≤t.1.2.2∧aA 256 t.2.1∧t.2.2.length=8∧aA 4294967296 t.2.2∧dz gV 64 t.1.1 t.2.1 t.2.2=R∧t.2.1.drop (64*t.1.1)=data.drop (64*(m/64))) (λt=>t.1.1) ((m/64,d,a),data,I) ⟨λH=>by
   show Sl.Seq K _ d (64*(m/64)+m%64) 1 _;rw[div_add_mod];exact aV.seq (by rw[au,C,Nat.mul_one]),by show 64*(m/64)+m%64≤a;omega,h8,Gs,aom,M.symm,Z⟩ bC (λw h=>by
   have B:=h.bg 2 [1,0] Z;have O:m=64*(m/64)+m%64:=(div_add_mod m 64).symm;refine Sat.aT B ?_;dsimp only;rw[←O]) ?_
 rintro⟨⟨r,A8,c8⟩,dt,st⟩ ⟨Om,JJ,Zn,qU,Nc,GL,JI⟩;dsimp only at Om JJ Zn qU Nc GL JI ⊢;refine aj "rU" ?_;refine WL.val (V.load (v:= .slice A8 (64*r+m%64) c8) isAgg34 (ak Z) (λ_=>pU l6 qU)) Z<|aj "j" ?_;refine WL.val (V.anM (j:=64) (ak Z) (ak Z)) Z<|aj "h" (aW (λB=> ?_) λB=> ?_)
 ·simp only[cZ] at B;obtain⟨r,rfl⟩:∃k,r=k+1:=⟨r-1,by omega⟩;rw[dz] at GL;refine aP "qsL~5n0n1~c243n4~c546n8~c94:" ?_;refine WA.two (i:=7) (j:=11) eO (by kernel_rfl) Z Z ?_ ?_
  ·refine WL.val (V.fE (vs:=av .u32 st) ⟨isAgg349,sizeOf349⟩ (ak Z) (by rw[au];exact qU) (λ_=>Dy l6)) Z<|aj "cm;" ?_;refine WL.val (V.load (v:= .slice A8 (64*(r+1)+m%64) c8) isAgg34 (ak Z) (λ_=>pU l6 qU)) Z<|WL.nil<|WA.t 12 Z (V.aG (v':= .slice A8 64 c8) (V.slice (m:=64*(r+1)+m%64) (cap:=c8) (l:=0) (h:=64) (u:=c8) dO (ak Z) OO.none (OO.some (ak Z) (λ_=>Z)) OO.none (by simp) ay ay ay) (λ_=>by rw[zK,Nat.sub_zero,Nat.sub_zero])) ?_;refine WA.o 13 Z ?_;refine WL.t3 call269 Z Z Z (vC (o:=3) (s:=st) (data:=dt.take 64) (A:=A8) (λi L=>by rw[←uL];exact DK l6 L) (by have G:=(Om F).take (show 64≤64*(r+1)+m%64 by omega);rw[dU] at G;exact G.up) (λx n=>Zn x (mem_of_mem_take n)) qU Nc ay) Z<|aj "c~c>4?m@" ?_;refine WL.store (cs:=av .u32 (gV st (dt.take 64))) sizeOf349 (ak Z) (ak Z) Z (by rw[au,fZ];rfl) (gP _ _) (yX l6 qU (by rw[fZ];rfl))<|aj "*gbU" ?_;refine WL.val (V.load (v:= .slice A8 (64*(r+1)+m%64) c8) isAgg34 (ak Z) (λ_=>pU l6 (by rw[fZ];rfl))) Z<|WL.val (V.slice (m:=64*(r+1)+m%64) (cap:=c8) (l:=64) (h:=64*(r+1)+m%64) (u:=c8) dO (ak Z) (OO.some (ak Z) (λ_=>Z)) OO.none OO.none (by simp) ay ay ay) Z<|aj "U" ?_;refine WL.store (cs:=[_]) sizeOf34 (ak Z) (ak Z) Z Z Z (Jk l6 (by rw[fZ];rfl))<|aj "c~s" ?_;refine⟨((r,(if c8=64 then A8 else A8.map (·.add (64*1))),c8-64),dt.drop 64,gV st (dt.take 64)),⟨λH=> ?_,by show 64*r+m%64≤c8-64;omega,λx n=>Zn x (mem_of_mem_drop n),by show (gV _ _).length=8;rw[fZ];rfl,by rw[fZ];exact vW aN _ _,GL,by show (dt.drop 64).drop (64*r)=_;rw[drop_drop,←JI];congr 1;omega⟩,(by show r<r+1;omega),.cons Z bC,λw h=>Sat.aT h ?_⟩
   ·have D:=Seq.rD (Om H) (l:=64) (h:=64*(r+1)+m%64) (u:=c8) ay (Nat.le_refl _) JJ;have wF:dt.length=64*(r+1)+m%64:=by have :=(Om []).len;rwa [au,Nat.mul_one] at this
    rw[take_of_length_le (by rw[length_drop];omega),show 64*(r+1)+m%64-64=64*r+m%64 by omega] at D;exact D
   ·rw[show 64*(r+1)+m%64-64=64*r+m%64 by omega]
  ·refine WL.val (V.load (v:= .slice A8 (64*(r+1)+m%64) c8) isAgg34 (ak Z) (λ_=>pU l6 qU)) Z<|WL.nil<|WA.t 12 Z (V.aG (v':= .slice A8 64 c8) (V.slice (m:=64*(r+1)+m%64) (cap:=c8) (l:=0) (h:=64) (u:=c8) dO (ak Z) OO.none (OO.some (ak Z) (λ_=>Z)) OO.none (by simp) ay ay ay) (λ_=>by rw[zK,Nat.sub_zero,Nat.sub_zero])) ?_;refine WA.o 7 Z ?_;refine WL.val (V.fE (vs:=av .u32 st) ⟨isAgg349,sizeOf349⟩ (ak Z) (by rw[au];exact qU) (λ_=>Dy l6)) Z<|aj "cm=" ?_;refine WL.t3 call269 Z Z Z (vC (o:=3) (s:=st) (data:=dt.take 64) (A:=A8) (λi L=>by rw[←uL];exact DK l6 L) (by have G:=(Om F).take (show 64≤64*(r+1)+m%64 by omega);rw[dU] at G;exact G.up) (λx n=>Zn x (mem_of_mem_take n)) qU Nc ay) Z<|aj "c~c>4?m@" ?_;refine WL.store (cs:=av .u32 (gV st (dt.take 64))) sizeOf349 (ak Z) (ak Z) Z (by rw[au,fZ];rfl) (gP _ _) (yX l6 qU (by rw[fZ];rfl))<|aj "*gbU" ?_;refine WL.val (V.load (v:= .slice A8 (64*(r+1)+m%64) c8) isAgg34 (ak Z) (λ_=>pU l6 (by rw[fZ];rfl))) Z<|WL.val (V.slice (m:=64*(r+1)+m%64) (cap:=c8) (l:=64) (h:=64*(r+1)+m%64) (u:=c8) dO (ak Z) (OO.some (ak Z) (λ_=>Z)) OO.none OO.none (by simp) ay ay ay) Z<|aj "U" ?_;refine WL.store (cs:=[_]) sizeOf34 (ak Z) (ak Z) Z Z Z (Jk l6 (by rw[fZ];rfl))<|aj "c~s" ?_;refine⟨((r,(if c8=64 then A8 else A8.map (·.add (64*1))),c8-64),dt.drop 64,gV st (dt.take 64)),⟨λH=> ?_,by show 64*r+m%64≤c8-64;omega,λx n=>Zn x (mem_of_mem_drop n),by show (gV _ _).length=8;rw[fZ];rfl,by rw[fZ];exact vW aN _ _,GL,by show (dt.drop 64).drop (64*r)=_;rw[drop_drop,←JI];congr 1;omega⟩,(by show r<r+1;omega),.cons Z bC,λw h=>Sat.aT h ?_⟩
   ·have D:=Seq.rD (Om H) (l:=64) (h:=64*(r+1)+m%64) (u:=c8) ay (Nat.le_refl _) JJ;have wF:dt.length=64*(r+1)+m%64:=by have :=(Om []).len;rwa [au,Nat.mul_one] at this
    rw[take_of_length_le (by rw[length_drop];omega),show 64*(r+1)+m%64-64=64*r+m%64 by omega] at D;exact D
   ·rw[show 64*(r+1)+m%64-64=64*r+m%64 by omega]
 ·simp only[cZ] at B;refine aj "W" ?_;obtain rfl:r=0:=by omega
  rw[Nat.mul_zero,drop_zero] at JI;rw[Nat.mul_zero,Nat.zero_add] at JJ ⊢;rw[dz] at GL;rw[GL];refine aj "pd" ?_;exact aF.ret (H':=aV (.slice d m a) 5 1 m (av .u8 data)::ah b 354 (dG 1 0 J R (.slice A8 (m%64) c8) m)::F) (bJ.tmp Z Z) (λw h=>h.bg 2 [1,0] Z) ⟨Z,A8,c8,_,λH=>by have N:=Om H;rw[Nat.mul_zero,Nat.zero_add,JI] at N;exact N,JJ,Z⟩
end Go.Proofs.YtcedojacbhnbiaaGreat
namespace Go.Sl
open Go Go.RowKit Go.BigFrame Go.Proofs.YtcedojacbhnbiaaGreat List Nat
theorem WL.TI{T E bytes:Nat}(hT:P.underlying T=some (.slice E))(hE:dH P E s bytes z)(hx:OV true e x (.slice (some pa) m cap))(hy:OV true e y (.slice B q cap'))
 (hs:Seq K H (some pa) m s cs) (hn:Seq K H B q s news) (wH:cap<m+q) (hq0:0<q) (hb:(m+q)*bytes≤140737488355328) (JC:blt 0 bytes=true) (hd:blt d n=true)
 (h:∀A cap,(A=none→m+q=0∧cap=0)→m+q≤cap→WL Mo P K n ops rest Q ((d,.slice A (m+q) cap)::e) (aV (.slice A (m+q) cap) E s (m+q) (cs++news)::H)) :
 WL Mo P K n ops (⟨some d,.call ⟨.builtin .append,#[x,y],#[T,T]⟩,ty,pos,af,none⟩::rest) Q e H:=by
 refine WL.RQ (R:=λu J=>∃A cap,u= .slice A (m+q) cap∧(A=none→m+q=0∧cap=0)∧m+q≤cap∧J=aV (.slice A (m+q) cap) E s (m+q) (cs++news)::H) (λa w L r=> ?_) hd (λu J ⟨A,cap,O,N,X,e4⟩=>by subst O e4;exact h A cap N X);obtain⟨i,Y,hz,Zp,TT,G,U⟩:=hE;have RH:0<bytes:=by simpa using JC
 have S:m+q≤140737488355328:=Nat.le_trans (Nat.le_mul_of_pos_right _ RH) hb;have aeL:m+q≤maxLen:=by simp only[maxLen];omega
 have Km:=hx.ev Z L;have Qt:=hy.ev Z L;have V:0<news.length:=by rw[hn.len];exact Nat.mul_pos hq0 U
 obtain⟨M,rfl,_⟩:=hn.cell r (i:=0) (v:=news[0]) (by simp);have l:∀j v,cs[j]? =some v→w.cell? (pa.add j)=some v:=λj v I=>by
  obtain⟨p,D,F⟩:=hs.cell r I;simp at D;subst D;exact F
 have acG:∀j v,news[j]? =some v→w.cell? (M.add j)=some v:=λj v I=>by
  obtain⟨p,D,F⟩:=hn.cell r I;simp at D;subst D;exact F
 subst Zp TT;have W:=run_append_grow (P:=P) w T ty E i z hT Y hz pa m cap cs hs.len l M q cap' news hn.len acG wH ay (growslice_fits wH hb);have C:=grownCap_ge w (m+q) cap E;have Zi:=grownCap_le_maxLen w (m+q) cap E aeL;have k:(cs++news).length=(m+q)*i.size:=by rw[length_append,hs.len,hn.len,Nat.add_mul]
 refine⟨.slice (some ⟨w.heap.size,0,none⟩) (m+q) (grownCap w (m+q) cap E),w.drew.alloc (.cells (cs.toArray++news.toArray++Builtin.zeroCells z.cells (grownCap w (m+q) cap E-(m+q))) E),
  aV (.slice (some ⟨w.heap.size,0,none⟩) (m+q) (grownCap w (m+q) cap E)) E i.size (m+q) (cs++news)::H, ?_,⟨r.1.grow Z Z Z (by simp), ?_⟩,_,_,Z,(λh=>by simp at h),C,Z⟩
 ·rw[execOp_builtin,builtin_append];simp only[map_toArray,map_cons,map_nil,Km,Qt,Sem.run_bind,W,Result.andThen_ok,Sem.run_pure]
 ·refine r.2.push (by simp) (λb wE=> ?_) ?_ (λb wE=> ?_)
  ·exact heap_alloc_old w.drew _ wE
  ·refine⟨k,.inr ⟨w.heap.size,_,_,Z,zero_le _,heap_alloc_new w.drew _,C,Zi, ?_, ?_⟩⟩
   ·simp only[Array.size_append,size_toArray,size_zeroCells,G,hs.len,hn.len,←Nat.add_mul];congr 1;omega
   ·simp only[Array.toList_append,append_assoc];rw[←append_assoc,←k];exact take_left
  ·simp[aV,Value.ownBlock] at wE;subst wE;simp
theorem WL.U6{T E bytes:Nat}(hT:P.underlying T=some (.slice E))(hE:dH P E 1 bytes z)(hx:OV true e x (.slice A m m))(hy:OV true e y (.slice B q cap'))
 (hs:Seq K H A m 1 (av k l)) (hn:Seq K H B q 1 (av k news)) (hq0:0<q) (hb:(m+q)*bytes≤140737488355328) (JC:blt 0 bytes=true) (hd:blt d n=true)
 (h:∀A cap,m+q≤cap→WL Mo P K n ops rest Q ((d,.slice A (m+q) cap)::e) (aV (.slice A (m+q) cap) E 1 (m+q) (av k (l++news))::H)) :
 WL Mo P K n ops (⟨some d,.call ⟨.builtin .append,#[x,y],#[T,T]⟩,ty,pos,af,none⟩::rest) Q e H:=by
 cases A with
 | some F =>
  exact WL.TI hT hE hx hy hs hn ay hq0 hb JC hd λA c _ b=>by
   have u:=h A c b;rw[dx] at u;exact u
 | none =>
  rcases eq_zero_or_pos m with r | r
  case inr =>
   intro a w G D;have j:=hs.len;rw[au,Nat.mul_one] at j;obtain⟨F,C,_⟩:=hs.cell D (i:=0) (v:=(av k l)[0]'(by rw[au];omega)) (by simp);cases C
  subst r;have j:l=[]:=by
   have :=hs.len;rw[au,Nat.zero_mul] at this;exact eq_nil_of_length_eq_zero this
  subst j;exact WL.sub (H':=aV (.slice none 0 0) E 1 0 (av k [])::H) (Sub.refl _) (λw h=>h.gI _ _)<|WL.append hT hE hx hy hn (jB k news) hb JC hd (λA c _ b=>h A c b)
end Go.Sl
namespace Go.Proofs.YtcedojacbhnbiaaGreat
open Go.Sl Go.RowKit Tryz List Nat
theorem AJ(s data:List Nat):(gV s data).length=8:=by rw[fZ];rfl
theorem BO(s data:List Nat):aA 4294967296 (gV s data):=by grind [fZ,vW]
theorem abS(hE:∀H,Sl.Seq K (E::H) A q 1 (av .u8 rest))(h8:aA 256 rest)(hqc:q≤c)(hq:q<64)(hm:m≤100000000)(hmq:m%64=q)(dL:st.length=8)(RF:aA 4294967296 st) :
 aB prog 233 #[ptr b 0] K (ah b 354 (dG 1 0 rC st (.slice A q c) m)::E::F) (λv H'=>v= .agg (av .u8 ((dz gV 64 ((q+(lT 64 8 m).length)/64) (rest++lT 64 8 m) st).flatMap λx=>(bG 256 4 x).reverse)).toArray∧H'=ah b 354 (dG 1 0 rC st (.slice A q c) m)::E::F):=by
 have l6:rC.length=64:=by decide
 have pG:rest.length=q:=by have :=(hE []).len;rwa [au,Nat.mul_one] at this
 obtain⟨y,Dt⟩:∃y,y=lT 64 8 m:=⟨_,Z⟩;have amU:aA 256 y:=by rw[Dt];exact Ie _ _ _
 have arL:(m+y.length)%64=0:=by rw[Dt];exact Rp aN aN
 have anR:0<y.length:=by rw[Dt];simp[lT]
 have aqX:y.length≤200:=by
  rw[Dt];simp only[lT,length_append,length_cons,length_replicate,length_reverse,aI];omega
 rw[←Dt];obtain⟨a,n⟩:∃a,a=rest++y:=⟨_,Z⟩;have qY:aA 256 a:=by rw[n];exact h8.append amU
 have l7:a.length=q+y.length:=by rw[n,length_append,pG]
 have x2:a.length%64=0:=ay;rw[←n,←l7];obtain⟨R,Y⟩:∃R,R=dz gV 64 (a.length/64) a st:=⟨_,Z⟩;rw[←Y];obtain⟨j,uL⟩:∃j,j=rC:=⟨_,Z⟩;rw[←uL] at l6;rw[←uL];refine aB.en func233 ntmps233 ?_;refine aP "az" λC=> ?_;refine aP "Qz" λB=> ?_;refine aj "cr~b2T" ?_;refine WL.sub (Sub.refl _) (λw h=>h.bg 4 [2,1,0,3] Z)<|WL.c1 call267 Z QN Z ?_;rintro _ _ ⟨rfl,rfl⟩;refine aj "ceU" ?_;refine WL.val (V.fE (vs:=av .u32 st) ⟨isAgg349,sizeOf349⟩ (ak Z) (by rw[au];exact dL) (λ_=>Dy l6)) Z<|aP "z" λX=> ?_;refine aP "AG~5n0~c142" ?_;refine WA.t 3 Z (V.load (v:= .slice A q c) isAgg34 (ak Z) (λ_=>pU l6 dL)) ?_;refine aj "n4~c546" ?_;refine WA.t 7 Z (V.load (v:= .slice A q c) isAgg34 (ak Z) (λ_=>pU l6 dL)) ?_;refine aj "~~~g8n9~c:4;" ?_;refine WA.t 12 Z (V.load (v:= .slice A q c) isAgg34 (ak Z) (λ_=>pU l6 dL)) ?_;refine aj "~~~g=" ?_;refine WA.t 14 Z (V.aG (v':= .slice A q q) (V.slice (m:=q) (cap:=c) (l:=0) (h:=q) (u:=q) dO (ak Z) OO.none (OO.some (ak Z) (λ_=>Z)) (OO.some (ak Z) (λ_=>Z)) (by simp) ay ay ay) (λ_=>by rw[zK,Nat.sub_zero])) ?_;refine aj "n?~c@4AmB" ?_;refine WL.t1 call271 Z (TV ((QJ l6 dL).up)) Z<|aj "cmC" ?_;refine WL.c1 call270 Z (Ug (m:=m) ay) Z ?_;rintro _ _ ⟨A',M,U,S,rfl,x0,rfl⟩;rw[←Dt] at S ⊢;subst S;refine aj "cmD" ?_;refine WL.U6 (m:=q) (l:=rest) (news:=y) underlying34 yL (ak Z) (ak Z) ((hE F).up.up.up.up.up) (aV.seq (by rw[au,Nat.mul_one])) anR ay Z Z (λe d arW=> ?_);rw[←n,←l7] at *
 refine aj "c~AE~rLs" ?_;refine WC.loop (σ:=(Nat×Option Addr×Nat)×List Nat×List Nat) (λt=>[(0,ptr b 0),(2,ptr C 0),(3,ptr B 0),(4,ptr X 0),(5,.slice t.1.2.1 (64*t.1.1) t.1.2.2)]) (λt=>ah X 349 (av .u32 t.2.2)::aV (.slice e a.length d) 5 1 a.length (av .u8 a)::ah b 354 (dG 1 0 j st (.slice A q c) m)::ah B 97 (av .u8 (replicate 32 0))::ah C 97 (av .u8 (replicate 32 0))::E::F)
  (λt=>(∀H,Sl.Seq K (aV (.slice e a.length d) 5 1 a.length (av .u8 a)::H) t.1.2.1 (64*t.1.1) 1 (av .u8 t.2.1))∧64*t.1.1≤t.1.2.2∧aA 256 t.2.1∧t.2.2.length=8∧aA 4294967296 t.2.2∧dz gV 64 t.1.1 t.2.1 t.2.2=R) (λt=>t.1.1) ((a.length/64,e,d),a,st) ⟨λH=>by
   show Sl.Seq K _ e (64*(a.length/64)) 1 _;rw[show 64*(a.length/64)=a.length by omega];exact aV.seq (by rw[au,Nat.mul_one]),by show 64*(a.length/64)≤d;omega,qY,dL,RF,Y.symm⟩ (.cons Z (.cons Z (.cons Z (.cons Z (.cons (look_eq Z (by congr 1<;>(dsimp only;omega))) (.nil _)))))) (λw h=>h.bg 7 [2,0,3,5,4,6] Z) ?_
 rintro⟨⟨r,A8,c8⟩,dt,s8⟩ ⟨Om,JJ,Zn,qU,Nc,GL⟩;dsimp only at Om JJ Zn qU Nc GL ⊢;have wF:dt.length=64*r:=by have :=(Om []).len;rwa [au,Nat.mul_one] at this
 refine aP "rj~`h" (aW (λI=> ?_) λI=> ?_)
 ·simp only[cZ] at I;obtain⟨r,rfl⟩:∃k,r=k+1:=⟨r-1,by omega⟩;rw[dz] at GL;refine aj "E" ?_;have BI:=AJ s8 (dt.take 64);refine aP "~<M0~~&1~v2" ?_;refine UA.Ru 3 Z (λ_=>V.jd ⟨isAgg349,sizeOf349⟩ (ak Z)) ?_;refine aP "M4" ?_;refine UA.val 5 Z (λ_=>V.aG (v':= .slice A8 64 c8) (V.slice (m:=64*(r+1)) (cap:=c8) (l:=0) (h:=64) (u:=c8) dO (ak Z) OO.none (OO.some (ak Z) (λ_=>Z)) OO.none (by simp) ay ay ay) (λ_=>by rw[zK,Nat.sub_zero,Nat.sub_zero])) ?_;refine UA.call (vs:=[_,_,_]) 6 Z call269 (λ_=>⟨ak Z,ak Z,ak Z,trivial⟩) (λH' hF=>vC (o:=3) (s:=s8) (data:=dt.take 64) (A:=A8) (λi O=>by
   have h5:Rd K (aV (.slice e a.length d) 5 1 a.length (av .u8 a)::ah b 354 (dG 1 0 j st (.slice A q c) m)::ah B 97 (av .u8 (replicate 32 0))::ah C 97 (av .u8 (replicate 32 0))::E::F) (some ⟨b,3+i,none⟩) (.int .u32 ((j.getD i 0:Nat):Int)):=(DK l6 O).up;rw[←uL];exact λw hw=>h5 w (hF w hw)) (by have W:=(Om (ah b 354 (dG 1 0 j st (.slice A q c) m)::ah B 97 (av .u8 (replicate 32 0))::ah C 97 (av .u8 (replicate 32 0))::E::F)).take (show 64≤64*(r+1) by omega);rw[dU] at W;exact W.sat hF) (λx J=>Zn x (mem_of_mem_take J)) qU Nc ay) ?_
  refine UA.lI 7 Z sizeOf349 (λ_=>ak Z) (λ_=>ak Z) ?_;refine aP "(" λBS=> ?_;simp only[map_cons,map_nil,cons_append,nil_append];refine aj "g" ?_;refine WL.val (V.slice (m:=64*(r+1)) (cap:=c8) (l:=64) (h:=64*(r+1)) (u:=c8) dO (ak Z) (OO.some (ak Z) (λ_=>Z)) OO.none OO.none (by simp) ay ay ay) Z<|aj "N" ?_;refine⟨((r,_,c8-64),dt.drop 64,gV s8 (dt.take 64)),⟨λH=> ?_,by show 64*r≤c8-64;omega,λx J=>Zn x (mem_of_mem_drop J),AJ _ _,BO _ _,GL⟩,(by show r<r+1;omega),.cons Z (.cons Z (.cons Z (.cons Z (.cons (look_eq Z (by congr 1<;>(dsimp only;omega))) (.nil _))))),λw h=>h⟩;have T:=Seq.rD (Om H) (l:=64) (h:=64*(r+1)) (u:=c8) ay (Nat.le_refl _) JJ;rw[take_of_length_le (by rw[length_drop];omega),show 64*(r+1)-64=64*r by omega] at T;exact T
 ·simp only[cZ] at I;refine aj "WL" ?_;obtain rfl:r=0:=by omega
  rw[dz] at GL;rw[GL] at qU ⊢;obtain⟨L,N⟩:∃L,L=R.flatMap (λx=>(bG 256 4 x).reverse):=⟨_,Z⟩;have P:L.length=32:=by rw[N,yD,qU]
  have Q:∀i k,i<8→k<4→L.getD (4*i+k) 0=R.getD i 0/2^(24-8*k)%256:=λi k O hk=>by
   rw[N,DI 4 R i k ay hk,show (2:Nat)^(24-8*k)=256^(4-1-k) by rw[show 24-8*k=8*(4-1-k) by omega,Nat.pow_mul]]
  rw[←N];refine aP "pBR" ?_;refine WC.loop (σ:=Nat) (λi=>[(2,ptr C 0),(3,ptr B 0),(51,.agg (av .u32 R).toArray),(52,.i ((i:Nat):Int))]) (λi=>ah B 97 (av .u8 (L.take (4*i)++replicate (32-4*i) 0))::ah b 354 (dG 1 0 j st (.slice A q c) m)::ah C 97 (av .u8 (replicate 32 0))::E::F)
   (λi=>i≤8) (λi=>8-i) 0 (zero_le _) bC (λw h=>Sat.aT (h.bg 6 [3,2,4,5] Z) (by simp)) ?_
  rintro i O;refine aP "a~~sGJ" (aW (λG=> ?_) λG=> ?_)
  ·simp only[cZ] at G;refine aP "Y~~tlics" ?_;refine WC.loop (σ:=Nat) (λk=>[(2,ptr C 0),(3,ptr B 0),(51,.agg (av .u32 R).toArray),(52,.i ((i:Nat):Int)),(6,.i ((i:Nat):Int)),(7,.int .u32 ((R.getD i 0:Nat):Int)),(56,.i ((k:Nat):Int))]) (λk=>ah B 97 (av .u8 (L.take (4*i+k)++replicate (32-(4*i+k)) 0))::ah b 354 (dG 1 0 j st (.slice A q c) m)::ah C 97 (av .u8 (replicate 32 0))::E::F)
    (λk=>k≤4) (λk=>4-k) 0 (zero_le _) bC cO ?_
   rintro k hk;have o7:(L.take (4*i+k)++replicate (32-(4*i+k)) 0).length=32:=by rw[length_append,length_take,length_replicate];omega
   refine aP "a~~EGJ" (aW (λD=> ?_) λD=> ?_)
   ·simp only[cZ] at D;refine aj "YO" ?_;refine WL.val (V.Ob (i:=4) (ak Z) (ak Z)) Z (aP "b~Wx~~h" ?_);refine WL.val (V.rD (i:=24) (ak Z) (ak Z)) Z (aP "~%" ?_);refine WL.val (V.G6 (i:=R.getD i 0/2^(24-8*k)) (M:=256) runUnderlying339 runUnderlying5 (ak Z)) Z ?_;rw[←Q i k G D];refine aP "~K~Bcp=>" ?_;refine⟨k+1,(by show k+1≤4;omega),(by show 4-(k+1)<4-k;omega),.cons Z bC,λw h=>Sat.aT h (by rw[qp P ay,Nat.add_assoc])⟩
   ·simp only[cZ] at D;refine WC.exit ?_;obtain rfl:k=4:=by omega
    refine aP "p=>" ?_;exact⟨i+1,(by show i+1≤8;omega),(by show 8-(i+1)<8-i;omega),.cons Z bC,λw h=>h⟩
  ·simp only[cZ] at G;refine aj "W" ?_;obtain rfl:i=8:=by omega
   rw[take_of_length_le ay,Nat.sub_self,replicate_zero,append_nil];refine aP "pBA6" ?_;exact aF.ret (H':=ah b 354 (dG 1 0 j st (.slice A q c) m)::E::F) (bJ.one Z (R1.dh (l:=L) Z ⟨isAgg97,sizeOf97⟩)) (λw h=>h.bg 4 [1,3] Z) ⟨Z,Z⟩
theorem AZ:∀(k:Nat) (d s:List Nat),s.length=8→aA 4294967296 s→(dz gV 64 k d s).length=8∧aA 4294967296 (dz gV 64 k d s)
 | 0,_,_,h1,h2=>⟨h1,h2⟩
 | k+1,d,s,_,_=>by rw[dz];exact AZ k _ _ (AJ _ _) (BO _ _)
theorem JB(d:List Nat):(sum256 d).length=32:=by rw[sum256,yD,(AZ _ _ _ aN (by unfold aA;decide)).1]
theorem afz(d:List Nat):aA 256 (sum256 d):=by
 intro x a;rw[sum256] at a;obtain⟨y,_,b⟩:=mem_flatMap.1 a;exact bL aN _ _ x (mem_reverse.1 b)
theorem T9(hs:Seq K F A m 1 (av .u8 data))(h8:aA 256 data)(hm:m≤100000000) :
 aK prog 174 #[.slice A m cap] K F (.agg (av .u8 (sum256 data)).toArray):=by
 have a:data.length=m:=by have :=hs.len;rwa [au,Nat.mul_one] at this
 obtain⟨L,b⟩:∃L,L=sum256 data:=⟨_,Z⟩;have r:L.length=32:=by rw[b];exact JB data
 rw[←b];rw[sum256,NI data,a] at b;obtain⟨d,dL⟩:∃d,d=dz gV 64 (m/64) data uR:=⟨_,Z⟩;have j:d.length=8∧aA 4294967296 d:=by rw[dL];exact AZ _ _ _ aN (by unfold aA;decide)
 rw[←dL] at b;refine aB.en func174 ntmps174 ?_;refine aP "az" λC=> ?_;refine aj "Q" ?_;refine WL.call (vs:=[]) call231 trivial (Uu) Z ?_;rintro _ _ ⟨B,rfl,rfl⟩;refine aj "0" ?_;refine WL.c2 call232 Z Z (Sb (data:=data) hs.up h8 hm) Z ?_;rintro _ _ ⟨rfl,y,u,E,k,e,rfl⟩;rw[←dL];refine aj "ce" ?_;refine WL.sub (Sub.refl _) (λw h=>h.bg 3 [1,0,2] Z)<|WL.c1 call233 Z (abS k (λx n=>h8 x (mem_of_mem_drop n)) e (mod_lt _ aN) hm Z j.1 j.2) Z ?_;rintro _ _ ⟨rfl,rfl⟩;rw[←b];refine WL.sub (Sub.refl _) (λw h=>h.bg 3 [2] Z)<|aP "A6" ?_;exact aF.ret (H':=F) (bJ.one Z (R1.dh (l:=L) Z ⟨isAgg97,sizeOf97⟩)) eO ⟨Z,Z⟩
end Go.Proofs.YtcedojacbhnbiaaGreat
