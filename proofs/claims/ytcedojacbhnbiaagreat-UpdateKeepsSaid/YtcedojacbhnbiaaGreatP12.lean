import Derived.Test.YtcedojacbhnbiaaGreatP11
import Derived.Laws.LoneSync
set_option autoImplicit true
set_option linter.all false
set_option maxHeartbeats 2000000
set_option maxRecDepth 20000
set_option relaxedAutoImplicit true
namespace Go.Proofs.YtcedojacbhnbiaaGreat
open Go.Sl Go.RowKit Tryz List Nat
set_option exponentiation.threshold 5000
def Ub(pub:Nat)(msg:List Nat)(r s:Nat):Nat :=
 if (eZ pub).isSome∧(eZ r).isSome then (if kE pub msg r s then 0 else 191) else 170
theorem NP(h:¬((eZ pub).isSome∧(eZ r).isSome)):kE pub msg r s=false:=by grind [kE]
theorem aem:Ub pub msg r s=0↔kE pub msg r s=true:=by grind [Ub,NP]
theorem X8(y:Nat):(vS y).1<fP:=Pv _
theorem Js(h:eZ b=some p):p.1<fP∧p.2<fP:=by
 rw[Jh] at h;obtain⟨y,hy⟩:∃y,y=b%57896044618658097711785492504343953926634992332820282019728792003956564819968:=⟨_,rfl⟩;obtain⟨u,hu⟩:∃u,u=vS y:=⟨_,rfl⟩;have hul:u.1<fP:=by rw[hu];exact X8 y
 obtain⟨z,hz⟩:∃z,z=uF 0 u.1:=⟨_,rfl⟩;have hzl:z<fP:=by rw[hz];exact nX _ _
 rw[←hy,←hu,←hz] at h;clear hu hy hz;obtain⟨c,hc⟩:∃c:Prop,c=(b<57896044618658097711785492504343953926634992332820282019728792003956564819968):=⟨_,rfl⟩;by_cases h0:y<fP∧u.2=true
 ·rw[if_pos h0] at h;split at h
  ·injection h with h;rw[←h];exact⟨hul,h0.1⟩
  ·split at h
   ·cases h
   ·injection h with h;rw[←h];exact⟨hzl,h0.1⟩
 ·rw[if_neg h0] at h;cases h
theorem M8:∀(vs cs:List Value) (o:Nat) (r:List Value),cs.drop o=vs++r→Oc cs o vs
 | [],_,_,_,_=>trivial
 | v::vs,cs,o,r,h=>by
  refine⟨?_,M8 vs cs (o+1) r ?_⟩
  ·have h1:=getElem?_drop (xs:=cs) (i:=o) (j:=0);rw[h] at h1;rw[Nat.add_zero] at h1;rw[←h1];rfl
  ·have h2:(cs.drop o).drop 1=vs++r:=by rw[h];rfl
   rwa [drop_drop] at h2
theorem ZL(k:IntKind)(l r:List Nat):Oc (av k (l++r)) 0 (av k l):=by grind [M8,dx]
theorem abh(k:IntKind)(x:Nat)(r:List Nat):Oc (av k (bG 256 32 x++r)) 32 (av k r):=by simp_all [M8,kQ,drop_left',aI,append_nil]
theorem ajL(a b:Nat×Nat):iW prog 10000 219 (pt a) (pt b) (decide (bG 256 32 a.1=bG 256 32 b.1)&&(decide (bG 256 32 a.2=bG 256 32 b.2)&&true)) :=
 iW.struct underlying219 (by kernel_rfl)
  (JZ.cons aN (yH ⟨isAgg97,sizeOf97⟩ (vs:=av .u8 (bG 256 32 a.1)) rfl (ZL _ _ _)) (yH ⟨isAgg97,sizeOf97⟩ (vs:=av .u8 (bG 256 32 b.1)) rfl (ZL _ _ _)) (iW.av underlying97 sizeOf5 isAgg5 underlying5 (jl _) (jl _))
  (JZ.cons aN (yH ⟨isAgg97,sizeOf97⟩ (vs:=av .u8 (bG 256 32 a.2)) rfl (abh _ _ _)) (yH ⟨isAgg97,sizeOf97⟩ (vs:=av .u8 (bG 256 32 b.2)) rfl (abh _ _ _)) (iW.av underlying97 sizeOf5 isAgg5 underlying5 (jl _) (jl _)) JZ.nil))
theorem aeu(p q:Nat×Nat):(Pm p q).1<fP∧(Pm p q).2<fP:=by
 unfold Pm;cases uK p&&uK q
 ·exact⟨(by show 0<fP;decide),(by show 0<fP;decide)⟩
 ·exact PY _
theorem VP(hx:x<fP)(hy:y<fP):decide (bG 256 32 x=bG 256 32 y)=beq x y:=by
 rw[Bool.eq_iff_iff,decide_eq_true_eq,beq_eq];constructor
 ·intro h;have h1:=yA (zR hx);have h2:=yA (zR hy);rw[←h1,h,h2]
 ·intro h;rw[h]
theorem WK(agt:pub<115792089237316195423570985008687907853269984665640564039457584007913129639936)(hs:Seq K F A m 1 (av .u8 msg))(h8:aA 256 msg)(hm:m≤10000000)(hsg:Seq K F B 64 1 (av .u8 sg))(akP:aA 256 sg)(bA:64≤cap2) :
 aK prog 84 #[o8 pub,.slice A m cap,.slice B 64 cap2] K F (.i ((Ub pub msg (vl 256 (sg.take 32)) (vl 256 (sg.drop 32)):Nat):Int)):=by
 have Oa:msg.length=m:=by have :=hs.len;rwa [au,Nat.mul_one] at this
 have mR:sg.length=64:=by have :=hsg.len;rwa [au,Nat.mul_one] at this
 obtain⟨r,hr⟩:∃r,r=vl 256 (sg.take 32):=⟨_,rfl⟩;obtain⟨s,RF⟩:∃s,s=vl 256 (sg.drop 32):=⟨_,rfl⟩;rw[←hr,←RF];have ht1:(sg.take 32).length=32:=by rw[length_take];omega
 have ht2:(sg.drop 32).length=32:=by rw[length_drop];omega
 have uM:aA 256 (sg.take 32):=fun y hy=>akP y (mem_of_mem_take hy);have pI:aA 256 (sg.drop 32):=fun y hy=>akP y (mem_of_mem_drop hy);have pG:r<115792089237316195423570985008687907853269984665640564039457584007913129639936:=by have :=nH uM;rw[ht1,←hr] at this;exact this
 have acj:s<115792089237316195423570985008687907853269984665640564039457584007913129639936:=by have :=nH pI;rw[ht2,←RF] at this;exact this
 have kr:bG 256 32 r=sg.take 32:=by rw[hr,ng uM ht1]
 have UN:bG 256 32 s=sg.drop 32:=by rw[RF,ng pI ht2]
 have hq1:Seq K F B 32 1 (av .u8 (bG 256 32 r)):=by rw[kr,←dU];exact hsg.take aN
 have GL:Seq K F (if cap2=32 then B else B.map (·.add (32*1))) 32 1 (av .u8 (bG 256 32 s)):=by
  have h0:=Seq.rD (l:=32) (h:=64) (u:=cap2) hsg aN aN bA;rw[take_of_length_le ay] at h0;rw[UN];exact h0
 obtain⟨B2,hB2⟩:∃B2,B2=(if cap2=32 then B else B.map (·.add (32*1))):=⟨_,rfl⟩;rw[←hB2] at GL;refine aB.en func84 ntmps84 ?_;refine aj "a+" fun b3=> ?_;refine aj "fk" ?_;refine WL.val (V.XV (j:=64) (ak rfl) (ak rfl)) rfl ?_;refine aj "i" (aW (fun h0=> ?_) fun h0=> ?_)
 ·skip
  refine aj "G" ?_;exact absurd h0 (by simp)
 ·skip
  refine aP ",~HJ0" ?_;refine UA.val 1 rfl (fun _=>V.aG (v':= .slice B 32 cap2) (V.slice (m:=64) (cap:=cap2) (l:=0) (h:=32) (u:=cap2) dO (ak rfl) OO.none (OO.some (ak rfl) (fun _=>rfl)) OO.none (by simp) ay ay ay) (fun _=>by rw[zK,Nat.sub_zero,Nat.sub_zero])) ?_;refine UA.val 2 rfl (fun _=>V.abP runUnderlying97 (ak rfl) (fun _=>by decide)) ?_;refine UA.val 3 rfl (fun _=>V.VD (l:=bG 256 32 r) ⟨isAgg97,sizeOf97⟩ (ak rfl) (fun _=>hq1.up)) ?_;refine aP "J4" ?_;refine UA.val 5 rfl (fun _=>V.aG (v':= .slice B2 32 (cap2-32)) (V.slice (m:=64) (cap:=cap2) (l:=32) (h:=64) (u:=cap2) dO (ak rfl) (OO.some (ak rfl) (fun _=>rfl)) OO.none OO.none (by simp) ay ay ay) (fun _=>by rw[hB2])) ?_;refine UA.val 6 rfl (fun _=>V.abP runUnderlying97 (ak rfl) (fun _=>by decide)) ?_;refine UA.val 7 rfl (fun _=>V.VD (l:=bG 256 32 s) ⟨isAgg97,sizeOf97⟩ (ak rfl) (fun _=>GL.up)) ?_;refine UA.alloc 8 rfl zeroValue97 (cs:=av .u8 (replicate 32 0)) rfl ?_;refine UA.alloc 9 rfl zeroValue97 (cs:=av .u8 (replicate 32 0)) rfl ?_;refine UA.gq 10 1 rfl rfl sizeOf97 (fun _ _=>ak rfl) (fun _ _=>ak rfl) ?_;refine UA.gq 11 0 rfl rfl sizeOf97 (fun _ _=>ak rfl) (fun _ _=>ak rfl) ?_;refine aP "|" fun BS=> ?_;simp only[map_cons,map_nil,cons_append,nil_append];refine aP "aA" ?_;refine WL.t1 call143 rfl (vO agt) rfl ?_;refine aP "6x" fun b9=> ?_;refine aP "yvA" ?_;refine WL.t1 call143 rfl (vO pG) rfl ?_;refine aP "6x" fun b11=> ?_;refine aP "yf~~icV" ?_;refine WL.bI (oj:=_) rfl rfl rfl GC.f (V.XV (j:=0) (OV.g rfl id) (ak rfl)) rfl ?_;refine aj "Li" (aW (fun h1=> ?_) fun h1=> ?_)
  ·have N7:¬((eZ pub).isSome∧(eZ r).isSome):=by
    revert h1;cases (eZ pub).isSome<;>cases (eZ r).isSome<;>simp
   refine aj "G" ?_;exact qR F rfl rfl eO ⟨by rw[Ub,if_neg N7];rfl,rfl⟩
  ·have N7:(eZ pub).isSome∧(eZ r).isSome:=by
    revert h1;cases (eZ pub).isSome<;>cases (eZ r).isSome<;>simp
   obtain⟨p,hp⟩:=Option.isSome_iff_exists.1 N7.1;obtain⟨q,hq⟩:=Option.isSome_iff_exists.1 N7.2;have l7:=Js hp;have Ki:=Js hq;obtain⟨k,hk⟩:∃k,k=HV (bG 256 32 r++bG 256 32 pub++msg):=⟨_,rfl⟩;have vX:k<115792089237316195423570985008687907853269984665640564039457584007913129639936:=by rw[hk];exact aaT _
   obtain⟨a,ha⟩:∃a,a=nN s 32 cB:=⟨_,rfl⟩;obtain⟨b,hb⟩:∃b,b=Pm q (nN k 32 p):=⟨_,rfl⟩;have hv:kE pub msg r s=(blt s cL&&(beq a.1 b.1&&beq a.2 b.2)):=by unfold kE;rw[hp,hq,ha,hb,hk]
   rw[show Ub pub msg r s=if kE pub msg r s then 0 else 191 by rw[Ub,if_pos N7],hv];rw[show (eZ pub).getD (0,0)=p by rw[hp];rfl,show (eZ r).getD (0,0)=q by rw[hq];rfl];refine aP ",aA" ?_;refine WL.t1 call144 rfl (YU acj) rfl ?_;refine aj "*i" (aW (fun h2=> ?_) fun h2=> ?_)
   ·simp only[oK] at h2;have EJ:blt s cL=false:=Bool.eq_false_iff.2 fun h=>h2 (le_of_ble_eq_true h);rw[EJ];exact aj "G." trivial
   ·simp only[oK] at h2;have EJ:blt s cL=true:=ble_eq_true_of_le h2;rw[EJ];refine WC.skip ?_;refine WC.join (σ:=Nat) (fun b13=>[(3,ptr b3 0),(6,.i 0),(8,ptr (BS 9) 0),(9,ptr b9 0),(11,ptr b11 0),(13,ptr b13 0)]) (fun b13=>ah b13 97 (av .u8 (bG 256 32 k))::ah b11 219 (av .u8 (Wj q))::ah b9 219 (av .u8 (Wj p))::ah (BS 9) 97 (av .u8 (bG 256 32 s))::F) (fun _=>True) ?_ ?_
    ·skip
     refine aj "~Z" ?_;refine WA.t 0 rfl (V.kM zJ (ak rfl)) ?_;refine WA.t 1 rfl (V.kM zJ (ak rfl)) ?_;refine aj "m2" ?_;refine WA.two (i:=3) (j:=5) cO (by kernel_rfl) rfl rfl ?_ ?_
     ·refine WL.buildSlice (E:=34) (cs:=[_,_,_]) (vs:=[(0,_),(1,_),(2,_)]) ⟨ak rfl,ak rfl,ak rfl,trivial⟩ rfl (zW _ _ _ _ _ _ _ _ _) rfl (fun b51=> ?_);refine WL.nil ?_;refine WA.two (i:=4) (j:=5) eO (by kernel_rfl) rfl rfl ?_ ?_
      ·refine WL.c1 call145 rfl ((Mt (ps:=[⟨some ⟨BS 8,0,none⟩,32,32,bG 256 32 r⟩,⟨some ⟨b3,0,none⟩,32,32,bG 256 32 pub⟩,⟨A,m,cap,msg⟩]) (by repeat (first | exact Seq.all rfl | apply Seq.up)) (fun p hp=>by
        simp only[mem_cons,not_mem_nil,or_false] at hp;rcases hp with rfl | rfl | rfl
        ·repeat (first | exact Seq.pz (jl _) | apply Seq.up)
        ·repeat (first | exact Seq.pz (jl _) | apply Seq.up)
        ·repeat (first | exact hs | apply Seq.up)) (by
        intro x hx;simp only[flatMap_cons,flatMap_nil,append_nil,mem_append] at hx;rcases hx with h | h | h
        ·exact bL aN _ _ x h
        ·exact bL aN _ _ x h
        ·exact h8 x h) (by simp only[flatMap_cons,flatMap_nil,append_nil,length_append,aI];omega) aN).eq (v':=o8 k) (by rw[hk];simp)) rfl ?_
       rintro _ H0 ⟨rfl,h0⟩;subst H0;refine aP "bn5x" fun b13=> ?_;refine aP "bn6ybO~A" ?_;exact⟨b13,trivial,.cons rfl bC,fun w h=>h.bg 7 [0,2,3,4] rfl⟩
      ·refine aP "x" fun b13=> ?_;refine aj "bn4" ?_;refine WL.c1 call145 rfl ((Mt (ps:=[⟨some ⟨BS 8,0,none⟩,32,32,bG 256 32 r⟩,⟨some ⟨b3,0,none⟩,32,32,bG 256 32 pub⟩,⟨A,m,cap,msg⟩]) (by repeat (first | exact Seq.all rfl | apply Seq.up)) (fun p hp=>by
        simp only[mem_cons,not_mem_nil,or_false] at hp;rcases hp with rfl | rfl | rfl
        ·repeat (first | exact Seq.pz (jl _) | apply Seq.up)
        ·repeat (first | exact Seq.pz (jl _) | apply Seq.up)
        ·repeat (first | exact hs | apply Seq.up)) (by
        intro x hx;simp only[flatMap_cons,flatMap_nil,append_nil,mem_append] at hx;rcases hx with h | h | h
        ·exact bL aN _ _ x h
        ·exact bL aN _ _ x h
        ·exact h8 x h) (by simp only[flatMap_cons,flatMap_nil,append_nil,length_append,aI];omega) aN).eq (v':=o8 k) (by rw[hk];simp)) rfl ?_
       rintro _ H0 ⟨rfl,h0⟩;subst H0;refine aP "bn6ybO~A" ?_;exact⟨b13,trivial,.cons rfl bC,fun w h=>h.bg 7 [0,2,3,4] rfl⟩
     ·refine aP "x" fun b13=> ?_;refine aj "bn3" ?_;refine WL.buildSlice (E:=34) (cs:=[_,_,_]) (vs:=[(0,_),(1,_),(2,_)]) ⟨ak rfl,ak rfl,ak rfl,trivial⟩ rfl (zW _ _ _ _ _ _ _ _ _) rfl (fun b51=> ?_);refine aj "bn4" ?_;refine WL.c1 call145 rfl ((Mt (ps:=[⟨some ⟨BS 8,0,none⟩,32,32,bG 256 32 r⟩,⟨some ⟨b3,0,none⟩,32,32,bG 256 32 pub⟩,⟨A,m,cap,msg⟩]) (by repeat (first | exact Seq.all rfl | apply Seq.up)) (fun p hp=>by
       simp only[mem_cons,not_mem_nil,or_false] at hp;rcases hp with rfl | rfl | rfl
       ·repeat (first | exact Seq.pz (jl _) | apply Seq.up)
       ·repeat (first | exact Seq.pz (jl _) | apply Seq.up)
       ·repeat (first | exact hs | apply Seq.up)) (by
       intro x hx;simp only[flatMap_cons,flatMap_nil,append_nil,mem_append] at hx;rcases hx with h | h | h
       ·exact bL aN _ _ x h
       ·exact bL aN _ _ x h
       ·exact h8 x h) (by simp only[flatMap_cons,flatMap_nil,append_nil,length_append,aI];omega) aN).eq (v':=o8 k) (by rw[hk];simp)) rfl ?_
      rintro _ H0 ⟨rfl,h0⟩;subst H0;refine aP "bn6ybO~A" ?_;exact⟨b13,trivial,.cons rfl bC,fun w h=>h.bg 7 [1,2,3,4] rfl⟩
    ·skip
     rintro b13 -
     refine aP "M~H" ?_;refine UA.val 0 rfl (fun _=>V.kM zJ (ak rfl)) ?_;refine UA.call (vs:=[]) 1 rfl call147 (fun _=>trivial) (fun H' hF=>Sn) ?_;refine UA.call (vs:=[_,_]) 2 rfl call146 (fun _=>⟨ak rfl,ak rfl,trivial⟩) (fun H' hF=>(ES ((Seq.pz (jl _)).up.up.up.sat hF) (bL aN _ _) aN (p:=cB) ⟨by decide,by decide⟩).eq (v':= .tuple #[pt a,.i ((if uK cB then 0 else 170:Nat):Int)]) (by rw[yA acj,ha])) ?_;refine aP "J3~34~35" ?_;refine UA.alloc 6 rfl zeroValue219 (cs:=av .u8 (replicate 64 0)) rfl ?_;refine aP "~~])8|" fun bs2=> ?_;simp only[map_cons,map_nil,cons_append,nil_append];refine aP "M~H" ?_;refine UA.val 0 rfl (fun _=>V.kM zJ (ak rfl)) ?_;refine aP "~d1" ?_;refine UA.call (vs:=[_,_]) 2 rfl call146 (fun _=>⟨ak rfl,ak rfl,trivial⟩) (fun H' hF=>(ES ((Seq.pz (jl _)).up.sat hF) (bL aN _ _) aN (p:=p) (Sr l7)).eq (v':= .tuple #[pt (nN k 32 p),.i ((if uK p then 0 else 170:Nat):Int)]) (by rw[yA vX])) ?_;refine aP "J3~34~35" ?_;refine UA.alloc 6 rfl zeroValue219 (cs:=av .u8 (replicate 64 0)) rfl ?_;refine aP "~~])8|" fun bs3=> ?_;simp only[map_cons,map_nil,cons_append,nil_append];refine aP "aAA" ?_;refine WL.t2 call148 rfl rfl ((Yc (Sr Ki) (Sr (Lf _ _ _))).eq (v':= .tuple #[pt b,.i ((if uK q&&uK (nN k 32 p) then 0 else 170:Nat):Int)]) (by rw[hb])) rfl ?_;refine aP "6yFaAA" ?_;refine WL.val (V.Qc (by kernel_rfl) (ak rfl) (ak rfl) (ajL a b)) rfl ?_;have hal:a.1<fP∧a.2<fP:=by rw[ha];exact Lf _ _ _
     have BI:b.1<fP∧b.2<fP:=by rw[hb];exact aeu _ _
     rw[VP hal.1 BI.1,VP hal.2 BI.2];refine aj "i" (aW (fun h3=> ?_) fun h3=> ?_)
     ·have UR:(beq a.1 b.1&&beq a.2 b.2)=false:=by
       revert h3;cases beq a.1 b.1<;>cases beq a.2 b.2<;>simp
      refine aj "G" ?_;exact qR F rfl rfl eO ⟨by rw[UR];rfl,rfl⟩
     ·have UR:(beq a.1 b.1&&beq a.2 b.2)=true:=by
       revert h3;cases beq a.1 b.1<;>cases beq a.2 b.2<;>simp
      refine aj "qG" ?_;exact qR F rfl rfl eO ⟨by rw[UR];rfl,rfl⟩
theorem YP:∀n:Nat,n<32→1≤n→(18446744073709551616-n) &&& 31=32-n:=by decide
theorem CQ(i:Nat):2^(i+1)/2=2^i:=by omega
theorem acA(h:n%2^(i+1)=0):n ||| 2^i=n+2^i:=by
 have h1:=div_add_mod n (2^(i+1));rw[h,Nat.add_zero,Nat.mul_comm] at h1;rw[←h1,uU (Nat.pow_lt_pow_right aN ay)]
theorem Vy(h:n%2^(i+1)=0):n%2^i=0:=by simp_all [Nat.pow_succ,mod_mul]
theorem abb(hX:X=18446744073709551616*u+v)(hu:u<18446744073709551616):((u/18446744073709551616+(u%18446744073709551616+v/18446744073709551616+0)/18446744073709551616)%18446744073709551616=0∧((u%18446744073709551616+v/18446744073709551616+0)%18446744073709551616<L∨((u%18446744073709551616+v/18446744073709551616+0)%18446744073709551616=L∧v%18446744073709551616=0))∧v<18446744073709551616*18446744073709551616∧L<18446744073709551616)↔(X≤L*18446744073709551616∧v<18446744073709551616*18446744073709551616∧L<18446744073709551616):=by omega
theorem Us(hx:x<4294967296)(h1:1≤n)(h63:n<32):aK prog 334 #[.int .u32 ((x:Nat):Int),.i (-((n:Nat):Int))] K F (.int .u32 ((pR x n:Nat):Int)):=by
 refine aB.en func334 ntmps334 ?_;refine aj "aj" ?_;refine WL.val (V.aG (v':= .int .u64 ((18446744073709551616-n:Nat):Int)) (V.FC runUnderlying3 runUnderlying232 (ak rfl)) (fun _=>by congr 1;show ((-(n:Int))%18446744073709551616)=_;omega)) rfl ?_;refine WL.val (V.CY (j:=31) 64 (ak rfl) (ak rfl) (fun _=>⟨by show 18446744073709551616-n<18446744073709551616;omega,by decide⟩)) rfl ?_;rw[YP n h63 h1];refine aj "Y" ?_;refine WL.val (V.G7 (M:=4294967296) (ak rfl) (ak rfl)) rfl (aj "z" ?_);refine WL.val (V.ake (i:=32) (M:=18446744073709551616) (ak rfl) (ak rfl)) rfl (aP "~8" ?_);rw[show 32-(32-n)=n by omega];refine WL.val (V.Zv (i:=x*2^(32-n)%4294967296) (j:=x/2^n) 32 (ak rfl) (ak rfl) (fun _=>⟨mod_lt _ aN,Nat.lt_of_le_of_lt (div_le_self _ _) hx⟩)) rfl ?_;exact aj "d." trivial
theorem ig(hx:x<4294967296)(h1:1≤n)(h63:n<32):aK prog 313 #[.int .u32 ((x:Nat):Int),.i ((n:Nat):Int)] K F (.int .u32 ((pR x n:Nat):Int)):=by
 refine aB.en func313 ntmps313 ?_;refine aj "aY~~>" ?_;refine WL.t2 call334 rfl rfl (Us hx h1 h63) rfl ?_;exact aj "d." trivial
theorem Kg(hp:p<1000):aK prog 333 #[.i ((p:Nat):Int)] K F (.int .u32 ((fQ p 2 64 37 0%4294967296:Nat):Int)):=by
 obtain⟨R,hR⟩:∃R,R=fQ p 2 64 37 0:=⟨_,rfl⟩;rw[←hR];refine aB.en func333 ntmps333 ?_;refine aj "avuagt" ?_;refine WC.loop (σ:=Nat×Nat) (fun s=>[(0,.i ((p:Nat):Int)),(3,.int .u64 ((s.2:Nat):Int)),(4,.int .u64 ((2^s.1/2:Nat):Int))]) (fun _=>F)
  (fun s=>s.1≤37∧s.2%2^s.1=0∧s.2+2^s.1≤2^37∧fQ p 2 64 s.1 s.2=R) (fun s=>s.1) (37,0) ⟨Nat.le_refl _,zero_mod _,by show 0+2^37≤2^37;omega,hR.symm⟩ bC cO ?_
 rintro⟨k,n⟩ ⟨hk,h0,hl,hq⟩;dsimp only at hk h0 hl hq ⊢;refine aP "r~^i" (aW (fun aL=> ?_) fun aL=> ?_)
 ·simp only[cZ] at aL;obtain⟨i,rfl⟩:∃q,k=q+1:=⟨k-1,by rcases eq_zero_or_pos k with h | h; (subst h;exact absurd aL aN);omega⟩;rw[CQ];rw[fQ] at hq;rw[Nat.pow_succ] at hl;have hpi:0<2^i:=Nat.pow_pos aN;refine aj "1c" ?_;refine WL.val (V.Zv (i:=n) (j:=2^i) 64 (ak rfl) (ak rfl) (fun _=>⟨by omega,by omega⟩)) rfl ?_;rw[acA h0];obtain⟨x,hx⟩:∃x,x=n+2^i:=⟨_,rfl⟩;rw[←hx] at hq ⊢;have uI:x<18446744073709551616:=ay;have hxx:x^2=x*x:=Nat.pow_two x;rw[hxx] at hq;have L8:=Vy h0;refine aj "Y" ?_;refine WL.t2 call293 rfl rfl (ku uI uI) rfl ?_;refine aj "DY" ?_;refine WL.val (V.qQ (i:=p) runUnderlying3 runUnderlying306 (ak rfl) (fun _=>kN (M:=18446744073709551616) rfl rfl ay)) rfl ?_;refine aP "~jcVV" ?_;refine WL.bI (oj:=_) rfl rfl rfl GC.f (V.qQ (i:=p) runUnderlying3 runUnderlying306 (OV.g rfl id) (fun _=>kN (M:=18446744073709551616) rfl rfl ay)) rfl ?_;refine WL.bI (oj:=_) rfl rfl rfl GC.f (V.G5 (OV.g rfl id) (OV.g rfl id)) rfl (aj "~~X~~H" ?_);refine WL.bI (oj:=_) rfl rfl rfl GC.ct (V.G5 (j:=0) (OV.g rfl id) (ak rfl)) rfl ?_;refine aj "~~YLi" (aW (fun h1=> ?_) fun h1=> ?_)
  ·simp only[Bool.or_eq_true,Bool.or_eq_false_iff,Gi] at h1;rw[show ble (x*x) (p*2^64)=true from ble_eq_true_of_le ay,cond_true] at hq;refine aP "hgh~~IX" ?_;exact⟨(i,x),⟨by show i≤37;omega,by show x%2^i=0;rw[hx,add_mod_right];exact L8,by show x+2^i≤2^37;omega,hq⟩,(by show i<i+1;omega),.cons rfl bC,fun w h=>h⟩
  ·simp only[Bool.or_eq_true,Bool.or_eq_false_iff,Gi] at h1;rw[show ble (x*x) (p*2^64)=false from Bool.eq_false_iff.2 fun h=>by have :=le_of_ble_eq_true h;omega,cond_false] at hq;refine aP "qh~~IX" ?_;exact⟨(i,n),⟨by show i≤37;omega,L8,by show n+2^i≤2^37;omega,hq⟩,(by show i<i+1;omega),.cons rfl bC,fun w h=>h⟩
 ·simp only[cZ] at aL;have hk0:k=0:=by
   rcases eq_zero_or_pos k with h | h
   ·exact h
   ·obtain⟨i,rfl⟩:∃q,k=q+1:=⟨k-1,by omega⟩;have hpi:0<2^i:=Nat.pow_pos aN;rw[CQ] at aL;omega
  refine aj "W" ?_;subst hk0;rw[fQ] at hq;refine aP "h~~~td" ?_;exact qR F rfl rfl eO ⟨by rw[hq],rfl⟩
theorem OA(hp:p<1000):aK prog 332 #[.i ((p:Nat):Int)] K F (.int .u32 ((fQ p 3 96 36 0%4294967296:Nat):Int)):=by
 obtain⟨R,hR⟩:∃R,R=fQ p 3 96 36 0:=⟨_,rfl⟩;rw[←hR];refine aB.en func332 ntmps332 ?_;refine aj "avuagt" ?_;refine WC.loop (σ:=Nat×Nat) (fun s=>[(0,.i ((p:Nat):Int)),(3,.int .u64 ((s.2:Nat):Int)),(4,.int .u64 ((2^s.1/2:Nat):Int))]) (fun _=>F)
  (fun s=>s.1≤36∧s.2%2^s.1=0∧s.2+2^s.1≤2^36∧fQ p 3 96 s.1 s.2=R) (fun s=>s.1) (36,0) ⟨Nat.le_refl _,zero_mod _,by show 0+2^36≤2^36;omega,hR.symm⟩ bC cO ?_
 rintro⟨k,n⟩ ⟨hk,h0,hl,hq⟩;dsimp only at hk h0 hl hq ⊢;refine aP "r~^i" (aW (fun aL=> ?_) fun aL=> ?_)
 ·simp only[cZ] at aL;obtain⟨i,rfl⟩:∃q,k=q+1:=⟨k-1,by rcases eq_zero_or_pos k with h | h; (subst h;exact absurd aL aN);omega⟩;rw[CQ];rw[fQ] at hq;rw[Nat.pow_succ] at hl;have hpi:0<2^i:=Nat.pow_pos aN;refine aj "1c" ?_;refine WL.val (V.Zv (i:=n) (j:=2^i) 64 (ak rfl) (ak rfl) (fun _=>⟨by omega,by omega⟩)) rfl ?_;rw[acA h0];obtain⟨x,hx⟩:∃x,x=n+2^i:=⟨_,rfl⟩;rw[←hx] at hq ⊢;have uI:x<18446744073709551616:=ay;have hxx:x^3=x*x*x:=by rw[Nat.pow_succ,Nat.pow_two]
  rw[hxx] at hq;have L8:=Vy h0;have gL:x≤2^36:=ay;have ar9:x*x≤2^36*2^36:=Nat.mul_le_mul gL gL;obtain⟨hi,hhi⟩:∃hi,hi=x*x/18446744073709551616:=⟨_,rfl⟩;obtain⟨lo,aou⟩:∃lo,lo=x*x%18446744073709551616:=⟨_,rfl⟩;have anT:hi<1000:=ay;have akk:lo<18446744073709551616:=ay;have hX:x*x*x=18446744073709551616*(hi*x)+lo*x:=by
   rw[show x*x=18446744073709551616*hi+lo by omega,Nat.add_mul,Nat.mul_assoc]
  have hu:hi*x<18446744073709551616:=Nat.lt_of_le_of_lt (Nat.mul_le_mul (Nat.le_of_lt anT) gL) aN;have hv:lo*x<18446744073709551616*18446744073709551616:=mul_lt_mul'' akk uI;have aeK:=abb (L:=p*2^32%18446744073709551616) hX hu;refine aj "Y" ?_;refine WL.t2 call293 rfl rfl ((ku uI uI).eq (v':= .tuple #[.int .u64 ((hi:Nat):Int),.int .u64 ((lo:Nat):Int)]) (by rw[hhi,aou])) rfl ?_;refine aj "DY" ?_;refine WL.t2 call293 rfl rfl (ku (show hi<18446744073709551616 by omega) uI) rfl ?_;refine aj "DY" ?_;refine WL.t2 call293 rfl rfl (ku akk uI) rfl ?_;refine aP "DY~:DY~Tj" ?_;refine WL.val (V.qQ (i:=p) runUnderlying3 runUnderlying306 (ak rfl) (fun _=>kN (M:=18446744073709551616) rfl rfl ay)) rfl ?_;refine WL.val (V.G7 (j:=32) (M:=18446744073709551616) (ak rfl) (ak rfl)) rfl (aP "j~~$c!!" ?_);refine WL.bI (oj:=_) rfl rfl rfl GC.t (V.zI (OV.g rfl id) (OV.g rfl id)) rfl (aj "~~+~~e~~e" ?_);refine WL.bI (oj:=_) rfl rfl rfl GC.cf (V.G5 (OV.g rfl id) (OV.g rfl id)) rfl (WL.bI (oj:=_) rfl rfl rfl GC.cf (V.move (OV.g rfl id)) rfl (aj "~~H" ?_));refine WL.bI (oj:=_) rfl rfl rfl GC.ct (V.G5 (j:=0) (OV.g rfl id) (ak rfl)) rfl (WL.bI (oj:=_) rfl rfl rfl GC.cf (V.Ci (OV.g rfl id) (OV.g rfl id)) rfl ?_);refine aj "~~.Qi" (aW (fun h1=> ?_) fun h1=> ?_)
  ·simp only[Bool.or_eq_true,Bool.or_eq_false_iff,Gi] at h1;have hL:p*2^32%18446744073709551616<18446744073709551616:=mod_lt _ aN;have hLe:p*2^32%18446744073709551616*18446744073709551616=p*2^96:=by rw[mod_eq_of_lt ay];omega
   rw[hLe] at aeK;rw[show ble (x*x*x) (p*2^96)=true from ble_eq_true_of_le (aeK.1 ⟨h1.1,h1.2,hv,hL⟩).1,cond_true] at hq;refine aP "hgh~~IX" ?_;exact⟨(i,x),⟨by show i≤36;omega,by show x%2^i=0;rw[hx,add_mod_right];exact L8,by show x+2^i≤2^36;omega,hq⟩,(by show i<i+1;omega),.cons rfl bC,fun w h=>h⟩
  ·simp only[Bool.or_eq_true,Bool.or_eq_false_iff,Gi] at h1;have hL:p*2^32%18446744073709551616<18446744073709551616:=mod_lt _ aN;have hLe:p*2^32%18446744073709551616*18446744073709551616=p*2^96:=by rw[mod_eq_of_lt ay];omega
   rw[hLe] at aeK;rw[show ble (x*x*x) (p*2^96)=false from Bool.eq_false_iff.2 fun h=>by have h5:=aeK.2 ⟨le_of_ble_eq_true h,hv,hL⟩;omega,cond_false] at hq;refine aP "qh~~IX" ?_;exact⟨(i,n),⟨by show i≤36;omega,L8,by show n+2^i≤2^36;omega,hq⟩,(by show i<i+1;omega),.cons rfl bC,fun w h=>h⟩
 ·simp only[cZ] at aL;have hk0:k=0:=by
   rcases eq_zero_or_pos k with h | h
   ·exact h
   ·obtain⟨i,rfl⟩:∃q,k=q+1:=⟨k-1,by omega⟩;have hpi:0<2^i:=Nat.pow_pos aN;rw[CQ] at aL;omega
  refine aj "W" ?_;subst hk0;rw[fQ] at hq;refine aP "h~~~td" ?_;exact qR F rfl rfl eO ⟨by rw[hq],rfl⟩
theorem MW:aK prog 311 #[] K F (.agg (av .u32 uR).toArray):=by
 have hk:∀i,i<8→fQ ((fB.take 8).getD i 0) 2 64 37 0%4294967296=uR.getD i 0:=fun i hi=>C9 (f:=fun p=>fQ p 2 64 37 0%4294967296) adG (by rw[length_take];exact hi);have Gs:uR.length=8:=by decide
 obtain⟨ks,uL⟩:∃ks,ks=uR:=⟨_,rfl⟩;obtain⟨ps,qY⟩:∃ps,ps=fB.take 8:=⟨_,rfl⟩;have l7:∀i,ps.getD i 0<1000:=by rw[qY];exact fun i=>yU i 8
 have JO:ps.length=8:=by rw[qY];decide
 rw[←qY,←uL] at hk;rw[←uL] at Gs ⊢;refine aB.en func311 ntmps311 ?_;refine aP "ax" fun b0=> ?_;refine aP "Rx" fun b1=> ?_;refine aj "R" ?_;refine WL.c1 call275 rfl (nY (n:=8) aN) rfl ?_;rintro _ _ ⟨A,cap,rfl,rfl⟩;refine aj "DfkN" ?_;rw[←qY];refine WC.loop (σ:=Nat×List Nat) (fun s=>[(0,ptr b0 0),(1,ptr b1 0),(10,.slice A 8 cap),(11,.i ((8:Nat):Int)),(12,.i ((s.1:Nat):Int))]) (fun s=>aV (.slice A 8 cap) 3 1 8 (av .i64 ps)::ah b1 349 (av .u32 s.2)::ah b0 349 (av .u32 (replicate 8 0))::F)
  (fun s=>s.1≤8∧s.2=ks.take s.1++replicate (8-s.1) 0) (fun s=>8-s.1) (0,replicate 8 0) ⟨zero_le _,rfl⟩ bC cO ?_
 rintro⟨i,ws⟩ ⟨hi,hw⟩;dsimp only at hi hw ⊢;have UQ:ws.length=8:=by rw[hw,length_append,length_take,length_replicate];omega
 refine aP "a~jFH" (aW (fun aL=> ?_) fun aL=> ?_)
 ·simp only[cZ] at aL;have hr:Rd K (aV (.slice A 8 cap) 3 1 8 (av .i64 ps)::ah b1 349 (av .u32 ws)::ah b0 349 (av .u32 (replicate 8 0))::F) _ _:=Seq.qH (aV.seq (by rw[au,JO])) (show i<8 by omega);refine aj "1" ?_;refine WL.val (V.jW (v:= .i ((ps.getD i 0:Nat):Int)) eB (ak rfl) (ak rfl) (hr:=fun _=>hr)) rfl ?_;refine WL.val (V.d9 (v:= .i ((ps.getD i 0:Nat):Int)) isAgg3 (ak rfl) (fun _=>hr)) rfl ?_;refine aj "lgP" ?_;refine WL.t1 call333 rfl ((Kg (l7 i)).eq (v':= .int .u32 ((ks.getD i 0:Nat):Int)) (by rw[hk i ay])) rfl ?_;refine aP "~F~vbp>=" ?_;exact⟨(i+1,_),⟨by show i+1≤8;omega,by dsimp only;rw[hw];exact qp Gs ay⟩,(by show 8-(i+1)<8-i;omega),.cons rfl bC,fun w h=>h⟩
 ·simp only[cZ] at aL;refine aj "W" ?_;obtain rfl:i=8:=by omega
  rw[Nat.sub_self,replicate_zero,append_nil,take_of_length_le ay] at hw;rw[hw];refine aP "pAy2" ?_;exact aF.ret (H':=F) (bJ.one rfl (R1.dh (l:=ks) rfl ⟨isAgg349,sizeOf349⟩)) eO ⟨rfl,rfl⟩
theorem J9:aK prog 310 #[] K F (.agg (av .u32 rC).toArray):=by
 have hk:∀i,i<64→fQ ((fB.take 64).getD i 0) 3 96 36 0%4294967296=rC.getD i 0:=fun i hi=>C9 (f:=fun p=>fQ p 3 96 36 0%4294967296) adp (by rw[length_take];exact hi);have Gs:rC.length=64:=by decide
 obtain⟨ks,uL⟩:∃ks,ks=rC:=⟨_,rfl⟩;obtain⟨ps,qY⟩:∃ps,ps=fB.take 64:=⟨_,rfl⟩;have l7:∀i,ps.getD i 0<1000:=by rw[qY];exact fun i=>yU i 64
 have JO:ps.length=64:=by rw[qY];decide
 rw[←qY,←uL] at hk;rw[←uL] at Gs ⊢;refine aB.en func310 ntmps310 ?_;refine aP "ax" fun b0=> ?_;refine aP "Rx" fun b1=> ?_;refine aj "R" ?_;refine WL.c1 call275 rfl (nY (n:=64) aN) rfl ?_;rintro _ _ ⟨A,cap,rfl,rfl⟩;refine aj "DfkN" ?_;rw[←qY];refine WC.loop (σ:=Nat×List Nat) (fun s=>[(0,ptr b0 0),(1,ptr b1 0),(10,.slice A 64 cap),(11,.i ((64:Nat):Int)),(12,.i ((s.1:Nat):Int))]) (fun s=>aV (.slice A 64 cap) 3 1 64 (av .i64 ps)::ah b1 348 (av .u32 s.2)::ah b0 348 (av .u32 (replicate 64 0))::F)
  (fun s=>s.1≤64∧s.2=ks.take s.1++replicate (64-s.1) 0) (fun s=>64-s.1) (0,replicate 64 0) ⟨zero_le _,rfl⟩ bC cO ?_
 rintro⟨i,ws⟩ ⟨hi,hw⟩;dsimp only at hi hw ⊢;have UQ:ws.length=64:=by rw[hw,length_append,length_take,length_replicate];omega
 refine aP "a~jFH" (aW (fun aL=> ?_) fun aL=> ?_)
 ·simp only[cZ] at aL;have hr:Rd K (aV (.slice A 64 cap) 3 1 64 (av .i64 ps)::ah b1 348 (av .u32 ws)::ah b0 348 (av .u32 (replicate 64 0))::F) _ _:=Seq.qH (aV.seq (by rw[au,JO])) (show i<64 by omega);refine aj "1" ?_;refine WL.val (V.jW (v:= .i ((ps.getD i 0:Nat):Int)) eB (ak rfl) (ak rfl) (hr:=fun _=>hr)) rfl ?_;refine WL.val (V.d9 (v:= .i ((ps.getD i 0:Nat):Int)) isAgg3 (ak rfl) (fun _=>hr)) rfl ?_;refine aj "lgP" ?_;refine WL.t1 call332 rfl ((OA (l7 i)).eq (v':= .int .u32 ((ks.getD i 0:Nat):Int)) (by rw[hk i ay])) rfl ?_;refine aP "~F~vbp>=" ?_;exact⟨(i+1,_),⟨by show i+1≤64;omega,by dsimp only;rw[hw];exact qp Gs ay⟩,(by show 64-(i+1)<64-i;omega),.cons rfl bC,fun w h=>h⟩
 ·simp only[cZ] at aL;refine aj "W" ?_;obtain rfl:i=64:=by omega
  rw[Nat.sub_self,replicate_zero,append_nil,take_of_length_le ay] at hw;rw[hw];refine aP "pAy2" ?_;exact aF.ret (H':=F) (bJ.one rfl (R1.dh (l:=ks) rfl ⟨isAgg348,sizeOf348⟩)) eO ⟨rfl,rfl⟩
def s1E(x:Nat):Nat:=pR x 6 ^^^ pR x 11 ^^^ pR x 25
def s0E(x:Nat):Nat:=pR x 2 ^^^ pR x 13 ^^^ pR x 22
def z1E(x:Nat):Nat:=pR x 17 ^^^ pR x 19 ^^^ x/2^10
def z0E(x:Nat):Nat:=pR x 7 ^^^ pR x 18 ^^^ x/2^3
theorem jL(hx:x<4294967296):pR x n<2^32:=adY hx
theorem VO(hx:x<4294967296):x/2^n<2^32:=Nat.lt_of_le_of_lt (div_le_self _ _) hx
theorem fZ(s data:List Nat):gV s data=QD 4294967296 s (yK 4294967296 s1E s0E rC (xu 4294967296 z1E z0E 48 (Ph 4 16 data [])).reverse (O8.of s)):=rfl
theorem aiI:∀ {l:List Nat},4≤l.length→l.take 4=[l.getD 0 0,l.getD 1 0,l.getD 2 0,l.getD 3 0]
 | _::_::_::_::_,_=>rfl
theorem be4(ha:a<256)(hb:b<256)(hc:c<256)(hd:d<256):a*2^24%4294967296 ||| b*2^16%4294967296 ||| c*2^8%4294967296 ||| d=be [a,b,c,d]:=by
 rw[mod_eq_of_lt (show a*2^24<4294967296 by omega),mod_eq_of_lt (show b*2^16<4294967296 by omega),mod_eq_of_lt (show c*2^8<4294967296 by omega),uU (show b*2^16<2^24 by omega),
  show a*2^24+b*2^16=(a*256+b)*2^16 by omega,uU (show c*2^8<2^16 by omega),show (a*256+b)*2^16+c*2^8=((a*256+b)*256+c)*2^8 by omega,uU (show d<2^8 by omega)]
 show _=256*(256*(256*(256*0+a)+b)+c)+d;omega
theorem vC(hr:∀i,i<64→Rd K F (some ⟨br,o+i,none⟩) (.int .u32 ((rC.getD i 0:Nat):Int)))(hs:Seq K F A 64 1 (av .u8 data))(hd:aA 256 data)(mR:s.length=8)(RF:aA 4294967296 s)(kS:64≤cap) :
 aK prog 269 #[ptr br o,.agg (av .u32 s).toArray,.slice A 64 cap] K F (.agg (av .u32 (gV s data)).toArray):=by
 have wF:data.length=64:=by have :=hs.len;rwa [au,Nat.mul_one] at this
 obtain⟨ks,uL⟩:∃ks,ks=rC:=⟨_,rfl⟩;have vX:ks.length=64:=by rw[uL];decide
 have anm:aA 4294967296 ks:=by rw[uL];unfold aA;decide
 rw[fZ,←uL];rw[←uL] at hr;obtain⟨Rw,hRw⟩:∃R,R=xu 4294967296 z1E z0E 48 (Ph 4 16 data []):=⟨_,rfl⟩;rw[←hRw];refine aB.en func269 ntmps269 ?_;refine aj "a+" fun b4=> ?_;refine aP "x" fun b6=> ?_;refine aP "Rx" fun b7=> ?_;refine aj "brbt" ?_;refine WC.loop (σ:=Nat×List Nat) (fun s=>[(0,ptr br o),(2,.slice A 64 cap),(4,ptr b4 0),(6,ptr b6 0),(7,ptr b7 0),(24,.i ((s.1:Nat):Int))]) (fun t=>ah b7 348 (av .u32 t.2)::ah b6 349 (av .u32 (replicate 8 0))::ah b4 349 (av .u32 s)::F)
  (fun t=>t.1≤64∧t.2.length=64∧aA 4294967296 t.2∧(∀j,t.1≤j→t.2.getD j 0=0)∧xu 4294967296 z1E z0E (48-(t.1-16)) (Ph 4 (16-t.1) (data.drop (4*t.1)) (t.2.take t.1).reverse)=Rw) (fun t=>64-t.1) (0,replicate 64 0) ⟨zero_le _,length_replicate,aA.wJ aN,fun j _=>y7 _ _,hRw.symm⟩ bC cO ?_
 rintro⟨i,ws⟩ ⟨hi,UQ,nS,hz,hq⟩;dsimp only at hi UQ nS hz hq ⊢;refine WC.sr (WL.val (V.zI (j:=64) (ak rfl) (ak rfl)) rfl ?_);refine aj "FH" (aW (fun aL=> ?_) fun aL=> ?_)
 ·simp only[cZ] at aL;refine aj "1f" ?_;refine WL.val (V.zI (j:=16) (ak rfl) (ak rfl)) rfl ?_;refine aj "i" (aW (fun h1=> ?_) fun h1=> ?_)
  ·simp only[cZ] at h1;rw[show 16-i=16-(i+1)+1 by omega,Fx,drop_drop,show 48-(i-16)=48-(i+1-16) by omega] at hq;refine WC.seq ?_;have hb:∀j,data.getD j 0<256:=fun j=>hd.at_ aN j;have kr:∀j,4*i+j<64→Rd K F (A.map (·.add (4*i+j))) (.int .u8 ((data.getD (4*i+j) 0:Nat):Int)):=fun j hj=>Seq.qH hs hj;have hbe:be ((data.drop (4*i)).take 4)=be [data.getD (4*i) 0,data.getD (4*i+1) 0,data.getD (4*i+2) 0,data.getD (4*i+3) 0]:=by
    rw[aiI (by rw[length_drop];omega),getD_drop,getD_drop,getD_drop,getD_drop,Nat.add_zero]
   rw[hbe] at hq;have hb4:=be4 (hb (4*i)) (hb (4*i+1)) (hb (4*i+2)) (hb (4*i+3));refine aP "~.J0J1J2~~Z3" ?_;refine UA.val 4 rfl (fun _=>V.jW (v:= .int .u8 ((data.getD (4*i+0) 0:Nat):Int)) dO (ak rfl) (ak rfl) (hr:=fun _=>(kr 0 ay).up.up)) ?_;refine UA.val 5 rfl (fun _=>V.d9 (v:= .int .u8 ((data.getD (4*i+0) 0:Nat):Int)) isAgg5 (ak rfl) (fun _=>(kr 0 ay).up.up)) ?_;refine UA.val 6 rfl (fun _=>V.qQ (i:=data.getD (4*i+0) 0) runUnderlying5 runUnderlying339 (ak rfl) (fun _=>kN (M:=4294967296) rfl rfl (by have :=hb (4*i+0);omega))) ?_;refine UA.val 7 rfl (fun _=>V.G7 (j:=24) (M:=4294967296) (ak rfl) (ak rfl)) ?_;refine aP "J8J9~~Z:" ?_;refine UA.val 11 rfl (fun _=>V.wN (j:=1) (ak rfl) (ak rfl)) ?_;refine UA.val 12 rfl (fun _=>V.jW (v:= .int .u8 ((data.getD (4*i+1) 0:Nat):Int)) dO (ak rfl) (ak rfl) (hr:=fun _=>(kr 1 ay).up.up)) ?_;refine UA.val 13 rfl (fun _=>V.d9 (v:= .int .u8 ((data.getD (4*i+1) 0:Nat):Int)) isAgg5 (ak rfl) (fun _=>(kr 1 ay).up.up)) ?_;refine UA.val 14 rfl (fun _=>V.qQ (i:=data.getD (4*i+1) 0) runUnderlying5 runUnderlying339 (ak rfl) (fun _=>kN (M:=4294967296) rfl rfl (by have :=hb (4*i+1);omega))) ?_;refine UA.val 15 rfl (fun _=>V.G7 (j:=16) (M:=4294967296) (ak rfl) (ak rfl)) ?_;refine UA.val 16 rfl (fun _=>V.Zv (i:=data.getD (4*i) 0*2^24%4294967296) (j:=data.getD (4*i+1) 0*2^16%4294967296) 32 (ak rfl) (ak rfl) (fun _=>⟨mod_lt _ aN,mod_lt _ aN⟩)) ?_;refine aP "JAJB~~ZC" ?_;refine UA.val 20 rfl (fun _=>V.wN (j:=2) (ak rfl) (ak rfl)) ?_;refine UA.val 21 rfl (fun _=>V.jW (v:= .int .u8 ((data.getD (4*i+2) 0:Nat):Int)) dO (ak rfl) (ak rfl) (hr:=fun _=>(kr 2 ay).up.up)) ?_;refine UA.val 22 rfl (fun _=>V.d9 (v:= .int .u8 ((data.getD (4*i+2) 0:Nat):Int)) isAgg5 (ak rfl) (fun _=>(kr 2 ay).up.up)) ?_;refine UA.val 23 rfl (fun _=>V.qQ (i:=data.getD (4*i+2) 0) runUnderlying5 runUnderlying339 (ak rfl) (fun _=>kN (M:=4294967296) rfl rfl (by have :=hb (4*i+2);omega))) ?_;refine UA.val 24 rfl (fun _=>V.G7 (j:=8) (M:=4294967296) (ak rfl) (ak rfl)) ?_;refine UA.val 25 rfl (fun _=>V.Zv (i:=data.getD (4*i) 0*2^24%4294967296 ||| data.getD (4*i+1) 0*2^16%4294967296) (j:=data.getD (4*i+2) 0*2^8%4294967296) 32 (ak rfl) (ak rfl) (fun _=>⟨or_lt_two_pow (mod_lt _ aN) (mod_lt _ aN),mod_lt _ aN⟩)) ?_;refine aP "JJJK~~ZL" ?_;refine UA.val 29 rfl (fun _=>V.wN (j:=3) (ak rfl) (ak rfl)) ?_;refine UA.val 30 rfl (fun _=>V.jW (v:= .int .u8 ((data.getD (4*i+3) 0:Nat):Int)) dO (ak rfl) (ak rfl) (hr:=fun _=>(kr 3 ay).up.up)) ?_;refine UA.val 31 rfl (fun _=>V.d9 (v:= .int .u8 ((data.getD (4*i+3) 0:Nat):Int)) isAgg5 (ak rfl) (fun _=>(kr 3 ay).up.up)) ?_;refine UA.val 32 rfl (fun _=>V.qQ (i:=data.getD (4*i+3) 0) runUnderlying5 runUnderlying339 (ak rfl) (fun _=>kN (M:=4294967296) rfl rfl (by have :=hb (4*i+3);omega))) ?_;refine UA.val 33 rfl (fun _=>V.aG (v':= .int .u32 ((be [data.getD (4*i) 0,data.getD (4*i+1) 0,data.getD (4*i+2) 0,data.getD (4*i+3) 0]:Nat):Int)) (V.Zv (i:=data.getD (4*i) 0*2^24%4294967296 ||| data.getD (4*i+1) 0*2^16%4294967296 ||| data.getD (4*i+2) 0*2^8%4294967296) (j:=data.getD (4*i+3) 0) 32 (ak rfl) (ak rfl) (fun _=>⟨or_lt_two_pow (or_lt_two_pow (mod_lt _ aN) (mod_lt _ aN)) (mod_lt _ aN),Nat.lt_trans (hb _) aN⟩)) (fun _=>by rw[hb4])) ?_;refine aP "~RR" ?_;refine UA.at_ 35 rfl sizeOf339 (fun _=>ak rfl) (fun _=>ak rfl) ?_;refine aP "|" fun BS=> ?_;simp only[map_cons,map_nil,cons_append,nil_append];refine aP "Kp>=" ?_;refine⟨(i+1,be [data.getD (4*i) 0,data.getD (4*i+1) 0,data.getD (4*i+2) 0,data.getD (4*i+3) 0] |> ws.set i),⟨by show i+1≤64;omega,by show (ws.set i _).length=64;rw[length_set];exact UQ,nS.set (by rw[←hb4];exact or_lt_two_pow (n:=32) (or_lt_two_pow (or_lt_two_pow (mod_lt _ aN) (mod_lt _ aN)) (mod_lt _ aN)) (Nat.lt_trans (hb _) aN)),fun k hk=> ?_, ?_⟩,(by show 64-(i+1)<64-i;omega),.cons rfl bC,fun w h=>h⟩
   ·dsimp only at hk ⊢;rw[getD_set_ne ay];exact hz k ay
   ·dsimp only;rw[Gu ay,show 4*(i+1)=4*i+4 by omega];exact hq
  ·simp only[cZ] at h1;refine aj "," ?_;have hx:=nS.at_ aN (i-15);have hy:=nS.at_ aN (i-2);rw[show 48-(i-16)=48-(i+1-16)+1 by omega,IJ,show 16-i=0 by omega,Ph,VF,oo ay ay,oo ay ay,oo ay ay,oo ay ay] at hq;refine aP "~HJ0" ?_;refine UA.val 1 rfl (fun _=>V.rD (j:=15) (ak rfl) (ak rfl)) ?_;refine aP "~R2~w3J4" ?_;refine UA.val 5 rfl (fun _=>V.rD (j:=2) (ak rfl) (ak rfl)) ?_;refine aP "~R6~w7)8)9|" fun bs2=> ?_;simp only[map_cons,map_nil,cons_append,nil_append];refine aP "~.J0J1" ?_;refine UA.val 2 rfl (fun _=>V.rD (j:=16) (ak rfl) (ak rfl)) ?_;refine aP "~R3~,4J5" ?_;refine UA.call (vs:=[_,_]) 6 rfl call313 (fun _=>⟨ak rfl,ak rfl,trivial⟩) (fun H' hF=>ig (n:=7) hx aN aN) ?_;refine aP "J7" ?_;refine UA.call (vs:=[_,_]) 8 rfl call313 (fun _=>⟨ak rfl,ak rfl,trivial⟩) (fun H' hF=>ig (n:=18) hx aN aN) ?_;refine UA.val 9 rfl (fun _=>V.ru 32 (ak rfl) (ak rfl) (fun _=>⟨jL hx,jL hx⟩)) ?_;refine aP "J:" ?_;refine UA.val 11 rfl (fun _=>V.wK (j:=3) (ak rfl) (ak rfl)) ?_;refine UA.val 12 rfl (fun _=>V.ru 32 (ak rfl) (ak rfl) (fun _=>⟨xor_lt_two_pow (jL hx) (jL hx),VO hx⟩)) ?_;refine aP "~~k=J>" ?_;refine UA.val 15 rfl (fun _=>V.rD (j:=7) (ak rfl) (ak rfl)) ?_;refine aP "~R@~,A~~kBJC" ?_;refine UA.call (vs:=[_,_]) 20 rfl call313 (fun _=>⟨ak rfl,ak rfl,trivial⟩) (fun H' hF=>ig (n:=17) hy aN aN) ?_;refine aP "JE" ?_;refine UA.call (vs:=[_,_]) 22 rfl call313 (fun _=>⟨ak rfl,ak rfl,trivial⟩) (fun H' hF=>ig (n:=19) hy aN aN) ?_;refine UA.val 23 rfl (fun _=>V.ru 32 (ak rfl) (ak rfl) (fun _=>⟨jL hy,jL hy⟩)) ?_;refine aP "JH" ?_;refine UA.val 25 rfl (fun _=>V.wK (j:=10) (ak rfl) (ak rfl)) ?_;refine UA.val 26 rfl (fun _=>V.ru 32 (ak rfl) (ak rfl) (fun _=>⟨xor_lt_two_pow (jL hy) (jL hy),VO hy⟩)) ?_;refine aP "~~kK~RL" ?_;refine UA.at_ 29 rfl sizeOf339 (fun _=>ak rfl) (fun _=>ak rfl) ?_;refine aP "|" fun bs3=> ?_;simp only[map_cons,map_nil,cons_append,nil_append];refine aP "p>=" ?_;refine⟨(i+1,_),⟨by show i+1≤64;omega,by show (ws.set i _).length=64;rw[length_set];exact UQ,nS.set (mod_lt _ aN),fun k hk=> ?_, ?_⟩,(by show 64-(i+1)<64-i;omega),.cons rfl bC,fun w h=>h⟩
   ·dsimp only at hk ⊢;rw[getD_set_ne ay];exact hz k ay
   ·dsimp only;rw[Gu ay,show 16-(i+1)=0 by omega,Ph];exact hq
 ·simp only[cZ] at aL;refine aj "W" ?_;obtain rfl:i=64:=by omega
  rw[take_of_length_le ay] at hq;have hq:ws.reverse=Rw:=hq;have hwr:Rw.reverse=ws:=by rw[←hq,reverse_reverse]
  rw[hwr];obtain⟨Ro,hRo⟩:∃R,R=yK 4294967296 s1E s0E ks ws (O8.of s):=⟨_,rfl⟩;rw[←hRo];refine aP "~H~~~p0~w1" ?_;refine UA.val 2 rfl (fun _=>V.fV (j:=1) EL (ak rfl) (ak rfl)) ?_;refine aP "~w3" ?_;refine UA.val 4 rfl (fun _=>V.fV (j:=2) EL (ak rfl) (ak rfl)) ?_;refine aP "~w5" ?_;refine UA.val 6 rfl (fun _=>V.fV (j:=3) EL (ak rfl) (ak rfl)) ?_;refine aP "~w7" ?_;refine UA.val 8 rfl (fun _=>V.fV (j:=4) EL (ak rfl) (ak rfl)) ?_;refine aP "~w9" ?_;refine UA.val 10 rfl (fun _=>V.fV (j:=5) EL (ak rfl) (ak rfl)) ?_;refine aP "~w;" ?_;refine UA.val 12 rfl (fun _=>V.fV (j:=6) EL (ak rfl) (ak rfl)) ?_;refine aP "~w=" ?_;refine UA.val 14 rfl (fun _=>V.fV (j:=7) EL (ak rfl) (ak rfl)) ?_;refine aP "~w?)@)A)B)C)D)E)F)G|" fun bs4=> ?_;simp only[map_cons,map_nil,cons_append,nil_append];refine aj "rbt" ?_;refine WC.loop (σ:=Nat×O8) (fun t=>[(0,ptr br o),(4,ptr b4 0),(6,ptr b6 0),(7,ptr b7 0),(11,.int .u32 ((t.2.a:Nat):Int)),(12,.int .u32 ((t.2.b:Nat):Int)),(13,.int .u32 ((t.2.c:Nat):Int)),(14,.int .u32 ((t.2.d:Nat):Int)),(15,.int .u32 ((t.2.e:Nat):Int)),(16,.int .u32 ((t.2.f:Nat):Int)),(17,.int .u32 ((t.2.g:Nat):Int)),(18,.int .u32 ((t.2.h:Nat):Int)),(118,.i ((t.1:Nat):Int))]) (fun _=>ah b7 348 (av .u32 ws)::ah b6 349 (av .u32 (replicate 8 0))::ah b4 349 (av .u32 s)::F)
   (fun t=>t.1≤64∧t.2.Ok 4294967296∧yK 4294967296 s1E s0E (ks.drop t.1) (ws.drop t.1) t.2=Ro) (fun t=>64-t.1) (0,O8.of s) ⟨zero_le _,O8.Ju aN RF,hRo.symm⟩ bC cO ?_
  rintro⟨i,a,b,c,d,e,f,g,h⟩ ⟨hi,ho,hq⟩;have jh:=ho;obtain⟨ha,hb,hc,ZB,he,hf,hg,hh⟩:=ho;dsimp only at hi hq ha hb hc ZB he hf hg hh ⊢;refine WC.sr (WL.val (V.zI (j:=64) (ak rfl) (ak rfl)) rfl ?_);refine aj "FH" (aW (fun h3=> ?_) fun h3=> ?_)
  ·simp only[cZ] at h3;rw[Io _ _ _ _ ay ay] at hq;refine aP "1u~HJ0J1" ?_;refine UA.call (vs:=[_,_]) 2 rfl call313 (fun _=>⟨ak rfl,ak rfl,trivial⟩) (fun H' hF=>ig (n:=6) he aN aN) ?_;refine aP "J3" ?_;refine UA.call (vs:=[_,_]) 4 rfl call313 (fun _=>⟨ak rfl,ak rfl,trivial⟩) (fun H' hF=>ig (n:=11) he aN aN) ?_;refine UA.val 5 rfl (fun _=>V.ru 32 (ak rfl) (ak rfl) (fun _=>⟨jL he,jL he⟩)) ?_;refine aP "J6" ?_;refine UA.call (vs:=[_,_]) 7 rfl call313 (fun _=>⟨ak rfl,ak rfl,trivial⟩) (fun H' hF=>ig (n:=25) he aN aN) ?_;refine UA.val 8 rfl (fun _=>V.ru 32 (ak rfl) (ak rfl) (fun _=>⟨xor_lt_two_pow (jL he) (jL he),jL he⟩)) ?_;refine aP "~~k9J:J;" ?_;refine UA.val 12 rfl (fun _=>V.CY 32 (ak rfl) (ak rfl)) ?_;refine aP "J=" ?_;refine UA.val 14 rfl (fun _=>V.ajX (M:=4294967296) (ak rfl)) ?_;refine aP "J?" ?_;refine UA.val 16 rfl (fun _=>V.CY 32 (ak rfl) (ak rfl)) ?_;refine UA.val 17 rfl (fun _=>V.ru 32 (ak rfl) (ak rfl)) ?_;refine aP "~~kBJCJD~~9E" ?_;refine UA.val 22 rfl (fun _=>V.aG (v':=ptr br (o+i)) (V.YM (j:=(i:Int)) afq (ak rfl) (ak rfl) (fun _=>by omega)) (fun _=>by simp)) ?_;refine UA.val 23 rfl (fun _=>V.d9 (v:= .int .u32 ((ks.getD i 0:Nat):Int)) isAgg339 (ak rfl) (fun _=>(hr i h3).up.up.up)) ?_;refine aP "~~kHJI~RJ~wK~~kL)M|" fun bs5=> ?_;simp only[map_cons,map_nil,cons_append,nil_append];refine aj "e" ?_;refine WL.t2 call313 rfl rfl (ig (n:=2) ha aN aN) rfl ?_;refine WL.mv rfl rfl (WL.t2 call313 rfl rfl (ig (n:=13) ha aN aN) rfl ?_);refine WL.val (V.ru 32 (ak rfl) (ak rfl) (fun _=>⟨jL ha,jL ha⟩)) rfl ?_;refine WL.mv rfl rfl (WL.t2 call313 rfl rfl (ig (n:=22) ha aN aN) rfl ?_);refine WL.val (V.ru 32 (ak rfl) (ak rfl) (fun _=>⟨xor_lt_two_pow (jL ha) (jL ha),jL ha⟩)) rfl ?_;refine aP "z~~~az~~~a" ?_;refine WL.val (V.ru 32 (ak rfl) (ak rfl)) rfl (aP "z~~~a" ?_);refine WL.val (V.ru 32 (ak rfl) (ak rfl)) rfl (aP "~~0gP~~0zzc~~0zclllllllgp>=" ?_);refine⟨(i+1,Ui 4294967296 s1E s0E ⟨a,b,c,d,e,f,g,h⟩ (ks.getD i 0) (ws.getD i 0)),⟨by show i+1≤64;omega,Vt aN _ _ jh _ _,hq⟩,(by show 64-(i+1)<64-i;omega), ?_,fun w h=>h⟩;rw[MV];exact .cons rfl bC
  ·simp only[cZ] at h3;refine aj "WM" ?_;obtain rfl:i=64:=by omega
   rw[←vX,drop_length] at hq;have hq:O8.mk a b c d e f g h=Ro:=hq;rw[←hq];refine aj "hzzzc" ?_;refine WL.val (V.lX (l:=O8.list ⟨a,b,c,d,e,f,g,h⟩) (vs:=[(0,_),(1,_),(2,_),(3,_),(4,_),(5,_),(6,_),(7,_)]) ⟨ak rfl,ak rfl,ak rfl,ak rfl,ak rfl,ak rfl,ak rfl,ak rfl,trivial⟩ rfl (uS _ _ _ _ _ _ _ _)) rfl ?_;obtain⟨ad,had⟩:∃ad,ad=QD 4294967296 s ⟨a,b,c,d,e,f,g,h⟩:=⟨_,rfl⟩;have abL:ad.length=8:=by rw[had];rfl
   obtain⟨ol,Gh⟩:∃ol,ol=O8.list ⟨a,b,c,d,e,f,g,h⟩:=⟨_,rfl⟩;have anl:ol.length=8:=by rw[Gh];rfl
   have ahD:∀k,k<8→(s.getD k 0+ol.getD k 0)%4294967296=ad.getD k 0:=fun k hk=>by rw[Gh,had];exact KM hk
   rw[←had,←Gh];refine aj "N" ?_;refine WC.loop (σ:=Nat×List Nat) (fun t=>[(4,ptr b4 0),(6,ptr b6 0),(191,.agg (av .u32 ol).toArray),(192,.i ((t.1:Nat):Int))]) (fun t=>ah b7 348 (av .u32 ws)::ah b6 349 (av .u32 (replicate 8 0))::ah b4 349 (av .u32 t.2)::F)
    (fun t=>t.1≤8∧t.2=ad.take t.1++s.drop t.1) (fun t=>8-t.1) (0,s) ⟨zero_le _,rfl⟩ bC cO ?_
   rintro⟨i,st⟩ ⟨hi,dL⟩;dsimp only at hi dL ⊢;have qU:st.length=8:=by rw[dL,length_append,length_take,length_drop];omega
   refine aP "a~~nFH" (aW (fun h4=> ?_) fun h4=> ?_)
   ·simp only[cZ] at h4;have hsg:st.getD i 0=s.getD i 0:=by rw[dL];exact Qz abL mR h4
    refine aP "1~~olgh~F~Wc~~0" ?_;rw[hsg,ahD i h4];refine aP "~F~vbp>=" ?_;exact⟨(i+1,_),⟨by show i+1≤8;omega,by dsimp only;rw[dL];exact Oy abL mR h4⟩,(by show 8-(i+1)<8-i;omega),.cons rfl bC,fun w h=>h⟩
   ·simp only[cZ] at h4;refine aj "W" ?_;obtain rfl:i=8:=by omega
    rw[take_of_length_le ay,drop_of_length_le ay,append_nil] at dL;rw[dL];refine aP "pAy2" ?_;exact aF.ret (H':=F) (bJ.one rfl (R1.dh (l:=ad) rfl ⟨isAgg349,sizeOf349⟩)) eO ⟨by rw[had],rfl⟩
end Go.Proofs.YtcedojacbhnbiaaGreat
namespace Go.Sl
open Go Go.RowKit Go.Proofs.YtcedojacbhnbiaaGreat List Nat
theorem WL.Z4{T E bytes m q:Nat}(hT:P.underlying T=some (.slice E))(hE:dH P E 1 bytes z)(hx:OV true e x (.int k l))(hy:OV true e y (.int k' r))
 (hl:l=(m:Int)) (hq:r=(q:Int)) (hmq:m≤q) (hb:(bytes:Int)*(q:Int)≤281474976710656) (RH:blt 0 bytes=true) (hz:z.cells= #[z]) (hd:blt d n=true)
 (h:∀b,WL Mo P K n ops rest Q ((d,.slice (some ⟨b,0,none⟩) m q)::e) (ah b E (replicate q z)::H)) :
 WL Mo P K n ops (⟨some d,.makeSlice T x y,ty,pos,af,none⟩::rest) Q e H:=by
 obtain⟨i,hi,hiz,hs,JC,hzs,h0⟩:=hE;subst hl hq JC;have amH:0<i.bytes:=by simpa using RH
 refine WL.makeSlice hT hi hiz hx hy ay ay hb (by
  have h1:(1:Int)*(q:Int)≤(i.bytes:Int)*(q:Int):=Int.mul_le_mul_of_nonneg_right ay ay;omega) hd (fun b=> ?_)
 have h2:=h b;rw[Int.toNat_natCast,Int.toNat_natCast,hs,Nat.mul_one,hz];have h3:(madeCells #[z] q).toList=replicate q z:=by
  apply ext_getElem
  ·simp[madeCells]
  ·intro j h1 h2;simp[madeCells,mod_one]
 rw[h3];exact h2
end Go.Sl
namespace Go.Proofs.YtcedojacbhnbiaaGreat
open Go.Sl Go.RowKit Tryz List Nat
set_option exponentiation.threshold 5000
theorem Ug(hm:m≤1000000000000):aB prog 270 #[.i ((m:Nat):Int)] K F (fun v H'=>∃A' M cap',M=(lT 64 8 m).length∧v= .slice A' M cap'∧M≤cap'∧H'=aV (.slice A' M cap') 5 1 M (av .u8 (lT 64 8 m))::F):=by
 obtain⟨R,hR⟩:∃R,R=(m+8)%64:=⟨_,rfl⟩;refine aB.en func270 ntmps270 ?_;refine aj "av" ?_;refine WL.Z4 (m:=1) (q:=128) underlying34 yL (ak rfl) (ak rfl) rfl rfl aN aN rfl rfl rfl (fun b5=> ?_);refine WL.sub (H':=ah b5 5 (av .u8 (replicate 128 0))::F) (Sub.refl _) cO (aj "j" ?_);refine WL.val (V.Lc (j:=0) dO (ak rfl) (ak rfl)) rfl (aP "~vFt" ?_);refine WC.loop (σ:=Nat×Option Addr×Nat) (fun s=>[(0,.i ((m:Nat):Int)),(3,.slice s.2.1 (1+s.1) s.2.2)]) (fun s=>aV (.slice s.2.1 (1+s.1) s.2.2) 5 1 (1+s.1) (av .u8 (128::replicate s.1 0))::F)
  (fun s=>s.1≤63-R∧1+s.1≤s.2.2) (fun s=>63-R-s.1) (0,some ⟨b5,0,none⟩,128) ⟨zero_le _,by show 1≤128;decide⟩ bC (fun w h=>Sat.BX h rfl (show 1≤128 by decide) (show 128≤maxLen by decide)) ?_
 rintro⟨z,A3,c3⟩ ⟨hz,hz3⟩;dsimp only at hz hz3 ⊢;refine aP "rck~S" ?_;refine WL.val (V.wN (j:=8) (ak rfl) (ak rfl)) rfl ?_;refine aP "~~^~~ii" (aW (fun h0=> ?_) fun h0=> ?_)
 ·simp only[oK] at h0;refine aj "qth" ?_;refine WL.buildSlice (E:=5) (cs:=av .u8 [_]) (vs:=[(0,_)]) ⟨ak rfl,trivial⟩ rfl (jc _) rfl (fun b16=> ?_);refine aP "?~4" fun A17 c17 aq0 Zj=> ?_;refine aj "X" ?_;refine⟨(z+1,A17,c17),⟨by show z+1≤63-R;omega,by show 1+(z+1)≤c17;omega⟩,(by show 63-R-(z+1)<63-R-z;omega),.cons rfl bC,fun w h=> ?_⟩;have h2:=Sat.wm (h.bg 2 [0] rfl) (show av .u8 (128::replicate z 0++[0])=av .u8 (128::replicate (z+1) 0) by rw[cons_append,replicate_succ']);exact h2
 ·simp only[oK] at h0;refine aj "WM" ?_;obtain rfl:z=63-R:=by omega
  obtain⟨M,hM⟩:∃M,M=1+(63-R):=⟨_,rfl⟩;obtain⟨L,hL⟩:∃L,L=128::replicate (63-R) 0:=⟨_,rfl⟩;rw[←hM] at hz3;rw[←hM,←hL];refine aj "pgt" ?_;refine WC.loop (σ:=Nat×Option Addr×Nat) (fun s=>[(0,.i ((m:Nat):Int)),(3,.slice s.2.1 (M+s.1) s.2.2),(4,.i (56-8*(s.1:Int)))]) (fun s=>aV (.slice s.2.1 (M+s.1) s.2.2) 5 1 (M+s.1) (av .u8 (L++(bG 256 8 (8*m)).reverse.take s.1))::F)
   (fun s=>s.1≤8∧M+s.1≤s.2.2) (fun s=>8-s.1) (0,A3,c3) ⟨zero_le _,hz3⟩ bC (fun w h=>Sat.wm h (by rw[take_zero,append_nil])) ?_
  rintro⟨j,A3,c3⟩ ⟨hj,hj3⟩;dsimp only at hj hj3 ⊢;refine aj "r~ii" (aW (fun h1=> ?_) fun h1=> ?_)
  ·simp only[cZ] at h1;rw[show (56-8*(j:Int))=((56-8*j:Nat):Int) by omega];refine aj "IP" ?_;refine WL.val (V.qQ (i:=m) runUnderlying3 runUnderlying306 (ak rfl) (fun _=>kN (M:=18446744073709551616) rfl rfl ay)) rfl ?_;refine WL.val (V.Tx (i:=8) (M:=18446744073709551616) (ak rfl) (ak rfl)) rfl (aP "c~8~Y" ?_);refine WL.buildSlice (E:=5) (cs:=av .u8 [_]) (vs:=[(0,_)]) ⟨ak rfl,trivial⟩ rfl (jc _) rfl (fun Va=> ?_);refine aP "?~4" fun A30 c30 agy ag3=> ?_;refine aj "gh~xX" ?_;refine⟨(j+1,A30,c30),⟨by show j+1≤8;omega,by show M+(j+1)≤c30;omega⟩,(by show 8-(j+1)<8-j;omega),.cons rfl (.cons rfl (.cons (look_eq rfl (by congr 1;dsimp only;omega)) (.nil _))),fun w h=> ?_⟩;have h2:=Sat.wm (h.bg 2 [0] rfl) (show av .u8 (L++(bG 256 8 (8*m)).reverse.take j++[8*m%18446744073709551616/2^(56-8*j)%256])=av .u8 (L++(bG 256 8 (8*m)).reverse.take (j+1)) by
    rw[←zT (aI _ _ _) ay,bV _ _ _ _ ay,mod_eq_of_lt (show 8*m<18446744073709551616 by omega),show (2:Nat)^(56-8*j)=256^(8-1-j) by rw[show 56-8*j=8*(8-1-j) by omega,Nat.pow_mul],append_assoc _ _ [_]])
   exact h2
  ·simp only[cZ] at h1;refine aj "W" ?_;obtain rfl:j=8:=by omega
   have e1:L++(bG 256 8 (8*m)).reverse.take 8=lT 64 8 m:=by
    rw[take_of_length_le (by rw[length_reverse,aI];decide),hL,hR];simp[lT]
   have e2:(lT 64 8 m).length=M+8:=by
    rw[←e1,hL,take_of_length_le (by rw[length_reverse,aI];decide)];simp only[length_append,length_cons,length_replicate,length_reverse,aI];omega
   rw[e1];refine aj "hd" ?_;exact qR _ rfl rfl cO ⟨A3,M+8,c3,e2.symm,rfl,hj3,rfl⟩
end Go.Proofs.YtcedojacbhnbiaaGreat
namespace Go.Sl
open Go Go.RowKit Go.BigFrame Go.Proofs.YtcedojacbhnbiaaGreat List Nat
theorem V.ajh(hf:c=true→∀w,Sat K w H→(callFunc f vs.toArray).run P w= .ok (.value v) w)(gL:Ga c e xs vs):eX Mo P K n c e H ⟨dst,.call ⟨.value (.func f),xs.toArray,ats⟩,ty,pos,af,gd⟩ v:=fun hc a w ha hw=>by
 rw[execOp_call_go,map_toArray,gL.ev ha hc]
 simpa using hf hc w hw
theorem WL.aei(hf:∀w,Sat K w H→∃w',(callFunc f vs.toArray).run P w= .ok (.value v) w'∧Sat K w' H')(gL:Ga true e xs vs)(hd:blt d n=true)
 (h:WL Mo P K n ops rest Q ((d,v)::e) H'):WL Mo P K n ops (⟨some d,.call ⟨.value (.func f),xs.toArray,ats⟩,ty,pos,af,none⟩::rest) Q e H:=by
 refine WL.RQ (R:=fun u ou=>u=v∧ou=H') (fun a w ha hw=> ?_) hd (fun u ou ⟨e1,e2⟩=>by subst e1 e2;exact h);obtain⟨w',h1,h2⟩:=hf w hw;refine⟨v,w',H', ?_,h2,rfl,rfl⟩;rw[execOp_call_go,map_toArray,gL.ev ha rfl]
 simpa using h1
end Go.Sl
namespace Go.Proofs.YtcedojacbhnbiaaGreat
open Go.Sl Go.RowKit Tryz List Nat
theorem Yt(hr:Rd K H (some ⟨b,o,none⟩) (.int .u32 x)):∀w,Sat K w H→(callFunc 340 #[ptr b o]).run prog w= .ok (.value (.int .u32 x)) w:=fun w hw=>by
 obtain⟨a,ha,hc⟩:=hr w hw;injection ha with ha
 subst ha;exact run_call_load func340 (by kernel_rfl) (by kernel_rfl) (by kernel_rfl) .u32 (by kernel_rfl) hc
theorem XL(hr:Rd K H (some ⟨b,o,none⟩) (.i x)):∀w,Sat K w H→(callFunc 314 #[ptr b o]).run prog w= .ok (.value (.i x)) w:=fun w hw=>by
 obtain⟨a,ha,hc⟩:=hr w hw;injection ha with ha
 subst ha;exact run_call_load func314 (by kernel_rfl) (by kernel_rfl) (by kernel_rfl) .i64 (by kernel_rfl) hc
theorem Un(hu:bT K H b o [.int .u32 y] H'):∀w,Sat K w H→∃w',(callFunc 351 #[ptr b o,.int .u32 y]).run prog w= .ok (.value (.tuple #[])) w'∧Sat K w' H':=fun w hw=>by
 obtain⟨h1,h2⟩:=hu.may w hw.2 0 (Nat.zero_lt_one);obtain⟨u,hu1⟩:=Option.isSome_iff_exists.1 h1;refine⟨w.setCell ⟨b,o,none⟩ (.int .u32 y), ?_,(hu.run (P:=prog) hw (fun v hv=>by rcases mem_singleton.1 hv with rfl;rfl)).2⟩;exact run_call_store func351 (by kernel_rfl) (by kernel_rfl) (by kernel_rfl) (by kernel_rfl) hu1 h2
theorem af3(hr:Rd K H (some ⟨b,o,none⟩) (.int .i32 x))(hu:bT K H b o [.int .i32 y] H'):∀w,Sat K w H→∃w',(callFunc 357 #[ptr b o,.int .i32 x,.int .i32 y]).run prog w= .ok (.value (.bool true)) w'∧Sat K w' H':=fun w hw=>by
 obtain⟨h1,h2⟩:=hu.may w hw.2 0 (Nat.zero_lt_one);obtain⟨a,ha,hc⟩:=hr w hw;injection ha with ha
 subst ha;refine⟨w.setCell ⟨b,o,none⟩ (.int .i32 y), ?_,(hu.run (P:=prog) hw (fun v hv=>by rcases mem_singleton.1 hv with rfl;rfl)).2⟩;exact run_call_cas_hit func357 (by kernel_rfl) (by kernel_rfl) (by kernel_rfl) .i32 (by kernel_rfl) hc h2
theorem Z0(hr:Rd K H (some ⟨b,o,none⟩) (.int .i32 x))(hs:IntKind.i32.wrap (x+y)=s)(hu:bT K H b o [.int .i32 s] H'):∀w,Sat K w H→∃w',(callFunc 362 #[ptr b o,.int .i32 y]).run prog w= .ok (.value (.int .i32 s)) w'∧Sat K w' H':=fun w hw=>by
 obtain⟨h1,h2⟩:=hu.may w hw.2 0 (Nat.zero_lt_one);obtain⟨a,ha,hc⟩:=hr w hw;injection ha with ha
 subst ha;refine⟨w.setCell ⟨b,o,none⟩ (.int .i32 s), ?_,(hu.run (P:=prog) hw (fun v hv=>by rcases mem_singleton.1 hv with rfl;rfl)).2⟩;exact run_call_add func362 (by kernel_rfl) (by kernel_rfl) (by kernel_rfl) .i32 (by kernel_rfl) hc h2 (by simp[Op.intArith,hs])
theorem ZY(hr:Rd K H (some ⟨b,o,none⟩) (.i x))(hs:IntKind.i64.wrap (x+y)=s)(hu:bT K H b o [.i s] H'):∀w,Sat K w H→∃w',(callFunc 312 #[ptr b o,.i y]).run prog w= .ok (.value (.i s)) w'∧Sat K w' H':=fun w hw=>by
 obtain⟨h1,h2⟩:=hu.may w hw.2 0 (Nat.zero_lt_one);obtain⟨a,ha,hc⟩:=hr w hw;injection ha with ha
 subst ha;refine⟨w.setCell ⟨b,o,none⟩ (.i s), ?_,(hu.run (P:=prog) hw (fun v hv=>by rcases mem_singleton.1 hv with rfl;rfl)).2⟩;exact run_call_add func312 (by kernel_rfl) (by kernel_rfl) (by kernel_rfl) .i64 (by kernel_rfl) hc h2 (by simp[Op.intArith,hs])
theorem Cj:vK prog 356 [] (.tuple #[]):=fun w=>run_call_mark0 func356 (by kernel_rfl) (by kernel_rfl) (by kernel_rfl) .disable (by kernel_rfl) w
theorem Fj:vK prog 358 [] (.tuple #[]):=fun w=>run_call_mark0 func358 (by kernel_rfl) (by kernel_rfl) (by kernel_rfl) .enable (by kernel_rfl) w
theorem Mi(b o:Nat):vK prog 359 [ptr b o] (.tuple #[]):=fun w=>run_call_marked func359 (by kernel_rfl) (by kernel_rfl) (by kernel_rfl) .acquire (by kernel_rfl) _ w
theorem CO(b o:Nat):vK prog 361 [ptr b o] (.tuple #[]):=fun w=>run_call_marked func361 (by kernel_rfl) (by kernel_rfl) (by kernel_rfl) .releaseMerge (by kernel_rfl) _ w
theorem Ey{x:Nat}(hr:Rd K F (some ⟨b,o,none⟩) (.int .u32 (x:Int))):aK prog 330 #[ptr b o] K F (.bool (!decide (x=0))):=by
 refine aB.en func330 ntmps330 ?_;refine aj "ajS" ?_;refine WL.val (V.ajh (vs:=[_]) (fun _=>Yt hr) ⟨ak rfl,trivial⟩) rfl ?_;exact aP "~~id." trivial
theorem TV{x:Nat}(hr:Rd K F (some ⟨b,o,none⟩) (.i (x:Int))):aK prog 271 #[ptr b o] K F (.i (x:Int)):=by
 refine aB.en func271 ntmps271 ?_;refine aj "ajS" ?_;refine WL.val (V.ajh (vs:=[_]) (fun _=>XL hr) ⟨ak rfl,trivial⟩) rfl ?_;exact aj "d." trivial
end Go.Proofs.YtcedojacbhnbiaaGreat
namespace Go.Sl
open Go Go.RowKit Go.Proofs.YtcedojacbhnbiaaGreat List Nat
theorem V.QX{src d t:Nat}(hs:P.underlying src=some (.pointer t))(hd:P.underlying d=some .unsafePointer)(JQ:(P.info? t).map (fun i=>decide (i.size=0))=some false)
 (hx:OV c e x (ptr b o)) (hr:c=true→Rd K H (some ⟨b,o,none⟩) v):eX Mo P K n c e H ⟨dst,.convert src d x,ty,pos,af,gd⟩ (ptr b o):=fun hc a w ha hw=>by
 show ((do pure (Next.value (←convert src d (a.eval x)))):Sem Next).run P w=_;rw[hx.ev hc ha];obtain⟨ad,h1,h2⟩:=hr hc w hw;injection h1 with h1
 subst h1;rw[Sem.run_bind,run_convert_to_unsafe hs hd JQ h2];rfl
end Go.Sl
namespace Go.Proofs.YtcedojacbhnbiaaGreat
open Go.Sl Go.RowKit Tryz List Nat
theorem TA:aK prog 352 #[.bool true] K F (.int .u32 1):=by
 refine aB.en func352 ntmps352 ?_;refine aj "afi" (aW (fun h0=> ?_) fun h0=> ?_)
 ·skip
  exact aj "G." trivial
 ·skip
  refine aj "qG" ?_;exact absurd h0 (by simp)
theorem WM{x:Nat}(hr:Rd K (C::F) (some ⟨b,o,none⟩) (.i (x:Int)))(hs:x+y≤9223372036854775807)(hu:bT K (C::F) b o [.i ((x+y:Nat):Int)] (C'::F)):aB prog 268 #[ptr b o,.i (y:Int)] K (C::F) (fun v H'=>v= .i ((x+y:Nat):Int)∧H'=C'::F):=by
 refine aB.en func268 ntmps268 ?_;refine aj "ajSc" ?_;refine WL.aei (vs:=[_,_]) (ZY hr (by rw[←Int.natCast_add];exact wrap_i64 ay) hu) ⟨ak rfl,ak rfl,trivial⟩ rfl ?_;refine aj "d" ?_;exact qR (C'::F) rfl rfl cO ⟨rfl,rfl⟩
theorem P5(hr':Rd K (C'::F) (some ⟨b,o,none⟩) (.int .i32 1))(hr:Rd K (C::F) (some ⟨b,o,none⟩) (.int .i32 0))(hu:bT K (C::F) b o [.int .i32 1] (C'::F)):aB prog 349 #[ptr b o] K (C::F) (fun v H'=>v= .tuple #[]∧H'=C'::F):=by
 refine aB.en func349 ntmps349 ?_;refine WC.sr ?_;refine WL.val (V.ext (vs:=[]) (fun _=>Cj) trivial) rfl ?_;refine aj "brS" ?_;refine WL.aei (vs:=[_,_,_]) (af3 hr hu) ⟨ak rfl,ak rfl,ak rfl,trivial⟩ rfl (aj "b5M5a" ?_);refine WL.val (V.ext (vs:=[]) (fun _=>Fj) trivial) rfl ?_;refine aj "bh" ?_;refine WL.val (V.QX underlying412 underlying416 (by kernel_rfl) (ak rfl) (fun _=>hr')) rfl ?_;refine WL.val (V.ext (vs:=[_]) (fun _=>Mi _ _) ⟨ak rfl,trivial⟩) rfl ?_;refine aj "2" ?_;exact aF.ret (H':=C'::F) (bJ.none rfl) cO ⟨rfl,rfl⟩
theorem JV(hr:Rd K (C::F) (some ⟨b,o,none⟩) (.int .i32 1))(hu:bT K (C::F) b o [.int .i32 0] (C'::F)):aB prog 350 #[ptr b o] K (C::F) (fun v H'=>v= .tuple #[]∧H'=C'::F):=by
 refine aB.en func350 ntmps350 ?_;refine aj "M5eS" ?_;refine WL.val (V.load (v:= .int .i32 1) isAgg21 (ak rfl) (fun _=>hr)) rfl ?_;refine aj "be" ?_;refine WL.val (V.QX underlying412 underlying416 (by kernel_rfl) (ak rfl) (fun _=>hr)) rfl ?_;refine WL.val (V.ext (vs:=[_]) (fun _=>CO _ _) ⟨ak rfl,trivial⟩) rfl ?_;refine aj "bp" ?_;refine WL.val (V.ext (vs:=[]) (fun _=>Cj) trivial) rfl ?_;refine aj "beS" ?_;refine WL.aei (vs:=[_,_]) (Z0 (s:=0) hr aN hu) ⟨ak rfl,ak rfl,trivial⟩ rfl (aj "fs3qp" ?_);refine WL.val (V.ext (vs:=[]) (fun _=>Fj) trivial) rfl ?_;refine WL.nil ?_;exact aF.normal (H':=C'::F) (bJ.none rfl) cO ⟨rfl,rfl⟩
theorem TJ(hr':Rd K (C'::F) (some ⟨b,o,none⟩) (.int .i32 1))(hr:Rd K (C::F) (some ⟨b,o,none⟩) (.int .i32 0))(hu:bT K (C::F) b o [.int .i32 1] (C'::F)):aB prog 341 #[ptr b o] K (C::F) (fun v H'=>v= .tuple #[]∧H'=C'::F):=by
 refine aB.en func341 ntmps341 ?_;refine aj "hS" ?_;refine WL.c1 call349 rfl (P5 hr' hr hu) rfl ?_;rintro _ _ ⟨rfl,rfl⟩;refine WL.nil ?_;exact aF.normal (H':=C'::F) (bJ.none rfl) cO ⟨rfl,rfl⟩
end Go.Proofs.YtcedojacbhnbiaaGreat
namespace Go.Sl
open Go Go.RowKit Go.Proofs.YtcedojacbhnbiaaGreat List Nat
def Ve(P:Program)(K:World)(pd:List aH→Prop):List Deferred→List aH→Prop
 | [],H=>pd H
 | d::ds,H=>∃g args,d=⟨.fn (.func g) #[],args⟩∧bP P g∧Fp P g args K H (fun H'=>Ve P K pd ds H')
theorem VJ(sW:∀H' w',Sat K w' H'→pd H'→Leaves P fn tmps R [] .returning w') :
 ∀ (ds:List Deferred) (H:List aH) (w:World),Sat K w H→Ve P K pd ds H→Leaves P fn tmps R ds .returning w
 | [],H,w,hw,h=>sW H w hw h
 | d::ds,H,w,hw,h=>by
  obtain⟨g,args,rfl,k1,k2⟩:=h;refine leaves_cons (f:=g) (args:=args) (by simp) (by show (callFunc g (args++ #[])).run P w=_;rw[k1];simp) ?_;refine (k2 w hw).mono ?_;rintro e2 u' w' ⟨rfl,v,H2,rfl,k4,k5⟩;exact VJ sW ds H2 w' k4 k5
def agM(P:Program)(K:World)(n:Nat)(fn:Func)(post:Value→List aH→Prop):iX
 | Mo,.normal,e,H | Mo,.ret,e,H=>∃pd,Ve P K pd Mo.ds H∧∀H',pd H'→∃v ou,bJ Mo P K n fn e H' v∧(∀w,Sat K w H'→Sat K w ou)∧post v ou
 | _,_,_,_=>False
theorem aB.aen{n:Nat}(hf:P.funcs[f]? =some fn)(hb:fn.body=some c)(hn:fn.ntmps=n)(hl:ble vs.length n=true)
 (h:WC ⟨none,[]⟩ P K n c (agM P K n fn post) (kV 0 vs) H):aB P f vs.toArray K H post:=by
 intro w hw;refine calls_of_wp_defers hf hb (wp_mono (h _ w ?_ hw) ?_)
 ·have Dp:vs.length≤n:=by simpa using hl
  refine⟨rfl,by simp[hn];omega,fun t v hv=> ?_⟩;obtain⟨_,h2⟩:=nO vs 0 t v hv;simp only[Nat.sub_zero] at h2;have ht:t<vs.length:=by
   rcases Nat.lt_or_ge t vs.length with h | h
   ·exact h
   ·simp[getElem?_eq_none h] at h2
  rw[Array.getD_eq_getD_getElem?,Array.getElem?_append_left (by simpa using ht)];simp[h2]
 ·rintro x a w ⟨ds,e',H',h1,h2,h3⟩;have key:(∃pd,Ve P K pd ds H'∧∀H2,pd H2→∃v ou,bJ ⟨none,ds⟩ P K n fn e' H2 v∧(∀w,Sat K w H2→Sat K w ou)∧post v ou) →
   Leaves P fn a.tmps (fun e w'=>∃v H',e= .returned v∧Sat K w' H'∧post v H') a.defers .returning w:=by
   rintro⟨pd,k2,k3⟩;rw[h1.defers];refine VJ (fun H2 w' k4 k5=> ?_) ds H' w h2 k2;obtain⟨v2,H3,k6,k7,k8⟩:=k3 H2 k5;exact⟨v2,k6 a w' h1 k4,v2,H3,rfl,k7 w' k4,k8⟩
  cases x<;>first
   | exact key h3
   | exact h3.elim
theorem WL.ZO(hx:Ga true e xs vs)
 (h:WL ⟨none,⟨.fn (.func f) #[],vs.toArray⟩::ds⟩ P K n ops rest Q e H):WL ⟨none,ds⟩ P K n ops (⟨none,.defer ⟨.value (.func f),xs.toArray,ats⟩,ty,pos,af,none⟩::rest) Q e H:=fun a w ha hw=>by
 refine kH rfl fun R hR=> ?_;show Oper.wp P _ a w R _;unfold Oper.wp;have h1:(execOp a.eval ⟨none,.defer ⟨.value (.func f),xs.toArray,ats⟩,ty,pos,af,none⟩).run P w= .ok (.defer ⟨.fn (.func f) #[],vs.toArray⟩) w:=by
  show ((do pure (Next.defer (←resolve a.eval ⟨.value (.func f),xs.toArray,ats⟩ ty))):Sem Next).run P w=_;have h1:resolve a.eval ⟨.value (.func f),xs.toArray,ats⟩ ty=pure { target:= .fn (.func f) #[],args:=vs.toArray }:=by
   simp[resolve,map_toArray,hx.ev ha rfl,Deferred.ofValue,Act.eval]
  rw[h1];rfl
 rw[h1,Oper.upon_defer];refine hR _ _ (h _ w ⟨?_,ha.size,ha.at_⟩ hw);show _::a.defers=_::ds;rw[ha.defers]
theorem G9(h:Fp P f args K H p)(hpq:∀H',p H'→q H'):Fp P f args K H q:=fun w hw =>
 (h w hw).mono fun _ _ _ ⟨h1,v,H',h2,h3,h4⟩=>⟨h1,v,H',h2,h3,hpq H' h4⟩
end Go.Sl
namespace Go.Proofs.YtcedojacbhnbiaaGreat
open Go.Sl Go.RowKit Tryz List Nat
theorem Rf(hu:bT K (C::F) b o [.int .u32 1] (C'::F)):Fp prog 343 #[ptr b o,.bool true] K (C::F) (fun H'=>H'=C'::F):=by
 refine aB.aaU func343 rfl ntmps343 rfl ?_;simp only[kV,reduceAdd];refine aP "~Xm0~a102m3n4" ?_;refine WL.t1 call352 rfl (TA) rfl ?_;refine aj "bn5" ?_;refine WL.aei (vs:=[_,_]) (Un hu) ⟨ak rfl,ak rfl,trivial⟩ rfl (aj "bO" ?_);exact aF.normal (H':=C'::F) (bJ.none rfl) cO rfl
theorem Ke(hr:Rd K (C::F) (some ⟨b,o,none⟩) (.int .i32 1))(hu:bT K (C::F) b o [.int .i32 0] (C'::F)):Fp prog 342 #[ptr b o] K (C::F) (fun H'=>H'=C'::F):=by
 refine aB.aaU func342 rfl ntmps342 rfl ?_;simp only[kV,reduceAdd];refine aj "hS" ?_;refine WL.c1 call350 rfl (JV hr hu) rfl ?_;rintro _ _ ⟨rfl,rfl⟩;refine WL.nil ?_;exact aF.normal (H':=C'::F) (bJ.none rfl) cO rfl
theorem QA{g:Nat}{cap:List Value}(hg:bP prog g)(KC:Rd K (C::F) (some ⟨b,o+1,none⟩) (.int .i32 0))(hu1:bT K (C::F) b (o+1) [.int .i32 1] (C1::F))(Dq:Rd K (C1::F) (some ⟨b,o+1,none⟩) (.int .i32 1))
 (hd:Rd K (C1::F) (some ⟨b,o,none⟩) (.int .u32 ((0:Nat):Int))) (hf:aB prog g cap.toArray K (C1::F) (fun v H'=>H'=C2::F)) (hu3:bT K (C2::F) b o [.int .u32 1] (C3::F)) (Mc:Rd K (C3::F) (some ⟨b,o+1,none⟩) (.int .i32 1)) (hu4:bT K (C3::F) b (o+1) [.int .i32 0] (C4::F)) :
 aB prog 331 #[ptr b o,.func (.func g) #[] cap.toArray] K (C::F) (fun v H'=>v= .tuple #[]∧H'=C4::F):=by
 refine aB.aen func331 rfl ntmps331 rfl ?_;simp only[kV,reduceAdd];refine aj "eS" ?_;refine WL.c1 call341 rfl (TJ Dq KC hu1) rfl ?_;rintro _ _ ⟨rfl,rfl⟩;refine aj "beS" ?_;refine WL.ZO (vs:=[_]) ⟨ak rfl,trivial⟩ (aj "beS" ?_);refine WL.t1 call330 rfl (Ey hd) rfl ?_;refine aj "*b5eS" ?_;refine WL.ZO (vs:=[_,_]) ⟨ak rfl,ak rfl,trivial⟩ (aj "bh" ?_);refine WL.ny (first:=[]) (captured:=cap) (vs:=[]) hg (ak rfl) trivial (by simpa using hf) rfl ?_;rintro _ _ rfl;refine WL.nil ?_;exact⟨fun H'=>H'=C4::F,⟨_,_,rfl,call343,G9 (Rf hu3) fun H' hH=>by subst hH;exact⟨_,_,rfl,call342,G9 (Ke Mc hu4) fun H' hH=>hH⟩⟩,fun H' hH=>by subst hH;exact⟨_,C4::F,bJ.none rfl,fun w h=>h,rfl,rfl⟩⟩
theorem adL{g:Nat}{cap:List Value}(hg:bP prog g)(hd0:Rd K (C::F) (some ⟨b,o,none⟩) (.int .u32 ((0:Nat):Int)))(KC:Rd K (C::F) (some ⟨b,o+1,none⟩) (.int .i32 0))(hu1:bT K (C::F) b (o+1) [.int .i32 1] (C1::F))(Dq:Rd K (C1::F) (some ⟨b,o+1,none⟩) (.int .i32 1))
 (hd:Rd K (C1::F) (some ⟨b,o,none⟩) (.int .u32 ((0:Nat):Int))) (hf:aB prog g cap.toArray K (C1::F) (fun v H'=>H'=C2::F)) (hu3:bT K (C2::F) b o [.int .u32 1] (C3::F)) (Mc:Rd K (C3::F) (some ⟨b,o+1,none⟩) (.int .i32 1)) (hu4:bT K (C3::F) b (o+1) [.int .i32 0] (C4::F)) :
 aB prog 308 #[ptr b o,.func (.func g) #[] cap.toArray] K (C::F) (fun v H'=>v= .tuple #[]∧H'=C4::F):=by
 refine aB.en func308 ntmps308 ?_;refine aj "eS" ?_;refine WL.t1 call330 rfl (Ey hd0) rfl ?_;refine aj "*b5P" ?_;refine WL.c2 call331 rfl rfl (QA hg KC hu1 Dq hd hf hu3 Mc hu4) rfl ?_;rintro _ _ ⟨rfl,rfl⟩;refine WL.nil ?_;exact aF.normal (H':=C4::F) (bJ.none rfl) cO ⟨rfl,rfl⟩
theorem aag(hd:Rd K F (some ⟨b,o,none⟩) (.int .u32 ((1:Nat):Int))):aB prog 308 #[ptr b o,fv] K F (fun v H'=>v= .tuple #[]∧H'=F):=by
 refine aB.en func308 ntmps308 ?_;refine aj "eS" ?_;refine WL.t1 call330 rfl (Ey hd) rfl ?_;refine aj "*3q" ?_;exact aF.normal (H':=F) (bJ.none rfl) cO ⟨rfl,rfl⟩
def dG(done mtx:Nat)(rs st:List Nat)(rest:Value)(cnt:Nat):List Value :=
 [.int .u32 (done:Int),.int .i32 (mtx:Int),.int .u32 0]++(av .u32 rs++(av .u32 st++[rest,.i (cnt:Int)]))
theorem I9(ha:a.length=o)(hv:vs'.length=vs.length):oU (a++(vs++r)) o vs'=a++(vs'++r):=by grind [mD,take_left',drop_drop,drop_left',append_assoc]
theorem Sq(h:rs.length=64)(h':rs'.length=64):bT K (ah b T (dG d m rs st r c)::F) b 3 (av .u32 rs') (ah b T (dG d m rs' st r c)::F) :=
 bT.here (ble_eq_true_of_le (by simp only[dG,length_append,length_cons,length_nil,au,h,h'];omega)) (I9 rfl (by rw[au,au,h,h']))
theorem yX(h:rs.length=64)(h2:st.length=8)(h':st'.length=8):bT K (ah b T (dG d m rs st r c)::F) b 67 (av .u32 st') (ah b T (dG d m rs st' r c)::F):=by
 refine bT.here (ble_eq_true_of_le (by simp only[dG,length_append,length_cons,length_nil,au,h,h2,h'];omega)) ?_;rw[dG,←append_assoc];rw[I9 (by simp only[length_append,length_cons,length_nil,au,h]) (by rw[au,au,h2,h'])];rw[dG,append_assoc]
theorem abf{d':Nat}:bT K (ah b T (dG d m rs st r c)::F) b 0 [.int .u32 (d':Int)] (ah b T (dG d' m rs st r c)::F) :=
 bT.here (ble_eq_true_of_le (by simp only[dG,length_append,length_cons,length_nil];omega)) rfl
theorem Vi{m':Nat}:bT K (ah b T (dG d m rs st r c)::F) b 1 [.int .i32 (m':Int)] (ah b T (dG d m' rs st r c)::F) :=
 bT.here (ble_eq_true_of_le (by simp only[dG,length_append,length_cons,length_nil];omega)) rfl
theorem MR:Rd K (ah b T (dG d m rs st r c)::F) (some ⟨b,0,none⟩) (.int .u32 (d:Int)):=Rd.here rfl
theorem UH:Rd K (ah b T (dG d m rs st r c)::F) (some ⟨b,1,none⟩) (.int .i32 (m:Int)):=Rd.here rfl
theorem Nl(h:rs.length=64)(h2:st.length=8):aB prog 309 #[ptr bc 0] K (ah b 354 (dG d m rs st r c)::ah bc Tc [ptr b 0]::F) (fun v H'=>H'=ah b 354 (dG d m rC uR r c)::ah bc Tc [ptr b 0]::F):=by
 have Gs:uR.length=8:=by decide
 have l6:rC.length=64:=by decide
 obtain⟨ks,uL⟩:∃ks,ks=rC:=⟨_,rfl⟩;obtain⟨hs,hhs⟩:∃hs,hs=uR:=⟨_,rfl⟩;rw[←uL] at l6;rw[←hhs] at Gs;rw[←uL,←hhs];refine aB.en func309 ntmps309 ?_;refine aP "~X~~N0~~N1n2" ?_;refine WL.call (vs:=[]) call310 trivial (J9.eq (v':= .agg (av .u32 ks).toArray) (by rw[uL])) rfl ?_;rintro _ H0 ⟨rfl,h0⟩;subst H0;refine aj "bn3" ?_;refine WL.call (vs:=[]) call311 trivial (MW.eq (v':= .agg (av .u32 hs).toArray) (by rw[hhs])) rfl ?_;rintro _ H0 ⟨rfl,h0⟩;subst H0;refine aj "b~a405n6" ?_;refine WL.store (cs:=av .u32 ks) sizeOf348 (ak rfl) (ak rfl) rfl (by rw[au];exact l6) (gP _ _) (Sq h l6) ?_;refine aj "b~a708n9" ?_;refine WL.store (cs:=av .u32 hs) sizeOf349 (ak rfl) (ak rfl) rfl (by rw[au];exact Gs) (gP _ _) (by first | exact yX h h2 Gs | exact yX l6 h2 Gs) ?_;refine aj "bO" ?_;exact aF.normal (H':=_) (bJ.none rfl) cO rfl
theorem Ou(h:rs.length=64)(h2:st.length=8):aB prog 267 #[ptr b 0] K (ah b 354 (dG 0 0 rs st r c)::F) (fun v H'=>v= .tuple #[]∧H'=ah b 354 (dG 1 0 rC uR r c)::F):=by
 refine aB.en func267 ntmps267 ?_;refine aj "a~h" fun b1=> ?_;refine aj "bp~!" ?_;refine WL.val (V.load (v:=ptr b 0) isAgg301 (ak rfl) (fun _=>(Rd.here rfl).up)) rfl ?_;refine aj "S~U" ?_;refine WL.c2 call308 rfl rfl (adL (g:=309) (cap:=[ptr b1 0]) call309 MR UH (Vi (m':=1)) UH MR (Nl h h2) (abf (d':=1)) UH (Vi (m':=0))) rfl ?_;rintro _ _ ⟨rfl,rfl⟩;refine WL.nil ?_;exact aF.normal (H':=ah b 354 (dG 1 0 rC uR r c)::F) (bJ.none rfl) (fun w h=>h.bg 2 [0] rfl) ⟨rfl,rfl⟩
theorem QN:aB prog 267 #[ptr b 0] K (ah b 354 (dG 1 0 rs st r c)::F) (fun v H'=>v= .tuple #[]∧H'=ah b 354 (dG 1 0 rs st r c)::F):=by
 refine aB.en func267 ntmps267 ?_;refine aj "a~h" fun b1=> ?_;refine aj "bp<S~U" ?_;refine WL.c2 call308 rfl rfl (aag (MR.up)) rfl ?_;rintro _ _ ⟨rfl,rfl⟩;refine WL.nil ?_;exact aF.normal (H':=ah b 354 (dG 1 0 rs st r c)::F) (bJ.none rfl) (fun w h=>h.tail) ⟨rfl,rfl⟩
theorem Uu:aB prog 231 #[] K F (fun v H'=>∃b,v=ptr b 0∧H'=ah b 354 (dG 0 0 (replicate 64 0) (replicate 8 0) (.slice none 0 0) 0)::F):=by
 refine aB.en func231 ntmps231 ?_;refine aj "av@" ?_;refine WL.box (cs:=[_,_,_,_,_,_,_,_,_,_,_,_,_,_,_,_,_,_,_,_,_,_,_,_,_,_,_,_,_,_,_,_,_,_,_,_,_,_,_,_,_,_,_,_,_,_,_,_,_,_,_,_,_,_,_,_,_,_,_,_,_,_,_,_,_,_,_,_,_,_,_,_,_,_,_,_,_]) (ak rfl) rfl rfl (fun b2=> ?_);refine aj "d" ?_;exact qR _ rfl rfl cO ⟨_,rfl,rfl⟩
theorem EM(f:List Nat→List Nat→List Nat)(q:Nat):∀(a b:Nat) (d s:List Nat),dz f q (a+b) d s=dz f q b (d.drop (q*a)) (dz f q a d s)
 | 0,b,d,s=>by rw[Nat.zero_add,Nat.mul_zero,drop_zero];rfl
 | a+1,b,d,s=>by
  rw[show a+1+b=a+b+1 by omega,dz,dz,EM f q a b,drop_drop,Nat.mul_add,Nat.mul_one,Nat.add_comm q (q*a)]
theorem Cb(f:List Nat→List Nat→List Nat)(q:Nat):∀(a:Nat) (d r s:List Nat),q*a≤d.length→dz f q a (d++r) s=dz f q a d s
 | 0,_,_,_,_=>rfl
 | a+1,d,r,s,h=>by
  rw[Nat.mul_add,Nat.mul_one] at h;rw[dz,dz,take_append_of_le_length ay,drop_append_of_le_length ay];exact Cb f q a (d.drop q) r _ (by rw[length_drop];omega)
theorem NI(data:List Nat):dz gV 64 ((data.length+(lT 64 8 data.length).length)/64) (data++lT 64 8 data.length) uR =
 dz gV 64 ((data.length%64+(lT 64 8 data.length).length)/64) (data.drop (64*(data.length/64))++lT 64 8 data.length) (dz gV 64 (data.length/64) data uR):=by
 rw[show (data.length+(lT 64 8 data.length).length)/64=data.length/64+(data.length%64+(lT 64 8 data.length).length)/64 by omega,EM,Cb _ _ _ _ _ _ ay,drop_append_of_le_length ay]
theorem Ql(ha:a.length=o):oU (a++(v::r)) o [v']=a++(v'::r):=by
 have :=I9 (a:=a) (vs:=[v]) (vs':=[v']) (r:=r) ha rfl;exact this
theorem OB(h:rs.length=64)(h2:st.length=8):(dG d m rs st r c).length=77:=by
 simp only[dG,length_append,length_cons,length_nil,au,h,h2]
theorem Bp(d m c:Nat)(rs st:List Nat)(r:Value):dG d m rs st r c=([.int .u32 (d:Int),.int .i32 (m:Int),.int .u32 0]++av .u32 rs++av .u32 st)++(r::[.i (c:Int)]):=by
 simp[dG]
theorem xw(d m c:Nat)(rs st:List Nat)(r:Value):dG d m rs st r c=([.int .u32 (d:Int),.int .i32 (m:Int),.int .u32 0]++av .u32 rs++av .u32 st++[r])++((.i (c:Int))::[]):=by
 simp[dG]
theorem Jk(h:rs.length=64)(h2:st.length=8):bT K (ah b T (dG d m rs st r c)::F) b 75 [r'] (ah b T (dG d m rs st r' c)::F):=by
 refine bT.here (ble_eq_true_of_le (by rw[OB h h2];show 75+1≤77;omega)) ?_;rw[Bp,Ql (by simp only[length_append,length_cons,length_nil,au,h,h2]),←Bp]
theorem Yj{c':Nat}(h:rs.length=64)(h2:st.length=8):bT K (ah b T (dG d m rs st r c)::F) b 76 [.i (c':Int)] (ah b T (dG d m rs st r c')::F):=by
 refine bT.here (ble_eq_true_of_le (by rw[OB h h2];show 76+1≤77;omega)) ?_;rw[xw,Ql (by simp only[length_append,length_cons,length_nil,au,h,h2]),←xw]
theorem pU(h:rs.length=64)(h2:st.length=8):Rd K (ah b T (dG d m rs st r c)::F) (some ⟨b,75,none⟩) r:=Rd.here (by
 rw[Bp,getElem?_append_right (by simp only[length_append,length_cons,length_nil,au,h,h2];decide)];simp only[length_append,length_cons,length_nil,au,h,h2];rfl)
theorem QJ(h:rs.length=64)(h2:st.length=8):Rd K (ah b T (dG d m rs st r c)::F) (some ⟨b,76,none⟩) (.i (c:Int)):=Rd.here (by
 rw[xw,getElem?_append_right (by simp only[length_append,length_cons,length_nil,au,h,h2];decide)];simp only[length_append,length_cons,length_nil,au,h,h2];rfl)
theorem DK(h:rs.length=64)(hi:i<64):Rd K (ah b T (dG d m rs st r c)::F) (some ⟨b,3+i,none⟩) (.int .u32 ((rs.getD i 0:Nat):Int)):=Rd.here (by
 rw[dG,getElem?_append_right (by simp),getElem?_append_left (by rw[au,h];simp;omega)];have :=jH .u32 rs (i:=i) ay
 simpa using this)
theorem Dy(h:rs.length=64):fH K (ah b T (dG d m rs st r c)::F) b 67 (av .u32 st):=fH.here (by
 rw[dG,←append_assoc,drop_left' (by simp only[length_append,length_cons,length_nil,au,h])];exact prefix_append _ _)
theorem Sb(hs:Seq K F A m 1 (av .u8 data))(h8:aA 256 data)(hm:m≤100000000) :
 aB prog 232 #[ptr b 0,.slice A m cap] K (ah b 354 (dG 0 0 (replicate 64 0) (replicate 8 0) (.slice none 0 0) 0)::F) (fun v H'=>v= .i 0∧∃A' c' E,(∀H,Sl.Seq K (E::H) A' (m%64) 1 (av .u8 (data.drop (64*(m/64)))))∧m%64≤c'∧H'=E::ah b 354 (dG 1 0 rC (dz gV 64 (m/64) data uR) (.slice A' (m%64) c') m)::F):=by
 have hlen:data.length=m:=by have :=hs.len;rwa [au,Nat.mul_one] at this
 have Gs:uR.length=8:=by decide
 have l6:rC.length=64:=by decide
 refine aB.en func232 ntmps232 ?_;refine aj "af]3U" ?_;refine WL.c1 call267 rfl (Ou length_replicate length_replicate) rfl ?_;rintro _ _ ⟨rfl,rfl⟩;refine aj "beSck" ?_;refine WL.c2 call268 rfl rfl (WM (x:=0) (y:=m) (QJ l6 Gs) ay (Yj l6 Gs)) rfl ?_;rintro _ _ ⟨rfl,rfl⟩;refine aj "becS" ?_;refine WL.val (V.load (v:= .slice none 0 0) isAgg34 (ak rfl) (fun _=>pU l6 Gs)) rfl ?_;refine WL.mv rfl rfl ?_;refine WL.sub (H':=aV (.slice none 0 0) 5 1 0 (av .u8 [])::ah b 354 (dG 1 0 rC uR (.slice none 0 0) (0+m))::F) (Sub.refl _) (fun w h=>h.gI _ _) ?_;refine WL.Gn (m:=0) (l:=[]) underlying34 yL (ak rfl) (ak rfl) (fun A21 c21 akr ald=> ?_) hs.up;rw[Nat.zero_add] at akr ald ⊢;refine aj "S" ?_;refine WL.store (cs:=[.slice A21 m c21]) sizeOf34 (ak rfl) (ak rfl) rfl rfl rfl (Jk l6 Gs).up ?_;refine aj "Ft" ?_;obtain⟨ks,uL⟩:∃ks,ks=rC:=⟨_,rfl⟩;obtain⟨R,hR⟩:∃R,R=dz gV 64 (m/64) data uR:=⟨_,rfl⟩;obtain⟨h0,hh0⟩:∃h0,h0=uR:=⟨_,rfl⟩;have aom:aA 4294967296 h0:=by rw[hh0];unfold aA;decide
 rw[←uL] at l6;rw[←hh0] at Gs;rw[←hR];rw[←hh0] at hR;rw[←uL,←hh0];refine WC.loop (σ:=(Nat×Option Addr×Nat)×List Nat×List Nat) (fun t=>[(0,ptr b 0),(4,.i 0)]) (fun t=>ah b 354 (dG 1 0 ks t.2.2 (.slice t.1.2.1 (64*t.1.1+m%64) t.1.2.2) m)::aV (.slice A21 m c21) 5 1 m (av .u8 data)::F)
  (fun t=>(∀H,Sl.Seq K (aV (.slice A21 m c21) 5 1 m (av .u8 data)::H) t.1.2.1 (64*t.1.1+m%64) 1 (av .u8 t.2.1))∧64*t.1.1+m%64≤t.1.2.2∧aA 256 t.2.1∧t.2.2.length=8∧aA 4294967296 t.2.2∧dz gV 64 t.1.1 t.2.1 t.2.2=R∧t.2.1.drop (64*t.1.1)=data.drop (64*(m/64))) (fun t=>t.1.1) ((m/64,A21,c21),data,h0) ⟨fun H=>by
   show Sl.Seq K _ A21 (64*(m/64)+m%64) 1 _;rw[div_add_mod];exact aV.seq (by rw[au,hlen,Nat.mul_one]),by show 64*(m/64)+m%64≤c21;omega,h8,Gs,aom,hR.symm,rfl⟩ bC (fun w h=>by
   have h1:=h.bg 2 [1,0] rfl;have e1:m=64*(m/64)+m%64:=(div_add_mod m 64).symm;refine Sat.aT h1 ?_;dsimp only;rw[←e1]) ?_
 rintro⟨⟨r,A8,c8⟩,dt,st⟩ ⟨Om,JJ,Zn,qU,Nc,GL,JI⟩;dsimp only at Om JJ Zn qU Nc GL JI ⊢;refine aj "rS" ?_;refine WL.val (V.load (v:= .slice A8 (64*r+m%64) c8) isAgg34 (ak rfl) (fun _=>pU l6 qU)) rfl ?_;refine aj "k" ?_;refine WL.val (V.anM (j:=64) (ak rfl) (ak rfl)) rfl ?_;refine aj "i" (aW (fun h1=> ?_) fun h1=> ?_)
 ·simp only[cZ] at h1;obtain⟨r,rfl⟩:∃k,r=k+1:=⟨r-1,by omega⟩;rw[dz] at GL;refine aP "qtM~Xm0m1~a203m4~a506m8~a90:" ?_;refine WA.two (i:=7) (j:=11) eO (by kernel_rfl) rfl rfl ?_ ?_
  ·refine WL.val (V.fE (vs:=av .u32 st) ⟨isAgg349,sizeOf349⟩ (ak rfl) (by rw[au];exact qU) (fun _=>Dy l6)) rfl ?_;refine aj "bn;" ?_;refine WL.val (V.load (v:= .slice A8 (64*(r+1)+m%64) c8) isAgg34 (ak rfl) (fun _=>pU l6 qU)) rfl ?_;refine WL.nil ?_;refine WA.t 12 rfl (V.aG (v':= .slice A8 64 c8) (V.slice (m:=64*(r+1)+m%64) (cap:=c8) (l:=0) (h:=64) (u:=c8) dO (ak rfl) OO.none (OO.some (ak rfl) (fun _=>rfl)) OO.none (by simp) ay ay ay) (fun _=>by rw[zK,Nat.sub_zero,Nat.sub_zero])) ?_;refine WA.o 13 rfl ?_;refine WL.t3 call269 rfl rfl rfl (vC (o:=3) (s:=st) (data:=dt.take 64) (A:=A8) (fun i hi=>by rw[←uL];exact DK l6 hi) (by have h6:=(Om F).take (show 64≤64*(r+1)+m%64 by omega);rw[dU] at h6;exact h6.up) (fun x hx=>Zn x (mem_of_mem_take hx)) qU Nc ay) rfl ?_;refine aj "b~a>0?n@" ?_;refine WL.store (cs:=av .u32 (gV st (dt.take 64))) sizeOf349 (ak rfl) (ak rfl) rfl (by rw[au,fZ];rfl) (gP _ _) (yX l6 qU (by rw[fZ];rfl)) ?_;refine aj "bOPS" ?_;refine WL.val (V.load (v:= .slice A8 (64*(r+1)+m%64) c8) isAgg34 (ak rfl) (fun _=>pU l6 (by rw[fZ];rfl))) rfl ?_;refine WL.val (V.slice (m:=64*(r+1)+m%64) (cap:=c8) (l:=64) (h:=64*(r+1)+m%64) (u:=c8) dO (ak rfl) (OO.some (ak rfl) (fun _=>rfl)) OO.none OO.none (by simp) ay ay ay) rfl ?_;refine aj "S" ?_;refine WL.store (cs:=[_]) sizeOf34 (ak rfl) (ak rfl) rfl rfl rfl (Jk l6 (by rw[fZ];rfl)) ?_;refine aj "b~A" ?_;refine⟨((r,(if c8=64 then A8 else A8.map (·.add (64*1))),c8-64),dt.drop 64,gV st (dt.take 64)),⟨fun H=> ?_,by show 64*r+m%64≤c8-64;omega,fun x hx=>Zn x (mem_of_mem_drop hx),by show (gV _ _).length=8;rw[fZ];rfl,by rw[fZ];exact vW aN _ _,GL,by show (dt.drop 64).drop (64*r)=_;rw[drop_drop,←JI];congr 1;omega⟩,(by show r<r+1;omega),.cons rfl bC,fun w h=>Sat.aT h ?_⟩
   ·have h7:=Seq.rD (Om H) (l:=64) (h:=64*(r+1)+m%64) (u:=c8) ay (Nat.le_refl _) JJ;have wF:dt.length=64*(r+1)+m%64:=by have :=(Om []).len;rwa [au,Nat.mul_one] at this
    rw[take_of_length_le (by rw[length_drop];omega),show 64*(r+1)+m%64-64=64*r+m%64 by omega] at h7;exact h7
   ·rw[show 64*(r+1)+m%64-64=64*r+m%64 by omega]
  ·refine WL.val (V.load (v:= .slice A8 (64*(r+1)+m%64) c8) isAgg34 (ak rfl) (fun _=>pU l6 qU)) rfl ?_;refine WL.nil ?_;refine WA.t 12 rfl (V.aG (v':= .slice A8 64 c8) (V.slice (m:=64*(r+1)+m%64) (cap:=c8) (l:=0) (h:=64) (u:=c8) dO (ak rfl) OO.none (OO.some (ak rfl) (fun _=>rfl)) OO.none (by simp) ay ay ay) (fun _=>by rw[zK,Nat.sub_zero,Nat.sub_zero])) ?_;refine WA.o 7 rfl ?_;refine WL.val (V.fE (vs:=av .u32 st) ⟨isAgg349,sizeOf349⟩ (ak rfl) (by rw[au];exact qU) (fun _=>Dy l6)) rfl ?_;refine aj "bn=" ?_;refine WL.t3 call269 rfl rfl rfl (vC (o:=3) (s:=st) (data:=dt.take 64) (A:=A8) (fun i hi=>by rw[←uL];exact DK l6 hi) (by have h6:=(Om F).take (show 64≤64*(r+1)+m%64 by omega);rw[dU] at h6;exact h6.up) (fun x hx=>Zn x (mem_of_mem_take hx)) qU Nc ay) rfl ?_;refine aj "b~a>0?n@" ?_;refine WL.store (cs:=av .u32 (gV st (dt.take 64))) sizeOf349 (ak rfl) (ak rfl) rfl (by rw[au,fZ];rfl) (gP _ _) (yX l6 qU (by rw[fZ];rfl)) ?_;refine aj "bOPS" ?_;refine WL.val (V.load (v:= .slice A8 (64*(r+1)+m%64) c8) isAgg34 (ak rfl) (fun _=>pU l6 (by rw[fZ];rfl))) rfl ?_;refine WL.val (V.slice (m:=64*(r+1)+m%64) (cap:=c8) (l:=64) (h:=64*(r+1)+m%64) (u:=c8) dO (ak rfl) (OO.some (ak rfl) (fun _=>rfl)) OO.none OO.none (by simp) ay ay ay) rfl ?_;refine aj "S" ?_;refine WL.store (cs:=[_]) sizeOf34 (ak rfl) (ak rfl) rfl rfl rfl (Jk l6 (by rw[fZ];rfl)) ?_;refine aj "b~A" ?_;refine⟨((r,(if c8=64 then A8 else A8.map (·.add (64*1))),c8-64),dt.drop 64,gV st (dt.take 64)),⟨fun H=> ?_,by show 64*r+m%64≤c8-64;omega,fun x hx=>Zn x (mem_of_mem_drop hx),by show (gV _ _).length=8;rw[fZ];rfl,by rw[fZ];exact vW aN _ _,GL,by show (dt.drop 64).drop (64*r)=_;rw[drop_drop,←JI];congr 1;omega⟩,(by show r<r+1;omega),.cons rfl bC,fun w h=>Sat.aT h ?_⟩
   ·have h7:=Seq.rD (Om H) (l:=64) (h:=64*(r+1)+m%64) (u:=c8) ay (Nat.le_refl _) JJ;have wF:dt.length=64*(r+1)+m%64:=by have :=(Om []).len;rwa [au,Nat.mul_one] at this
    rw[take_of_length_le (by rw[length_drop];omega),show 64*(r+1)+m%64-64=64*r+m%64 by omega] at h7;exact h7
   ·rw[show 64*(r+1)+m%64-64=64*r+m%64 by omega]
 ·simp only[cZ] at h1;refine aj "W" ?_;obtain rfl:r=0:=by omega
  rw[Nat.mul_zero,drop_zero] at JI;rw[Nat.mul_zero,Nat.zero_add] at JJ ⊢;rw[dz] at GL;rw[GL];refine aj "pd" ?_;exact aF.ret (H':=aV (.slice A21 m c21) 5 1 m (av .u8 data)::ah b 354 (dG 1 0 ks R (.slice A8 (m%64) c8) m)::F) (bJ.tmp rfl rfl) (fun w h=>h.bg 2 [1,0] rfl) ⟨rfl,A8,c8,_,fun H=>by have h9:=Om H;rw[Nat.mul_zero,Nat.zero_add,JI] at h9;exact h9,JJ,rfl⟩
end Go.Proofs.YtcedojacbhnbiaaGreat
namespace Go.Sl
open Go Go.RowKit Go.BigFrame Go.Proofs.YtcedojacbhnbiaaGreat List Nat
theorem WL.TI{T E bytes:Nat}(hT:P.underlying T=some (.slice E))(hE:dH P E s bytes z)(hx:OV true e x (.slice (some pa) m cap))(hy:OV true e y (.slice B q cap'))
 (hs:Seq K H (some pa) m s cs) (hn:Seq K H B q s news) (wH:cap<m+q) (hq0:0<q) (hb:(m+q)*bytes≤140737488355328) (JC:blt 0 bytes=true) (hd:blt d n=true)
 (h:∀A cap,(A=none→m+q=0∧cap=0)→m+q≤cap→WL Mo P K n ops rest Q ((d,.slice A (m+q) cap)::e) (aV (.slice A (m+q) cap) E s (m+q) (cs++news)::H)) :
 WL Mo P K n ops (⟨some d,.call ⟨.builtin .append,#[x,y],#[T,T]⟩,ty,pos,af,none⟩::rest) Q e H:=by
 refine WL.RQ (R:=fun u H'=>∃A cap,u= .slice A (m+q) cap∧(A=none→m+q=0∧cap=0)∧m+q≤cap∧H'=aV (.slice A (m+q) cap) E s (m+q) (cs++news)::H) (fun a w ha hw=> ?_) hd (fun u H' ⟨A,cap,e1,e2,e3,e4⟩=>by subst e1 e4;exact h A cap e2 e3);obtain⟨i,hi,hz,Zp,TT,hzs,h0⟩:=hE;have RH:0<bytes:=by simpa using JC
 have hle:m+q≤140737488355328:=Nat.le_trans (Nat.le_mul_of_pos_right _ RH) hb;have aeL:m+q≤maxLen:=by simp only[maxLen];omega
 have Km:=hx.ev rfl ha;have Qt:=hy.ev rfl ha;have hns:0<news.length:=by rw[hn.len];exact Nat.mul_pos hq0 h0
 obtain⟨pb,rfl,_⟩:=hn.cell hw (i:=0) (v:=news[0]) (by simp);have holds:∀j v,cs[j]? =some v→w.cell? (pa.add j)=some v:=fun j v hj=>by
  obtain⟨p,k1,k2⟩:=hs.cell hw hj;simp at k1;subst k1;exact k2
 have acG:∀j v,news[j]? =some v→w.cell? (pb.add j)=some v:=fun j v hj=>by
  obtain⟨p,k1,k2⟩:=hn.cell hw hj;simp at k1;subst k1;exact k2
 subst Zp TT;have hr:=run_append_grow (P:=P) w T ty E i z hT hi hz pa m cap cs hs.len holds pb q cap' news hn.len acG wH ay (growslice_fits wH hb);have hge:=grownCap_ge w (m+q) cap E;have Zi:=grownCap_le_maxLen w (m+q) cap E aeL;have hlen:(cs++news).length=(m+q)*i.size:=by rw[length_append,hs.len,hn.len,Nat.add_mul]
 refine⟨.slice (some ⟨w.heap.size,0,none⟩) (m+q) (grownCap w (m+q) cap E),w.drew.alloc (.cells (cs.toArray++news.toArray++Builtin.zeroCells z.cells (grownCap w (m+q) cap E-(m+q))) E),
  aV (.slice (some ⟨w.heap.size,0,none⟩) (m+q) (grownCap w (m+q) cap E)) E i.size (m+q) (cs++news)::H, ?_,⟨hw.1.grow rfl rfl rfl (by simp), ?_⟩,_,_,rfl,(fun h=>by simp at h),hge,rfl⟩
 ·rw[execOp_builtin,builtin_append];simp only[map_toArray,map_cons,map_nil,Km,Qt,Sem.run_bind,hr,Result.andThen_ok,Sem.run_pure]
 ·refine hw.2.push (by simp) (fun b wE=> ?_) ?_ (fun b wE=> ?_)
  ·exact heap_alloc_old w.drew _ wE
  ·refine⟨hlen,.inr ⟨w.heap.size,_,_,rfl,zero_le _,heap_alloc_new w.drew _,hge,Zi, ?_, ?_⟩⟩
   ·simp only[Array.size_append,size_toArray,size_zeroCells,hzs,hs.len,hn.len,←Nat.add_mul];congr 1;omega
   ·simp only[Array.toList_append,append_assoc];rw[←append_assoc,←hlen];exact take_left
  ·simp[aV,Value.ownBlock] at wE;subst wE;simp
theorem WL.U6{T E bytes:Nat}(hT:P.underlying T=some (.slice E))(hE:dH P E 1 bytes z)(hx:OV true e x (.slice A m m))(hy:OV true e y (.slice B q cap'))
 (hs:Seq K H A m 1 (av k l)) (hn:Seq K H B q 1 (av k news)) (hq0:0<q) (hb:(m+q)*bytes≤140737488355328) (JC:blt 0 bytes=true) (hd:blt d n=true)
 (h:∀A cap,m+q≤cap→WL Mo P K n ops rest Q ((d,.slice A (m+q) cap)::e) (aV (.slice A (m+q) cap) E 1 (m+q) (av k (l++news))::H)) :
 WL Mo P K n ops (⟨some d,.call ⟨.builtin .append,#[x,y],#[T,T]⟩,ty,pos,af,none⟩::rest) Q e H:=by
 cases A with
 | some pa =>
  exact WL.TI hT hE hx hy hs hn ay hq0 hb JC hd fun A c _ h2=>by
   have h3:=h A c h2;rw[dx] at h3;exact h3
 | none =>
  rcases eq_zero_or_pos m with hm | hm
  case inr =>
   intro a w ha hw;have hl:=hs.len;rw[au,Nat.mul_one] at hl;obtain⟨pa,h1,_⟩:=hs.cell hw (i:=0) (v:=(av k l)[0]'(by rw[au];omega)) (by simp);cases h1
  subst hm;have hl:l=[]:=by
   have :=hs.len;rw[au,Nat.zero_mul] at this;exact eq_nil_of_length_eq_zero this
  subst hl;refine WL.sub (H':=aV (.slice none 0 0) E 1 0 (av k [])::H) (Sub.refl _) (fun w h=>h.gI _ _) ?_;refine WL.append hT hE hx hy hn (jB k news) hb JC hd (fun A c _ h2=> ?_);exact h A c h2
end Go.Sl
namespace Go.Proofs.YtcedojacbhnbiaaGreat
open Go.Sl Go.RowKit Tryz List Nat
theorem AJ(s data:List Nat):(gV s data).length=8:=by rw[fZ];rfl
theorem BO(s data:List Nat):aA 4294967296 (gV s data):=by grind [fZ,vW]
theorem abS(hE:∀H,Sl.Seq K (E::H) A q 1 (av .u8 rest))(h8:aA 256 rest)(hqc:q≤c)(hq:q<64)(hm:m≤100000000)(hmq:m%64=q)(dL:st.length=8)(RF:aA 4294967296 st) :
 aB prog 233 #[ptr b 0] K (ah b 354 (dG 1 0 rC st (.slice A q c) m)::E::F) (fun v H'=>v= .agg (av .u8 ((dz gV 64 ((q+(lT 64 8 m).length)/64) (rest++lT 64 8 m) st).flatMap fun x=>(bG 256 4 x).reverse)).toArray∧H'=ah b 354 (dG 1 0 rC st (.slice A q c) m)::E::F):=by
 have l6:rC.length=64:=by decide
 have pG:rest.length=q:=by have :=(hE []).len;rwa [au,Nat.mul_one] at this
 obtain⟨pg,Dt⟩:∃pg,pg=lT 64 8 m:=⟨_,rfl⟩;have amU:aA 256 pg:=by rw[Dt];exact Ie _ _ _
 have arL:(m+pg.length)%64=0:=by rw[Dt];exact Rp aN aN
 have anR:0<pg.length:=by rw[Dt];simp[lT]
 have aqX:pg.length≤200:=by
  rw[Dt];simp only[lT,length_append,length_cons,length_replicate,length_reverse,aI];omega
 rw[←Dt];obtain⟨pd,hpd⟩:∃pd,pd=rest++pg:=⟨_,rfl⟩;have qY:aA 256 pd:=by rw[hpd];exact h8.append amU
 have l7:pd.length=q+pg.length:=by rw[hpd,length_append,pG]
 have hpz:pd.length%64=0:=ay;rw[←hpd,←l7];obtain⟨R,hR⟩:∃R,R=dz gV 64 (pd.length/64) pd st:=⟨_,rfl⟩;rw[←hR];obtain⟨ks,uL⟩:∃ks,ks=rC:=⟨_,rfl⟩;rw[←uL] at l6;rw[←uL];refine aB.en func233 ntmps233 ?_;refine aP "ax" fun b2=> ?_;refine aP "Rx" fun b3=> ?_;refine aj "br]3U" ?_;refine WL.sub (Sub.refl _) (fun w h=>h.bg 4 [2,1,0,3] rfl) ?_;refine WL.c1 call267 rfl QN rfl ?_;rintro _ _ ⟨rfl,rfl⟩;refine aj "beS" ?_;refine WL.val (V.fE (vs:=av .u32 st) ⟨isAgg349,sizeOf349⟩ (ak rfl) (by rw[au];exact dL) (fun _=>Dy l6)) rfl ?_;refine aP "x" fun b4=> ?_;refine aP "yF~Xm0~a102" ?_;refine WA.t 3 rfl (V.load (v:= .slice A q c) isAgg34 (ak rfl) (fun _=>pU l6 dL)) ?_;refine aj "m4~a506" ?_;refine WA.t 7 rfl (V.load (v:= .slice A q c) isAgg34 (ak rfl) (fun _=>pU l6 dL)) ?_;refine aj "~~~b8m9~a:0;" ?_;refine WA.t 12 rfl (V.load (v:= .slice A q c) isAgg34 (ak rfl) (fun _=>pU l6 dL)) ?_;refine aj "~~~b=" ?_;refine WA.t 14 rfl (V.aG (v':= .slice A q q) (V.slice (m:=q) (cap:=c) (l:=0) (h:=q) (u:=q) dO (ak rfl) OO.none (OO.some (ak rfl) (fun _=>rfl)) (OO.some (ak rfl) (fun _=>rfl)) (by simp) ay ay ay) (fun _=>by rw[zK,Nat.sub_zero])) ?_;refine aj "m?~a@0AnB" ?_;refine WL.t1 call271 rfl (TV ((QJ l6 dL).up)) rfl ?_;refine aj "bnC" ?_;refine WL.c1 call270 rfl (Ug (m:=m) ay) rfl ?_;rintro _ _ ⟨A',M,cap',hM,rfl,hMc,rfl⟩;rw[←Dt] at hM ⊢;subst hM;refine aj "bnD" ?_;refine WL.U6 (m:=q) (l:=rest) (news:=pg) underlying34 yL (ak rfl) (ak rfl) ((hE F).up.up.up.up.up) (aV.seq (by rw[au,Nat.mul_one])) anR ay rfl rfl (fun A20 c20 arW=> ?_);rw[←hpd,←l7] at *
 refine aj "b~uEOMt" ?_;refine WC.loop (σ:=(Nat×Option Addr×Nat)×List Nat×List Nat) (fun t=>[(0,ptr b 0),(2,ptr b2 0),(3,ptr b3 0),(4,ptr b4 0),(5,.slice t.1.2.1 (64*t.1.1) t.1.2.2)]) (fun t=>ah b4 349 (av .u32 t.2.2)::aV (.slice A20 pd.length c20) 5 1 pd.length (av .u8 pd)::ah b 354 (dG 1 0 ks st (.slice A q c) m)::ah b3 97 (av .u8 (replicate 32 0))::ah b2 97 (av .u8 (replicate 32 0))::E::F)
  (fun t=>(∀H,Sl.Seq K (aV (.slice A20 pd.length c20) 5 1 pd.length (av .u8 pd)::H) t.1.2.1 (64*t.1.1) 1 (av .u8 t.2.1))∧64*t.1.1≤t.1.2.2∧aA 256 t.2.1∧t.2.2.length=8∧aA 4294967296 t.2.2∧dz gV 64 t.1.1 t.2.1 t.2.2=R) (fun t=>t.1.1) ((pd.length/64,A20,c20),pd,st) ⟨fun H=>by
   show Sl.Seq K _ A20 (64*(pd.length/64)) 1 _;rw[show 64*(pd.length/64)=pd.length by omega];exact aV.seq (by rw[au,Nat.mul_one]),by show 64*(pd.length/64)≤c20;omega,qY,dL,RF,hR.symm⟩ (.cons rfl (.cons rfl (.cons rfl (.cons rfl (.cons (look_eq rfl (by congr 1<;>(dsimp only;omega))) (.nil _)))))) (fun w h=>h.bg 7 [2,0,3,5,4,6] rfl) ?_
 rintro⟨⟨r,A8,c8⟩,dt,s8⟩ ⟨Om,JJ,Zn,qU,Nc,GL⟩;dsimp only at Om JJ Zn qU Nc GL ⊢;have wF:dt.length=64*r:=by have :=(Om []).len;rwa [au,Nat.mul_one] at this
 refine aP "rk~^i" (aW (fun h1=> ?_) fun h1=> ?_)
 ·simp only[cZ] at h1;obtain⟨r,rfl⟩:∃k,r=k+1:=⟨r-1,by omega⟩;rw[dz] at GL;refine aj "I" ?_;have BI:=AJ s8 (dt.take 64);refine aP "~.J0~~91~q2" ?_;refine UA.Ru 3 rfl (fun _=>V.jd ⟨isAgg349,sizeOf349⟩ (ak rfl)) ?_;refine aP "J4" ?_;refine UA.val 5 rfl (fun _=>V.aG (v':= .slice A8 64 c8) (V.slice (m:=64*(r+1)) (cap:=c8) (l:=0) (h:=64) (u:=c8) dO (ak rfl) OO.none (OO.some (ak rfl) (fun _=>rfl)) OO.none (by simp) ay ay ay) (fun _=>by rw[zK,Nat.sub_zero,Nat.sub_zero])) ?_;refine UA.call (vs:=[_,_,_]) 6 rfl call269 (fun _=>⟨ak rfl,ak rfl,ak rfl,trivial⟩) (fun H' hF=>vC (o:=3) (s:=s8) (data:=dt.take 64) (A:=A8) (fun i hi=>by
   have h5:Rd K (aV (.slice A20 pd.length c20) 5 1 pd.length (av .u8 pd)::ah b 354 (dG 1 0 ks st (.slice A q c) m)::ah b3 97 (av .u8 (replicate 32 0))::ah b2 97 (av .u8 (replicate 32 0))::E::F) (some ⟨b,3+i,none⟩) (.int .u32 ((ks.getD i 0:Nat):Int)):=(DK l6 hi).up;rw[←uL];exact fun w hw=>h5 w (hF w hw)) (by have h6:=(Om (ah b 354 (dG 1 0 ks st (.slice A q c) m)::ah b3 97 (av .u8 (replicate 32 0))::ah b2 97 (av .u8 (replicate 32 0))::E::F)).take (show 64≤64*(r+1) by omega);rw[dU] at h6;exact h6.sat hF) (fun x hx=>Zn x (mem_of_mem_take hx)) qU Nc ay) ?_
  refine UA.lI 7 rfl sizeOf349 (fun _=>ak rfl) (fun _=>ak rfl) ?_;refine aP "|" fun BS=> ?_;simp only[map_cons,map_nil,cons_append,nil_append];refine aj "h" ?_;refine WL.val (V.slice (m:=64*(r+1)) (cap:=c8) (l:=64) (h:=64*(r+1)) (u:=c8) dO (ak rfl) (OO.some (ak rfl) (fun _=>rfl)) OO.none OO.none (by simp) ay ay ay) rfl ?_;refine aj "X" ?_;refine⟨((r,_,c8-64),dt.drop 64,gV s8 (dt.take 64)),⟨fun H=> ?_,by show 64*r≤c8-64;omega,fun x hx=>Zn x (mem_of_mem_drop hx),AJ _ _,BO _ _,GL⟩,(by show r<r+1;omega),.cons rfl (.cons rfl (.cons rfl (.cons rfl (.cons (look_eq rfl (by congr 1<;>(dsimp only;omega))) (.nil _))))),fun w h=>h⟩;have h7:=Seq.rD (Om H) (l:=64) (h:=64*(r+1)) (u:=c8) ay (Nat.le_refl _) JJ;rw[take_of_length_le (by rw[length_drop];omega),show 64*(r+1)-64=64*r by omega] at h7;exact h7
 ·simp only[cZ] at h1;refine aj "WM" ?_;obtain rfl:r=0:=by omega
  rw[dz] at GL;rw[GL] at qU ⊢;obtain⟨L,hL⟩:∃L,L=R.flatMap (fun x=>(bG 256 4 x).reverse):=⟨_,rfl⟩;have hLl:L.length=32:=by rw[hL,yD,qU]
  have hLg:∀i k,i<8→k<4→L.getD (4*i+k) 0=R.getD i 0/2^(24-8*k)%256:=fun i k hi hk=>by
   rw[hL,DI 4 R i k ay hk,show (2:Nat)^(24-8*k)=256^(4-1-k) by rw[show 24-8*k=8*(4-1-k) by omega,Nat.pow_mul]]
  rw[←hL];refine aP "pAN" ?_;refine WC.loop (σ:=Nat) (fun i=>[(2,ptr b2 0),(3,ptr b3 0),(51,.agg (av .u32 R).toArray),(52,.i ((i:Nat):Int))]) (fun i=>ah b3 97 (av .u8 (L.take (4*i)++replicate (32-4*i) 0))::ah b 354 (dG 1 0 ks st (.slice A q c) m)::ah b2 97 (av .u8 (replicate 32 0))::E::F)
   (fun i=>i≤8) (fun i=>8-i) 0 (zero_le _) bC (fun w h=>Sat.aT (h.bg 6 [3,2,4,5] rfl) (by simp)) ?_
  rintro i hi;refine aP "a~~nFH" (aW (fun h2=> ?_) fun h2=> ?_)
  ·simp only[cZ] at h2;refine aP "1~~oljbt" ?_;refine WC.loop (σ:=Nat) (fun k=>[(2,ptr b2 0),(3,ptr b3 0),(51,.agg (av .u32 R).toArray),(52,.i ((i:Nat):Int)),(6,.i ((i:Nat):Int)),(7,.int .u32 ((R.getD i 0:Nat):Int)),(56,.i ((k:Nat):Int))]) (fun k=>ah b3 97 (av .u8 (L.take (4*i+k)++replicate (32-(4*i+k)) 0))::ah b 354 (dG 1 0 ks st (.slice A q c) m)::ah b2 97 (av .u8 (replicate 32 0))::E::F)
    (fun k=>k≤4) (fun k=>4-k) 0 (zero_le _) bC cO ?_
   rintro k hk;have o7:(L.take (4*i+k)++replicate (32-(4*i+k)) 0).length=32:=by rw[length_append,length_take,length_replicate];omega
   refine aP "a~~MFH" (aW (fun h3=> ?_) fun h3=> ?_)
   ·simp only[cZ] at h3;refine aj "1gh" ?_;refine WL.val (V.Ob (i:=4) (ak rfl) (ak rfl)) rfl (aP "c~Sz~~c" ?_);refine WL.val (V.rD (i:=24) (ak rfl) (ak rfl)) rfl (aP "~8" ?_);refine WL.val (V.G6 (i:=R.getD i 0/2^(24-8*k)) (M:=256) runUnderlying339 runUnderlying5 (ak rfl)) rfl ?_;rw[←hLg i k h2 h3];refine aP "~F~vbp>=" ?_;refine⟨k+1,(by show k+1≤4;omega),(by show 4-(k+1)<4-k;omega),.cons rfl bC,fun w h=>Sat.aT h (by rw[qp hLl ay,Nat.add_assoc])⟩
   ·simp only[cZ] at h3;refine WC.exit ?_;obtain rfl:k=4:=by omega
    refine aP "p>=" ?_;exact⟨i+1,(by show i+1≤8;omega),(by show 8-(i+1)<8-i;omega),.cons rfl bC,fun w h=>h⟩
  ·simp only[cZ] at h2;refine aj "W" ?_;obtain rfl:i=8:=by omega
   rw[take_of_length_le ay,Nat.sub_self,replicate_zero,append_nil];refine aP "pAy2" ?_;exact aF.ret (H':=ah b 354 (dG 1 0 ks st (.slice A q c) m)::E::F) (bJ.one rfl (R1.dh (l:=L) rfl ⟨isAgg97,sizeOf97⟩)) (fun w h=>h.bg 4 [1,3] rfl) ⟨rfl,rfl⟩
theorem AZ:∀(k:Nat) (d s:List Nat),s.length=8→aA 4294967296 s→(dz gV 64 k d s).length=8∧aA 4294967296 (dz gV 64 k d s)
 | 0,_,_,h1,h2=>⟨h1,h2⟩
 | k+1,d,s,_,_=>by rw[dz];exact AZ k _ _ (AJ _ _) (BO _ _)
theorem JB(d:List Nat):(sum256 d).length=32:=by rw[sum256,yD,(AZ _ _ _ aN (by unfold aA;decide)).1]
theorem aeU(d:List Nat):aA 256 (sum256 d):=by
 intro x hx;rw[sum256] at hx;obtain⟨y,_,hy⟩:=mem_flatMap.1 hx;exact bL aN _ _ x (mem_reverse.1 hy)
theorem T9(hs:Seq K F A m 1 (av .u8 data))(h8:aA 256 data)(hm:m≤100000000) :
 aK prog 174 #[.slice A m cap] K F (.agg (av .u8 (sum256 data)).toArray):=by
 have hlen:data.length=m:=by have :=hs.len;rwa [au,Nat.mul_one] at this
 obtain⟨L,hL⟩:∃L,L=sum256 data:=⟨_,rfl⟩;have hLl:L.length=32:=by rw[hL];exact JB data
 rw[←hL];rw[sum256,NI data,hlen] at hL;obtain⟨st,dL⟩:∃st,st=dz gV 64 (m/64) data uR:=⟨_,rfl⟩;have hw:st.length=8∧aA 4294967296 st:=by rw[dL];exact AZ _ _ _ aN (by unfold aA;decide)
 rw[←dL] at hL;refine aB.en func174 ntmps174 ?_;refine aP "ax" fun b2=> ?_;refine aj "R" ?_;refine WL.call (vs:=[]) call231 trivial (Uu) rfl ?_;rintro _ _ ⟨bh,rfl,rfl⟩;refine aj "Y" ?_;refine WL.c2 call232 rfl rfl (Sb (data:=data) hs.up h8 hm) rfl ?_;rintro _ _ ⟨rfl,A',c',E,hE,hc',rfl⟩;rw[←dL];refine aj "be" ?_;refine WL.sub (Sub.refl _) (fun w h=>h.bg 3 [1,0,2] rfl) ?_;refine WL.c1 call233 rfl (abS hE (fun x hx=>h8 x (mem_of_mem_drop hx)) hc' (mod_lt _ aN) hm rfl hw.1 hw.2) rfl ?_;rintro _ _ ⟨rfl,rfl⟩;rw[←hL];refine WL.sub (Sub.refl _) (fun w h=>h.bg 3 [2] rfl) ?_;refine aP "y2" ?_;exact aF.ret (H':=F) (bJ.one rfl (R1.dh (l:=L) rfl ⟨isAgg97,sizeOf97⟩)) eO ⟨rfl,rfl⟩
end Go.Proofs.YtcedojacbhnbiaaGreat
