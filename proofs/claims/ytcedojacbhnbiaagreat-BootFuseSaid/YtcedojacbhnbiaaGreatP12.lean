import Derived.Test.YtcedojacbhnbiaaGreatP11
import Derived.Laws.LoneSync
set_option linter.unusedSimpArgs false
set_option linter.unusedVariables false
set_option maxHeartbeats 2000000
set_option maxRecDepth 20000
namespace Go.Sl
open Go Go.RowKit Go.BigFrame Go.Proofs.YtcedojacbhnbiaaGreat List Nat
section
variable{Mo:Mode}{P:Program}{K:World}{n:Nat}{Q:fG}{e:Env}{H:List aA}{ty:TypeId}{pos:String}{af:Array Edge}{ops:Array Oper}{rest:List Oper}
theorem WL.ahr{d:Nat}{x y:Operand}{T T' E b o dl dc q cap':Nat}{B:Option Addr}{news:List Value}{H':List aA}(hT:gI P T E 1)(hx:OV true e x (.slice (some ⟨b,o,none⟩) dl dc))(hy:OV true e y (.slice B q cap'))
 (hn:Seq K H B q 1 news) (hl:q≤dl) (h1:∀v∈news,v.oneCell'=true) (hu:dw K H b o news H') (hd:blt d n=true)
 (h:WL Mo P K n ops rest Q ((d,.i (q:Int))::e) H'):WL Mo P K n ops (⟨some d,.call ⟨.builtin .copy,#[x,y],#[T,T']⟩,ty,pos,af,none⟩::rest) Q e H:=by
 refine WL.SS (R:=fun v oV=>v= .i (q:Int)∧oV=H') (fun a w ha hw=> ?_) hd (fun v oV ⟨e1,e2⟩=>by subst e1 e2;exact h);obtain⟨k1,k2⟩:=hu.run (P:=P) hw h1;refine⟨_,_,H', ?_,k2,rfl,rfl⟩;have hlen:news.length=q:=by rw[hn.len,Nat.mul_one]
 have hm:q.min dl=q:=Nat.min_eq_left hl;rw[execOp_builtin,builtin_copy];have KO:=hx.ev rfl ha;have Qr:=hy.ev rfl ha;have hf:(Builtin.firstCells 1 q (.slice B q cap')).run P w= .ok news.toArray w:=by
  cases B with
  | none =>
   have :news=[]:=by
    cases news with
    | nil=>rfl
    | cons u us=>obtain⟨p,h1,_⟩:=hn.rd 0 u rfl w hw;simp at h1
   subst this;rfl
  | some pb =>
   have :=run_loadCells_list (P:=P) w pb news (fun j v hj=>by
    obtain⟨p,h1,h2⟩:=hn.cell hw hj;simp at h1;subst h1;exact h2)
   rw[hlen] at this
   simpa [Builtin.firstCells] using this
 simp[Builtin.copy_,KO,Qr,hT.1 w,hT.2 w,Builtin.lenOf,hm,hf,k1,goInt]
end
end Go.Sl
namespace Go.Proofs.YtcedojacbhnbiaaGreat
open Go.Sl Go.RowKit Tryz List Nat
set_option exponentiation.threshold 5000
theorem aaP(l:List Nat):JJ l<115792089237316195423570985008687907853269984665640564039457584007913129639936:=Vb (mod_lt _ aK)
section
variable{K:World}{F:List aA}
end
def Ur(pub:Nat)(msg:List Nat)(r s:Nat):Nat :=
 if (fq pub).isSome∧(fq r).isSome then (if lu pub msg r s then 0 else 191) else 170
theorem NK{pub:Nat}{msg:List Nat}{r s:Nat}(h:¬((fq pub).isSome∧(fq r).isSome)):lu pub msg r s=false:=by grind [lu]
theorem adU{pub:Nat}{msg:List Nat}{r s:Nat}:Ur pub msg r s=0↔lu pub msg r s=true:=by grind [Ur,NK]
theorem Zg(y:Nat):(vQ y).1<fP:=SB _
theorem Jw{b:Nat}{p:Nat×Nat}(h:fq b=some p):p.1<fP∧p.2<fP:=by
 rw[Jc] at h;obtain⟨y,hy⟩:∃y,y=b%57896044618658097711785492504343953926634992332820282019728792003956564819968:=⟨_,rfl⟩;obtain⟨u,hu⟩:∃u,u=vQ y:=⟨_,rfl⟩;have hul:u.1<fP:=by rw[hu];exact Zg y
 obtain⟨z,hz⟩:∃z,z=uJ 0 u.1:=⟨_,rfl⟩;have hzl:z<fP:=by rw[hz];exact oh _ _
 rw[←hy,←hu,←hz] at h;clear hu hy hz;obtain⟨c,hc⟩:∃c:Prop,c=(b<57896044618658097711785492504343953926634992332820282019728792003956564819968):=⟨_,rfl⟩;by_cases h0:y<fP∧u.2=true
 ·rw[if_pos h0] at h;split at h
  ·injection h with h;rw[←h];exact⟨hul,h0.1⟩
  ·split at h
   ·cases h
   ·injection h with h;rw[←h];exact⟨hzl,h0.1⟩
 ·rw[if_neg h0] at h;cases h
theorem M8:∀(vs cs:List Value) (o:Nat) (r:List Value),cs.drop o=vs++r→Pf cs o vs
 | [],_,_,_,_=>trivial
 | v::vs,cs,o,r,h=>by
  refine⟨?_,M8 vs cs (o+1) r ?_⟩
  ·have h1:=getElem?_drop (xs:=cs) (i:=o) (j:=0);rw[h] at h1;rw[Nat.add_zero] at h1;rw[←h1];rfl
  ·have h2:(cs.drop o).drop 1=vs++r:=by rw[h];rfl
   rwa [drop_drop] at h2
theorem acg(k:IntKind)(l r:List Nat):Pf (av k (l++r)) 0 (av k l):=by grind [M8,dA]
theorem aao(k:IntKind)(x:Nat)(r:List Nat):Pf (av k (bH 256 32 x++r)) 32 (av k r):=by simp_all [M8,kT,drop_left',aH,append_nil]
theorem akH(a b:Nat×Nat):iA prog 10000 219 (pt a) (pt b) (decide (bH 256 32 a.1=bH 256 32 b.1)&&(decide (bH 256 32 a.2=bH 256 32 b.2)&&true)) :=
 iA.struct underlying219 (by kernel_rfl)
  (GY.cons aK (xY ⟨isAgg97,sizeOf97⟩ (vs:=av .u8 (bH 256 32 a.1)) rfl (acg _ _ _)) (xY ⟨isAgg97,sizeOf97⟩ (vs:=av .u8 (bH 256 32 b.1)) rfl (acg _ _ _)) (iA.av underlying97 sizeOf5 isAgg5 underlying5 (jo _) (jo _))
  (GY.cons aK (xY ⟨isAgg97,sizeOf97⟩ (vs:=av .u8 (bH 256 32 a.2)) rfl (aao _ _ _)) (xY ⟨isAgg97,sizeOf97⟩ (vs:=av .u8 (bH 256 32 b.2)) rfl (aao _ _ _)) (iA.av underlying97 sizeOf5 isAgg5 underlying5 (jo _) (jo _)) GY.nil))
theorem aeh(p q:Nat×Nat):(Ra p q).1<fP∧(Ra p q).2<fP:=by
 unfold Ra;cases uT p&&uT q
 ·exact⟨(by show 0<fP;decide),(by show 0<fP;decide)⟩
 ·exact RG _
theorem VK{x y:Nat}(hx:x<fP)(hy:y<fP):decide (bH 256 32 x=bH 256 32 y)=beq x y:=by
 rw[Bool.eq_iff_iff,decide_eq_true_eq,beq_eq];constructor
 ·intro h;have h1:=xD (AJ hx);have h2:=xD (AJ hy);rw[←h1,h,h2]
 ·intro h;rw[h]
section
variable{K:World}{F:List aA}
theorem Xv{pub m cap cap2:Nat}{A B:Option Addr}{msg sg:List Nat}(ahl:pub<115792089237316195423570985008687907853269984665640564039457584007913129639936)(hs:Seq K F A m 1 (av .u8 msg))(h8:aB 256 msg)(hm:m≤10000000)(hsg:Seq K F B 64 1 (av .u8 sg))(ai9:aB 256 sg)(bB:64≤cap2) :
 aL prog 84 #[p9 pub,.slice A m cap,.slice B 64 cap2] K F (.i ((Ur pub msg (vl 256 (sg.take 32)) (vl 256 (sg.drop 32)):Nat):Int)):=by
 have GH:msg.length=m:=by have :=hs.len;rwa [au,Nat.mul_one] at this
 have rQ:sg.length=64:=by have :=hsg.len;rwa [au,Nat.mul_one] at this
 obtain⟨r,hr⟩:∃r,r=vl 256 (sg.take 32):=⟨_,rfl⟩;obtain⟨s,Pg⟩:∃s,s=vl 256 (sg.drop 32):=⟨_,rfl⟩;rw[←hr,←Pg];have ht1:(sg.take 32).length=32:=by rw[length_take];omega
 have ht2:(sg.drop 32).length=32:=by rw[length_drop];omega
 have yR:aB 256 (sg.take 32):=fun y hy=>ai9 y (mem_of_mem_take hy);have rJ:aB 256 (sg.drop 32):=fun y hy=>ai9 y (mem_of_mem_drop hy);have nW:r<115792089237316195423570985008687907853269984665640564039457584007913129639936:=by have :=nT yR;rw[ht1,←hr] at this;exact this
 have adp:s<115792089237316195423570985008687907853269984665640564039457584007913129639936:=by have :=nT rJ;rw[ht2,←Pg] at this;exact this
 have lJ:bH 256 32 r=sg.take 32:=by rw[hr,nJ yR ht1]
 have O1:bH 256 32 s=sg.drop 32:=by rw[Pg,nJ rJ ht2]
 have hq1:Seq K F B 32 1 (av .u8 (bH 256 32 r)):=by rw[lJ,←dR];exact hsg.take aK
 have Hq:Seq K F (if cap2=32 then B else B.map (·.add (32*1))) 32 1 (av .u8 (bH 256 32 s)):=by
  have h0:=Seq.rV (l:=32) (h:=64) (u:=cap2) hsg aK aK bB;rw[take_of_length_le ay] at h0;rw[O1];exact h0
 obtain⟨B2,hB2⟩:∃B2,B2=(if cap2=32 then B else B.map (·.add (32*1))):=⟨_,rfl⟩;rw[←hB2] at Hq;refine aC.en func84 ntmps84 ?_;refine aj "a9" fun b3=> ?_;refine aj "fo" ?_;refine WL.val (V.XY (j:=64) (ak rfl) (ak rfl)) rfl ?_;refine aj "k" (aX (fun aN=> ?_) fun aN=> ?_)
 ·have h0:=aN;refine aj "I" ?_;exact absurd h0 (by simp)
 ·have h0:=aN;refine aP ")~AF0" ?_;refine UA.val 1 rfl (fun _=>V.aI (v':= .slice B 32 cap2) (V.slice (m:=64) (cap:=cap2) (l:=0) (h:=32) (u:=cap2) eu (ak rfl) OO.none (OO.some (ak rfl) (fun _=>rfl)) OO.none (by simp) ay ay ay) (fun _=>by rw[zQ,Nat.sub_zero,Nat.sub_zero])) ?_;refine UA.val 2 rfl (fun _=>V.Z8 runUnderlying97 (ak rfl) (fun _=>by decide)) ?_;refine UA.val 3 rfl (fun _=>V.V5 (l:=bH 256 32 r) ⟨isAgg97,sizeOf97⟩ (ak rfl) (fun _=>hq1.up)) ?_;refine aP "F4" ?_;refine UA.val 5 rfl (fun _=>V.aI (v':= .slice B2 32 (cap2-32)) (V.slice (m:=64) (cap:=cap2) (l:=32) (h:=64) (u:=cap2) eu (ak rfl) (OO.some (ak rfl) (fun _=>rfl)) OO.none OO.none (by simp) ay ay ay) (fun _=>by rw[hB2])) ?_;refine UA.val 6 rfl (fun _=>V.Z8 runUnderlying97 (ak rfl) (fun _=>by decide)) ?_;refine UA.val 7 rfl (fun _=>V.V5 (l:=bH 256 32 s) ⟨isAgg97,sizeOf97⟩ (ak rfl) (fun _=>Hq.up)) ?_;refine UA.alloc 8 rfl zeroValue97 (cs:=av .u8 (replicate 32 0)) rfl ?_;refine UA.alloc 9 rfl zeroValue97 (cs:=av .u8 (replicate 32 0)) rfl ?_;refine UA.fU 10 1 rfl rfl sizeOf97 (fun _ _=>ak rfl) (fun _ _=>ak rfl) ?_;refine UA.fU 11 0 rfl rfl sizeOf97 (fun _ _=>ak rfl) (fun _ _=>ak rfl) ?_;refine aP "_" fun CJ=> ?_;simp only[map_cons,map_nil,cons_append,nil_append];refine aP "ay" ?_;refine WL.t1 call143 rfl (u6 ahl) rfl ?_;refine aP "!w" fun b9=> ?_;refine aP "vxy" ?_;refine WL.t1 call143 rfl (u6 nW) rfl ?_;refine aP "!w" fun b11=> ?_;refine aP "vf~`cY" ?_;refine WL.bG (oj:=_) rfl rfl rfl GC.f (V.XY (j:=0) (OV.g rfl id) (ak rfl)) rfl ?_;refine aj "Jk" (aX (fun aR=> ?_) fun aR=> ?_)
  ·have h1:=aR;have KU:¬((fq pub).isSome∧(fq r).isSome):=by
    revert h1;cases (fq pub).isSome<;>cases (fq r).isSome<;>simp
   refine aj "I" ?_;exact qR F rfl rfl gy ⟨by rw[Ur,if_neg KU];rfl,rfl⟩
  ·have h1:=aR;have KU:(fq pub).isSome∧(fq r).isSome:=by
    revert h1;cases (fq pub).isSome<;>cases (fq r).isSome<;>simp
   obtain⟨p,hp⟩:=Option.isSome_iff_exists.1 KU.1;obtain⟨q,hq⟩:=Option.isSome_iff_exists.1 KU.2;have nu:=Jw hp;have Hf:=Jw hq;obtain⟨k,hk⟩:∃k,k=JJ (bH 256 32 r++bH 256 32 pub++msg):=⟨_,rfl⟩;have wR:k<115792089237316195423570985008687907853269984665640564039457584007913129639936:=by rw[hk];exact aaP _
   obtain⟨a,ha⟩:∃a,a=og s 32 cB:=⟨_,rfl⟩;obtain⟨b,hb⟩:∃b,b=Ra q (og k 32 p):=⟨_,rfl⟩;have hv:lu pub msg r s=(blt s cL&&(beq a.1 b.1&&beq a.2 b.2)):=by unfold lu;rw[hp,hq,ha,hb,hk]
   rw[show Ur pub msg r s=if lu pub msg r s then 0 else 191 by rw[Ur,if_pos KU],hv];rw[show (fq pub).getD (0,0)=p by rw[hp];rfl,show (fq r).getD (0,0)=q by rw[hq];rfl];refine aP ")ay" ?_;refine WL.t1 call144 rfl (Xo adp) rfl ?_;refine aj "*k" (aX (fun bB=> ?_) fun bB=> ?_)
   ·simp only[oD] at bB;have h2:=bB;have O9:blt s cL=false:=Bool.eq_false_iff.2 fun h=>h2 (le_of_ble_eq_true h);rw[O9];exact aj "I$" trivial
   ·simp only[oD] at bB;have h2:=bB;have O9:blt s cL=true:=ble_eq_true_of_le h2;rw[O9];refine WC.skip ?_;refine WC.join (σ:=Nat) (fun b13=>[(3,ptr b3 0),(6,.i 0),(8,ptr (CJ 9) 0),(9,ptr b9 0),(11,ptr b11 0),(13,ptr b13 0)]) (fun b13=>ah b13 97 (av .u8 (bH 256 32 k))::ah b11 219 (av .u8 (WM q))::ah b9 219 (av .u8 (WM p))::ah (CJ 9) 97 (av .u8 (bH 256 32 s))::F) (fun _=>True) ?_ ?_
    ·skip
     refine aj "~T" ?_;refine WA.t 0 rfl (V.kY zT (ak rfl)) ?_;refine WA.t 1 rfl (V.kY zT (ak rfl)) ?_;refine aj "l2" ?_;refine WA.two (i:=3) (j:=5) cu (by kernel_rfl) rfl rfl ?_ ?_
     ·refine WL.buildSlice (E:=34) (cs:=[_,_,_]) (vs:=[(0,_),(1,_),(2,_)]) ⟨ak rfl,ak rfl,ak rfl,trivial⟩ rfl (z8 _ _ _ _ _ _ _ _ _) rfl (fun b51=> ?_);refine WL.nil ?_;refine WA.two (i:=4) (j:=5) gy (by kernel_rfl) rfl rfl ?_ ?_
      ·refine WL.c1 call145 rfl ((NJ (ps:=[⟨some ⟨CJ 8,0,none⟩,32,32,bH 256 32 r⟩,⟨some ⟨b3,0,none⟩,32,32,bH 256 32 pub⟩,⟨A,m,cap,msg⟩]) (by repeat (first | exact Seq.all rfl | apply Seq.up)) (fun p hp=>by
        simp only[mem_cons,not_mem_nil,or_false] at hp;rcases hp with rfl | rfl | rfl
        ·repeat (first | exact Seq.qc (jo _) | apply Seq.up)
        ·repeat (first | exact Seq.qc (jo _) | apply Seq.up)
        ·repeat (first | exact hs | apply Seq.up)) (by
        intro x hx;simp only[flatMap_cons,flatMap_nil,append_nil,mem_append] at hx;rcases hx with h | h | h
        ·exact bJ aK _ _ x h
        ·exact bJ aK _ _ x h
        ·exact h8 x h) (by simp only[flatMap_cons,flatMap_nil,append_nil,length_append,aH];omega) aK).eq (v':=p9 k) (by rw[hk];simp)) rfl ?_
       rintro _ H0 ⟨rfl,h0⟩;subst H0;refine aP "bn5w" fun b13=> ?_;refine aP "bn6vbM~O" ?_;first
        | exact⟨b13,trivial,.cons rfl (.cons rfl (.cons rfl (.cons rfl (.cons rfl (.cons rfl (.nil _)))))),fun w h=>h.aY 7 [0,2,3,4] rfl⟩
        | exact⟨b13,trivial,.cons rfl (.cons rfl (.cons rfl (.cons rfl (.cons rfl (.cons rfl (.nil _)))))),fun w h=>h.aY 7 [1,2,3,4] rfl⟩
      ·refine aP "w" fun b13=> ?_;refine aj "bn4" ?_;refine WL.c1 call145 rfl ((NJ (ps:=[⟨some ⟨CJ 8,0,none⟩,32,32,bH 256 32 r⟩,⟨some ⟨b3,0,none⟩,32,32,bH 256 32 pub⟩,⟨A,m,cap,msg⟩]) (by repeat (first | exact Seq.all rfl | apply Seq.up)) (fun p hp=>by
        simp only[mem_cons,not_mem_nil,or_false] at hp;rcases hp with rfl | rfl | rfl
        ·repeat (first | exact Seq.qc (jo _) | apply Seq.up)
        ·repeat (first | exact Seq.qc (jo _) | apply Seq.up)
        ·repeat (first | exact hs | apply Seq.up)) (by
        intro x hx;simp only[flatMap_cons,flatMap_nil,append_nil,mem_append] at hx;rcases hx with h | h | h
        ·exact bJ aK _ _ x h
        ·exact bJ aK _ _ x h
        ·exact h8 x h) (by simp only[flatMap_cons,flatMap_nil,append_nil,length_append,aH];omega) aK).eq (v':=p9 k) (by rw[hk];simp)) rfl ?_
       rintro _ H0 ⟨rfl,h0⟩;subst H0;refine aP "bn6vbM~O" ?_;first
        | exact⟨b13,trivial,.cons rfl (.cons rfl (.cons rfl (.cons rfl (.cons rfl (.cons rfl (.nil _)))))),fun w h=>h.aY 7 [0,2,3,4] rfl⟩
        | exact⟨b13,trivial,.cons rfl (.cons rfl (.cons rfl (.cons rfl (.cons rfl (.cons rfl (.nil _)))))),fun w h=>h.aY 7 [1,2,3,4] rfl⟩
     ·refine aP "w" fun b13=> ?_;refine aj "bn3" ?_;refine WL.buildSlice (E:=34) (cs:=[_,_,_]) (vs:=[(0,_),(1,_),(2,_)]) ⟨ak rfl,ak rfl,ak rfl,trivial⟩ rfl (z8 _ _ _ _ _ _ _ _ _) rfl (fun b51=> ?_);refine aj "bn4" ?_;refine WL.c1 call145 rfl ((NJ (ps:=[⟨some ⟨CJ 8,0,none⟩,32,32,bH 256 32 r⟩,⟨some ⟨b3,0,none⟩,32,32,bH 256 32 pub⟩,⟨A,m,cap,msg⟩]) (by repeat (first | exact Seq.all rfl | apply Seq.up)) (fun p hp=>by
       simp only[mem_cons,not_mem_nil,or_false] at hp;rcases hp with rfl | rfl | rfl
       ·repeat (first | exact Seq.qc (jo _) | apply Seq.up)
       ·repeat (first | exact Seq.qc (jo _) | apply Seq.up)
       ·repeat (first | exact hs | apply Seq.up)) (by
       intro x hx;simp only[flatMap_cons,flatMap_nil,append_nil,mem_append] at hx;rcases hx with h | h | h
       ·exact bJ aK _ _ x h
       ·exact bJ aK _ _ x h
       ·exact h8 x h) (by simp only[flatMap_cons,flatMap_nil,append_nil,length_append,aH];omega) aK).eq (v':=p9 k) (by rw[hk];simp)) rfl ?_
      rintro _ H0 ⟨rfl,h0⟩;subst H0;refine aP "bn6vbM~O" ?_;first
       | exact⟨b13,trivial,.cons rfl (.cons rfl (.cons rfl (.cons rfl (.cons rfl (.cons rfl (.nil _)))))),fun w h=>h.aY 7 [0,2,3,4] rfl⟩
       | exact⟨b13,trivial,.cons rfl (.cons rfl (.cons rfl (.cons rfl (.cons rfl (.cons rfl (.nil _)))))),fun w h=>h.aY 7 [1,2,3,4] rfl⟩
    ·skip
     rintro b13 -
     refine aP "N~A" ?_;refine UA.val 0 rfl (fun _=>V.kY zT (ak rfl)) ?_;refine UA.call (vs:=[]) 1 rfl call147 (fun _=>trivial) (fun H' hF=>Un) ?_;refine UA.call (vs:=[_,_]) 2 rfl call146 (fun _=>⟨ak rfl,ak rfl,trivial⟩) (fun H' hF=>(FK ((Seq.qc (jo _)).up.up.up.sat hF) (bJ aK _ _) aK (p:=cB) ⟨by decide,by decide⟩).eq (v':= .tuple #[pt a,.i ((if uT cB then 0 else 170:Nat):Int)]) (by rw[xD adp,ha])) ?_;refine aP "F3~W4~W5" ?_;refine UA.alloc 6 rfl zeroValue219 (cs:=av .u8 (replicate 64 0)) rfl ?_;refine aP "~~+`8_" fun bs2=> ?_;simp only[map_cons,map_nil,cons_append,nil_append];refine aP "N~A" ?_;refine UA.val 0 rfl (fun _=>V.kY zT (ak rfl)) ?_;refine aP "~c1" ?_;refine UA.call (vs:=[_,_]) 2 rfl call146 (fun _=>⟨ak rfl,ak rfl,trivial⟩) (fun H' hF=>(FK ((Seq.qc (jo _)).up.sat hF) (bJ aK _ _) aK (p:=p) (UF nu)).eq (v':= .tuple #[pt (og k 32 p),.i ((if uT p then 0 else 170:Nat):Int)]) (by rw[xD wR])) ?_;refine aP "F3~W4~W5" ?_;refine UA.alloc 6 rfl zeroValue219 (cs:=av .u8 (replicate 64 0)) rfl ?_;refine aP "~~+`8_" fun bs3=> ?_;simp only[map_cons,map_nil,cons_append,nil_append];refine aP "ayy" ?_;refine WL.t2 call148 rfl rfl ((YG (UF Hf) (UF (Md _ _ _))).eq (v':= .tuple #[pt b,.i ((if uT q&&uT (og k 32 p) then 0 else 170:Nat):Int)]) (by rw[hb])) rfl ?_;refine aP "!vBayy" ?_;refine WL.val (V.TR (by kernel_rfl) (ak rfl) (ak rfl) (akH a b)) rfl ?_;have hal:a.1<fP∧a.2<fP:=by rw[ha];exact Md _ _ _
     have BQ:b.1<fP∧b.2<fP:=by rw[hb];exact aeh _ _
     rw[VK hal.1 BQ.1,VK hal.2 BQ.2];refine aj "k" (aX (fun eF=> ?_) fun eF=> ?_)
     ·have h3:=eF;have Vq:(beq a.1 b.1&&beq a.2 b.2)=false:=by
       revert h3;cases beq a.1 b.1<;>cases beq a.2 b.2<;>simp
      refine aj "I" ?_;exact qR F rfl rfl gy ⟨by rw[Vq];rfl,rfl⟩
     ·have h3:=eF;have Vq:(beq a.1 b.1&&beq a.2 b.2)=true:=by
       revert h3;cases beq a.1 b.1<;>cases beq a.2 b.2<;>simp
      refine aj "iI" ?_;exact qR F rfl rfl gy ⟨by rw[Vq];rfl,rfl⟩
end
theorem YT:∀n:Nat,n<32→1≤n→(18446744073709551616-n) &&& 31=32-n:=by decide
theorem CY(i:Nat):2^(i+1)/2=2^i:=by omega
theorem ac4{n i:Nat}(h:n%2^(i+1)=0):n ||| 2^i=n+2^i:=by
 have h1:=div_add_mod n (2^(i+1));rw[h,Nat.add_zero,Nat.mul_comm] at h1;rw[←h1,vT (Nat.pow_lt_pow_right aK ay)]
theorem WB{n i:Nat}(h:n%2^(i+1)=0):n%2^i=0:=by simp_all [Nat.pow_succ,mod_mul]
theorem aa0{X u v L:Nat}(hX:X=18446744073709551616*u+v)(hu:u<18446744073709551616):((u/18446744073709551616+(u%18446744073709551616+v/18446744073709551616+0)/18446744073709551616)%18446744073709551616=0∧((u%18446744073709551616+v/18446744073709551616+0)%18446744073709551616<L∨((u%18446744073709551616+v/18446744073709551616+0)%18446744073709551616=L∧v%18446744073709551616=0))∧v<18446744073709551616*18446744073709551616∧L<18446744073709551616)↔(X≤L*18446744073709551616∧v<18446744073709551616*18446744073709551616∧L<18446744073709551616):=by omega
section
variable{K:World}{F:List aA}
theorem UL{x n:Nat}(hx:x<4294967296)(h1:1≤n)(h63:n<32):aL prog 334 #[.int .u32 ((x:Nat):Int),.i (-((n:Nat):Int))] K F (.int .u32 ((qw x n:Nat):Int)):=by
 refine aC.en func334 ntmps334 ?_;refine aj "aj" ?_;refine WL.val (V.aI (v':= .int .u64 ((18446744073709551616-n:Nat):Int)) (V.FX runUnderlying3 runUnderlying232 (ak rfl)) (fun _=>by congr 1;show ((-(n:Int))%18446744073709551616)=_;omega)) rfl ?_;refine WL.val (V.C9 (j:=31) 64 (ak rfl) (ak rfl) (fun _=>⟨by show 18446744073709551616-n<18446744073709551616;omega,by decide⟩)) rfl ?_;rw[YT n h63 h1];refine aj "0" ?_;refine WL.val (V.Jk (M:=4294967296) (ak rfl) (ak rfl)) rfl (aj "z" ?_);refine WL.val (V.ajh (i:=32) (M:=18446744073709551616) (ak rfl) (ak rfl)) rfl (aP "~0" ?_);rw[show 32-(32-n)=n by omega];refine WL.val (V.ZG (i:=x*2^(32-n)%4294967296) (j:=x/2^n) 32 (ak rfl) (ak rfl) (fun _=>⟨mod_lt _ aK,Nat.lt_of_le_of_lt (div_le_self _ _) hx⟩)) rfl ?_;exact aj "d$" trivial
theorem gY{x n:Nat}(hx:x<4294967296)(h1:1≤n)(h63:n<32):aL prog 313 #[.int .u32 ((x:Nat):Int),.i ((n:Nat):Int)] K F (.int .u32 ((qw x n:Nat):Int)):=by
 refine aC.en func313 ntmps313 ?_;refine aj "a0~~&" ?_;refine WL.t2 call334 rfl rfl (UL hx h1 h63) rfl ?_;exact aj "d$" trivial
theorem Ku{p:Nat}(hp:p<1000):aL prog 333 #[.i ((p:Nat):Int)] K F (.int .u32 ((fM p 2 64 37 0%4294967296:Nat):Int)):=by
 obtain⟨R,hR⟩:∃R,R=fM p 2 64 37 0:=⟨_,rfl⟩;rw[←hR];refine aC.en func333 ntmps333 ?_;refine aj "axtagu" ?_;refine WC.loop (σ:=Nat×Nat) (fun s=>[(0,.i ((p:Nat):Int)),(3,.int .u64 ((s.2:Nat):Int)),(4,.int .u64 ((2^s.1/2:Nat):Int))]) (fun _=>F)
  (fun s=>s.1≤37∧s.2%2^s.1=0∧s.2+2^s.1≤2^37∧fM p 2 64 s.1 s.2=R) (fun s=>s.1) (37,0) ⟨Nat.le_refl _,zero_mod _,by show 0+2^37≤2^37;omega,hR.symm⟩ bM cu ?_
 rintro⟨k,n⟩ ⟨hk,h0,hl,hq⟩;dsimp only at hk h0 hl hq ⊢;refine aP "r~<k" (aX (fun aN=> ?_) fun aN=> ?_)
 ·simp only[dh] at aN;obtain⟨i,rfl⟩:∃q,k=q+1:=⟨k-1,by rcases eq_zero_or_pos k with h | h; (subst h;exact absurd aN aK);omega⟩;rw[CY];rw[fM] at hq;rw[Nat.pow_succ] at hl;have hpi:0<2^i:=Nat.pow_pos aK;refine aj "1c" ?_;refine WL.val (V.ZG (i:=n) (j:=2^i) 64 (ak rfl) (ak rfl) (fun _=>⟨by omega,by omega⟩)) rfl ?_;rw[ac4 h0];obtain⟨x,hx⟩:∃x,x=n+2^i:=⟨_,rfl⟩;rw[←hx] at hq ⊢;have zO:x<18446744073709551616:=ay;have hxx:x^2=x*x:=Nat.pow_two x;rw[hxx] at hq;have GD:=WB h0;refine aj "0" ?_;refine WL.t2 call293 rfl rfl (kN zO zO) rfl ?_;refine aj "C0" ?_;refine WL.val (V.rG (i:=p) runUnderlying3 runUnderlying306 (ak rfl) (fun _=>kV (M:=18446744073709551616) rfl rfl ay)) rfl ?_;refine aP "~fcYY" ?_;refine WL.bG (oj:=_) rfl rfl rfl GC.f (V.rG (i:=p) runUnderlying3 runUnderlying306 (OV.g rfl id) (fun _=>kV (M:=18446744073709551616) rfl rfl ay)) rfl ?_;refine WL.bG (oj:=_) rfl rfl rfl GC.f (V.I5 (OV.g rfl id) (OV.g rfl id)) rfl (aj "~~j~~z" ?_);refine WL.bG (oj:=_) rfl rfl rfl GC.ct (V.I5 (j:=0) (OV.g rfl id) (ak rfl)) rfl ?_;refine aj "~~kJk" (aX (fun aR=> ?_) fun aR=> ?_)
  ·simp only[Bool.or_eq_true,Bool.or_eq_false_iff,He] at aR;have h1:=aR;rw[show ble (x*x) (p*2^64)=true from ble_eq_true_of_le ay,cond_true] at hq;refine aP "hgh~~A4" ?_;first
    | exact⟨(i,x),⟨by show i≤37;omega,by show x%2^i=0;rw[hx,add_mod_right];exact GD,by show x+2^i≤2^37;omega,hq⟩,(by show i<i+1;omega),.cons rfl (.cons rfl (.cons rfl (.nil _))),fun w h=>h⟩
    | exact⟨(i,n),⟨by show i≤37;omega,GD,by show n+2^i≤2^37;omega,hq⟩,(by show i<i+1;omega),.cons rfl (.cons rfl (.cons rfl (.nil _))),fun w h=>h⟩
  ·simp only[Bool.or_eq_true,Bool.or_eq_false_iff,He] at aR;have h1:=aR;rw[show ble (x*x) (p*2^64)=false from Bool.eq_false_iff.2 fun h=>by have :=le_of_ble_eq_true h;omega,cond_false] at hq;refine aP "ih~~A4" ?_;first
    | exact⟨(i,x),⟨by show i≤37;omega,by show x%2^i=0;rw[hx,add_mod_right];exact GD,by show x+2^i≤2^37;omega,hq⟩,(by show i<i+1;omega),.cons rfl (.cons rfl (.cons rfl (.nil _))),fun w h=>h⟩
    | exact⟨(i,n),⟨by show i≤37;omega,GD,by show n+2^i≤2^37;omega,hq⟩,(by show i<i+1;omega),.cons rfl (.cons rfl (.cons rfl (.nil _))),fun w h=>h⟩
 ·simp only[dh] at aN;have hk0:k=0:=by
   rcases eq_zero_or_pos k with h | h
   ·exact h
   ·obtain⟨i,rfl⟩:∃q,k=q+1:=⟨k-1,by omega⟩;have hpi:0<2^i:=Nat.pow_pos aK;rw[CY] at aN;omega
  refine aj "W" ?_;subst hk0;rw[fM] at hq;refine aP "h~~~jd" ?_;exact qR F rfl rfl gy ⟨by rw[hq],rfl⟩
theorem Qa{p:Nat}(hp:p<1000):aL prog 332 #[.i ((p:Nat):Int)] K F (.int .u32 ((fM p 3 96 36 0%4294967296:Nat):Int)):=by
 obtain⟨R,hR⟩:∃R,R=fM p 3 96 36 0:=⟨_,rfl⟩;rw[←hR];refine aC.en func332 ntmps332 ?_;refine aj "axtagu" ?_;refine WC.loop (σ:=Nat×Nat) (fun s=>[(0,.i ((p:Nat):Int)),(3,.int .u64 ((s.2:Nat):Int)),(4,.int .u64 ((2^s.1/2:Nat):Int))]) (fun _=>F)
  (fun s=>s.1≤36∧s.2%2^s.1=0∧s.2+2^s.1≤2^36∧fM p 3 96 s.1 s.2=R) (fun s=>s.1) (36,0) ⟨Nat.le_refl _,zero_mod _,by show 0+2^36≤2^36;omega,hR.symm⟩ bM cu ?_
 rintro⟨k,n⟩ ⟨hk,h0,hl,hq⟩;dsimp only at hk h0 hl hq ⊢;refine aP "r~<k" (aX (fun aN=> ?_) fun aN=> ?_)
 ·simp only[dh] at aN;obtain⟨i,rfl⟩:∃q,k=q+1:=⟨k-1,by rcases eq_zero_or_pos k with h | h; (subst h;exact absurd aN aK);omega⟩;rw[CY];rw[fM] at hq;rw[Nat.pow_succ] at hl;have hpi:0<2^i:=Nat.pow_pos aK;refine aj "1c" ?_;refine WL.val (V.ZG (i:=n) (j:=2^i) 64 (ak rfl) (ak rfl) (fun _=>⟨by omega,by omega⟩)) rfl ?_;rw[ac4 h0];obtain⟨x,hx⟩:∃x,x=n+2^i:=⟨_,rfl⟩;rw[←hx] at hq ⊢;have zO:x<18446744073709551616:=ay;have hxx:x^3=x*x*x:=by rw[Nat.pow_succ,Nat.pow_two]
  rw[hxx] at hq;have GD:=WB h0;have dP:x≤2^36:=ay;have aqN:x*x≤2^36*2^36:=Nat.mul_le_mul dP dP;obtain⟨hi,hhi⟩:∃hi,hi=x*x/18446744073709551616:=⟨_,rfl⟩;obtain⟨lo,aok⟩:∃lo,lo=x*x%18446744073709551616:=⟨_,rfl⟩;have amF:hi<1000:=ay;have akS:lo<18446744073709551616:=ay;have hX:x*x*x=18446744073709551616*(hi*x)+lo*x:=by
   rw[show x*x=18446744073709551616*hi+lo by omega,Nat.add_mul,Nat.mul_assoc]
  have hu:hi*x<18446744073709551616:=Nat.lt_of_le_of_lt (Nat.mul_le_mul (Nat.le_of_lt amF) dP) aK;have hv:lo*x<18446744073709551616*18446744073709551616:=mul_lt_mul'' akS zO;have afq:=aa0 (L:=p*2^32%18446744073709551616) hX hu;refine aj "0" ?_;refine WL.t2 call293 rfl rfl ((kN zO zO).eq (v':= .tuple #[.int .u64 ((hi:Nat):Int),.int .u64 ((lo:Nat):Int)]) (by rw[hhi,aok])) rfl ?_;refine aj "C0" ?_;refine WL.t2 call293 rfl rfl (kN (show hi<18446744073709551616 by omega) zO) rfl ?_;refine aj "C0" ?_;refine WL.t2 call293 rfl rfl (kN akS zO) rfl ?_;refine aP "C0~$C0~Nj" ?_;refine WL.val (V.rG (i:=p) runUnderlying3 runUnderlying306 (ak rfl) (fun _=>kV (M:=18446744073709551616) rfl rfl ay)) rfl ?_;refine WL.val (V.Jk (j:=32) (M:=18446744073709551616) (ak rfl) (ak rfl)) rfl (aP "j~~3c88" ?_);refine WL.bG (oj:=_) rfl rfl rfl GC.t (V.zP (OV.g rfl id) (OV.g rfl id)) rfl (aj "~~.~)~)" ?_);refine WL.bG (oj:=_) rfl rfl rfl GC.cf (V.I5 (OV.g rfl id) (OV.g rfl id)) rfl (WL.bG (oj:=_) rfl rfl rfl GC.cf (V.move (OV.g rfl id)) rfl (aj "~~z" ?_));refine WL.bG (oj:=_) rfl rfl rfl GC.ct (V.I5 (j:=0) (OV.g rfl id) (ak rfl)) rfl (WL.bG (oj:=_) rfl rfl rfl GC.cf (V.Ct (OV.g rfl id) (OV.g rfl id)) rfl ?_);refine aj "~~:Vk" (aX (fun aR=> ?_) fun aR=> ?_)
  ·simp only[Bool.or_eq_true,Bool.or_eq_false_iff,He] at aR;have h1:=aR;have hL:p*2^32%18446744073709551616<18446744073709551616:=mod_lt _ aK;have hLe:p*2^32%18446744073709551616*18446744073709551616=p*2^96:=by rw[mod_eq_of_lt ay];omega
   rw[hLe] at afq;rw[show ble (x*x*x) (p*2^96)=true from ble_eq_true_of_le (afq.1 ⟨h1.1,h1.2,hv,hL⟩).1,cond_true] at hq;refine aP "hgh~~A4" ?_;first
    | exact⟨(i,x),⟨by show i≤36;omega,by show x%2^i=0;rw[hx,add_mod_right];exact GD,by show x+2^i≤2^36;omega,hq⟩,(by show i<i+1;omega),.cons rfl (.cons rfl (.cons rfl (.nil _))),fun w h=>h⟩
    | exact⟨(i,n),⟨by show i≤36;omega,GD,by show n+2^i≤2^36;omega,hq⟩,(by show i<i+1;omega),.cons rfl (.cons rfl (.cons rfl (.nil _))),fun w h=>h⟩
  ·simp only[Bool.or_eq_true,Bool.or_eq_false_iff,He] at aR;have h1:=aR;have hL:p*2^32%18446744073709551616<18446744073709551616:=mod_lt _ aK;have hLe:p*2^32%18446744073709551616*18446744073709551616=p*2^96:=by rw[mod_eq_of_lt ay];omega
   rw[hLe] at afq;rw[show ble (x*x*x) (p*2^96)=false from Bool.eq_false_iff.2 fun h=>by have h5:=afq.2 ⟨le_of_ble_eq_true h,hv,hL⟩;omega,cond_false] at hq;refine aP "ih~~A4" ?_;first
    | exact⟨(i,x),⟨by show i≤36;omega,by show x%2^i=0;rw[hx,add_mod_right];exact GD,by show x+2^i≤2^36;omega,hq⟩,(by show i<i+1;omega),.cons rfl (.cons rfl (.cons rfl (.nil _))),fun w h=>h⟩
    | exact⟨(i,n),⟨by show i≤36;omega,GD,by show n+2^i≤2^36;omega,hq⟩,(by show i<i+1;omega),.cons rfl (.cons rfl (.cons rfl (.nil _))),fun w h=>h⟩
 ·simp only[dh] at aN;have hk0:k=0:=by
   rcases eq_zero_or_pos k with h | h
   ·exact h
   ·obtain⟨i,rfl⟩:∃q,k=q+1:=⟨k-1,by omega⟩;have hpi:0<2^i:=Nat.pow_pos aK;rw[CY] at aN;omega
  refine aj "W" ?_;subst hk0;rw[fM] at hq;refine aP "h~~~jd" ?_;exact qR F rfl rfl gy ⟨by rw[hq],rfl⟩
end
section
variable{K:World}{F:List aA}
theorem N7:aL prog 311 #[] K F (.agg (av .u32 u7).toArray):=by
 have hk:∀i,i<8→fM ((fD.take 8).getD i 0) 2 64 37 0%4294967296=u7.getD i 0:=fun i hi=>Dq (f:=fun p=>fM p 2 64 37 0%4294967296) aeQ (by rw[length_take];exact hi);have Hl:u7.length=8:=by decide
 obtain⟨ks,rR⟩:∃ks,ks=u7:=⟨_,rfl⟩;obtain⟨ps,rP⟩:∃ps,ps=fD.take 8:=⟨_,rfl⟩;have nu:∀i,ps.getD i 0<1000:=by rw[rP];exact fun i=>zf i 8
 have Xf:ps.length=8:=by rw[rP];decide
 rw[←rP,←rR] at hk;rw[←rR] at Hl ⊢;refine aC.en func311 ntmps311 ?_;refine aP "aw" fun b0=> ?_;refine aP "Tw" fun b1=> ?_;refine aj "T" ?_;refine WL.c1 call275 rfl (oG (n:=8) aK) rfl ?_;rintro _ _ ⟨A,cap,rfl,rfl⟩;refine aj "CfoP" ?_;rw[←rP];refine WC.loop (σ:=Nat×List Nat) (fun s=>[(0,ptr b0 0),(1,ptr b1 0),(10,.slice A 8 cap),(11,.i ((8:Nat):Int)),(12,.i ((s.1:Nat):Int))]) (fun s=>bq (.slice A 8 cap) 3 1 8 (av .i64 ps)::ah b1 349 (av .u32 s.2)::ah b0 349 (av .u32 (replicate 8 0))::F)
  (fun s=>s.1≤8∧s.2=ks.take s.1++replicate (8-s.1) 0) (fun s=>8-s.1) (0,replicate 8 0) ⟨zero_le _,rfl⟩ bM cu ?_
 rintro⟨i,ws⟩ ⟨hi,hw⟩;dsimp only at hi hw ⊢;have OY:ws.length=8:=by rw[hw,length_append,length_take,length_replicate];omega
 refine aP "a~fBE" (aX (fun aN=> ?_) fun aN=> ?_)
 ·simp only[dh] at aN;have hr:Rd K (bq (.slice A 8 cap) 3 1 8 (av .i64 ps)::ah b1 349 (av .u32 ws)::ah b0 349 (av .u32 (replicate 8 0))::F) _ _:=Seq.rF (bq.seq (by rw[au,Xf])) (show i<8 by omega);refine aj "1" ?_;refine WL.val (V.kI (v:= .i ((ps.getD i 0:Nat):Int)) fZ (ak rfl) (ak rfl) (hr:=fun _=>hr)) rfl ?_;refine WL.val (V.dY (v:= .i ((ps.getD i 0:Nat):Int)) isAgg3 (ak rfl) (fun _=>hr)) rfl ?_;refine aj "mgQ" ?_;refine WL.t1 call333 rfl ((Ku (nu i)).eq (v':= .int .u32 ((ks.getD i 0:Nat):Int)) (by rw[hk i ay])) rfl ?_;refine aP "~x~sbq<;" ?_;exact⟨(i+1,_),⟨by show i+1≤8;omega,by dsimp only;rw[hw];exact qL Hl ay⟩,(by show 8-(i+1)<8-i;omega),.cons rfl bM,fun w h=>h⟩
 ·simp only[dh] at aN;refine aj "W" ?_;obtain rfl:i=8:=by omega
  rw[Nat.sub_self,replicate_zero,append_nil,take_of_length_le ay] at hw;rw[hw];refine aP "qyv3" ?_;exact aG.ret (H':=F) (bI.one rfl (R1.cO (l:=ks) rfl ⟨isAgg349,sizeOf349⟩)) gy ⟨rfl,rfl⟩
theorem KT:aL prog 310 #[] K F (.agg (av .u32 rT).toArray):=by
 have hk:∀i,i<64→fM ((fD.take 64).getD i 0) 3 96 36 0%4294967296=rT.getD i 0:=fun i hi=>Dq (f:=fun p=>fM p 3 96 36 0%4294967296) aep (by rw[length_take];exact hi);have Hl:rT.length=64:=by decide
 obtain⟨ks,rR⟩:∃ks,ks=rT:=⟨_,rfl⟩;obtain⟨ps,rP⟩:∃ps,ps=fD.take 64:=⟨_,rfl⟩;have nu:∀i,ps.getD i 0<1000:=by rw[rP];exact fun i=>zf i 64
 have Xf:ps.length=64:=by rw[rP];decide
 rw[←rP,←rR] at hk;rw[←rR] at Hl ⊢;refine aC.en func310 ntmps310 ?_;refine aP "aw" fun b0=> ?_;refine aP "Tw" fun b1=> ?_;refine aj "T" ?_;refine WL.c1 call275 rfl (oG (n:=64) aK) rfl ?_;rintro _ _ ⟨A,cap,rfl,rfl⟩;refine aj "CfoP" ?_;rw[←rP];refine WC.loop (σ:=Nat×List Nat) (fun s=>[(0,ptr b0 0),(1,ptr b1 0),(10,.slice A 64 cap),(11,.i ((64:Nat):Int)),(12,.i ((s.1:Nat):Int))]) (fun s=>bq (.slice A 64 cap) 3 1 64 (av .i64 ps)::ah b1 348 (av .u32 s.2)::ah b0 348 (av .u32 (replicate 64 0))::F)
  (fun s=>s.1≤64∧s.2=ks.take s.1++replicate (64-s.1) 0) (fun s=>64-s.1) (0,replicate 64 0) ⟨zero_le _,rfl⟩ bM cu ?_
 rintro⟨i,ws⟩ ⟨hi,hw⟩;dsimp only at hi hw ⊢;have OY:ws.length=64:=by rw[hw,length_append,length_take,length_replicate];omega
 refine aP "a~fBE" (aX (fun aN=> ?_) fun aN=> ?_)
 ·simp only[dh] at aN;have hr:Rd K (bq (.slice A 64 cap) 3 1 64 (av .i64 ps)::ah b1 348 (av .u32 ws)::ah b0 348 (av .u32 (replicate 64 0))::F) _ _:=Seq.rF (bq.seq (by rw[au,Xf])) (show i<64 by omega);refine aj "1" ?_;refine WL.val (V.kI (v:= .i ((ps.getD i 0:Nat):Int)) fZ (ak rfl) (ak rfl) (hr:=fun _=>hr)) rfl ?_;refine WL.val (V.dY (v:= .i ((ps.getD i 0:Nat):Int)) isAgg3 (ak rfl) (fun _=>hr)) rfl ?_;refine aj "mgQ" ?_;refine WL.t1 call332 rfl ((Qa (nu i)).eq (v':= .int .u32 ((ks.getD i 0:Nat):Int)) (by rw[hk i ay])) rfl ?_;refine aP "~x~sbq<;" ?_;exact⟨(i+1,_),⟨by show i+1≤64;omega,by dsimp only;rw[hw];exact qL Hl ay⟩,(by show 64-(i+1)<64-i;omega),.cons rfl bM,fun w h=>h⟩
 ·simp only[dh] at aN;refine aj "W" ?_;obtain rfl:i=64:=by omega
  rw[Nat.sub_self,replicate_zero,append_nil,take_of_length_le ay] at hw;rw[hw];refine aP "qyv3" ?_;exact aG.ret (H':=F) (bI.one rfl (R1.cO (l:=ks) rfl ⟨isAgg348,sizeOf348⟩)) gy ⟨rfl,rfl⟩
end
def s1E(x:Nat):Nat:=qw x 6 ^^^ qw x 11 ^^^ qw x 25
def s0E(x:Nat):Nat:=qw x 2 ^^^ qw x 13 ^^^ qw x 22
def z1E(x:Nat):Nat:=qw x 17 ^^^ qw x 19 ^^^ x/2^10
def z0E(x:Nat):Nat:=qw x 7 ^^^ qw x 18 ^^^ x/2^3
theorem jQ{x n:Nat}(hx:x<4294967296):qw x n<2^32:=aeW hx
theorem Wn{x n:Nat}(hx:x<4294967296):x/2^n<2^32:=Nat.lt_of_le_of_lt (div_le_self _ _) hx
theorem fV(s data:List Nat):gN s data=Qz 4294967296 s (xu 4294967296 s1E s0E rT (yL 4294967296 z1E z0E 48 (kG 4 16 data [])).reverse (O8.of s)):=rfl
theorem akd:∀ {l:List Nat},4≤l.length→l.take 4=[l.getD 0 0,l.getD 1 0,l.getD 2 0,l.getD 3 0]
 | _::_::_::_::_,_=>rfl
theorem be4{a b c d:Nat}(ha:a<256)(hb:b<256)(hc:c<256)(hd:d<256):a*2^24%4294967296 ||| b*2^16%4294967296 ||| c*2^8%4294967296 ||| d=be [a,b,c,d]:=by
 rw[mod_eq_of_lt (show a*2^24<4294967296 by omega),mod_eq_of_lt (show b*2^16<4294967296 by omega),mod_eq_of_lt (show c*2^8<4294967296 by omega),vT (show b*2^16<2^24 by omega),
  show a*2^24+b*2^16=(a*256+b)*2^16 by omega,vT (show c*2^8<2^16 by omega),show (a*256+b)*2^16+c*2^8=((a*256+b)*256+c)*2^8 by omega,vT (show d<2^8 by omega)]
 show _=256*(256*(256*(256*0+a)+b)+c)+d;omega
section
variable{K:World}{F:List aA}
theorem vF{br o cap:Nat}{A:Option Addr}{s data:List Nat}(hr:∀i,i<64→Rd K F (some ⟨br,o+i,none⟩) (.int .u32 ((rT.getD i 0:Nat):Int)))(hs:Seq K F A 64 1 (av .u8 data))(hd:aB 256 data)(rQ:s.length=8)(Pg:aB 4294967296 s)(nO:64≤cap) :
 aL prog 269 #[ptr br o,.agg (av .u32 s).toArray,.slice A 64 cap] K F (.agg (av .u32 (gN s data)).toArray):=by
 have uQ:data.length=64:=by have :=hs.len;rwa [au,Nat.mul_one] at this
 obtain⟨ks,rR⟩:∃ks,ks=rT:=⟨_,rfl⟩;have wR:ks.length=64:=by rw[rR];decide
 have anq:aB 4294967296 ks:=by rw[rR];unfold aB;decide
 rw[fV,←rR];rw[←rR] at hr;obtain⟨Rw,hRw⟩:∃R,R=yL 4294967296 z1E z0E 48 (kG 4 16 data []):=⟨_,rfl⟩;rw[←hRw];refine aC.en func269 ntmps269 ?_;refine aj "a9" fun b4=> ?_;refine aP "w" fun b6=> ?_;refine aP "Tw" fun b7=> ?_;refine aj "brbu" ?_;refine WC.loop (σ:=Nat×List Nat) (fun s=>[(0,ptr br o),(2,.slice A 64 cap),(4,ptr b4 0),(6,ptr b6 0),(7,ptr b7 0),(24,.i ((s.1:Nat):Int))]) (fun t=>ah b7 348 (av .u32 t.2)::ah b6 349 (av .u32 (replicate 8 0))::ah b4 349 (av .u32 s)::F)
  (fun t=>t.1≤64∧t.2.length=64∧aB 4294967296 t.2∧(∀j,t.1≤j→t.2.getD j 0=0)∧yL 4294967296 z1E z0E (48-(t.1-16)) (kG 4 (16-t.1) (data.drop (4*t.1)) (t.2.take t.1).reverse)=Rw) (fun t=>64-t.1) (0,replicate 64 0) ⟨zero_le _,length_replicate,aB.vg aK,fun j _=>zK _ _,hRw.symm⟩ bM cu ?_
 rintro⟨i,ws⟩ ⟨hi,OY,pY,hz,hq⟩;dsimp only at hi OY pY hz hq ⊢;refine WC.sr (WL.val (V.zP (j:=64) (ak rfl) (ak rfl)) rfl ?_);refine aj "BE" (aX (fun aN=> ?_) fun aN=> ?_)
 ·simp only[dh] at aN;refine aj "1f" ?_;refine WL.val (V.zP (j:=16) (ak rfl) (ak rfl)) rfl ?_;refine aj "k" (aX (fun aR=> ?_) fun aR=> ?_)
  ·simp only[dh] at aR;have h1:=aR;rw[show 16-i=16-(i+1)+1 by omega,FE,drop_drop,show 48-(i-16)=48-(i+1-16) by omega] at hq;refine WC.seq ?_;have hb:∀j,data.getD j 0<256:=fun j=>hd.at_ aK j;have lJ:∀j,4*i+j<64→Rd K F (A.map (·.add (4*i+j))) (.int .u8 ((data.getD (4*i+j) 0:Nat):Int)):=fun j hj=>Seq.rF hs hj;have hbe:be ((data.drop (4*i)).take 4)=be [data.getD (4*i) 0,data.getD (4*i+1) 0,data.getD (4*i+2) 0,data.getD (4*i+3) 0]:=by
    rw[akd (by rw[length_drop];omega),getD_drop,getD_drop,getD_drop,getD_drop,Nat.add_zero]
   rw[hbe] at hq;have hb4:=be4 (hb (4*i)) (hb (4*i+1)) (hb (4*i+2)) (hb (4*i+3));refine aP "~!F0F1F2~~M3" ?_;refine UA.val 4 rfl (fun _=>V.kI (v:= .int .u8 ((data.getD (4*i+0) 0:Nat):Int)) eu (ak rfl) (ak rfl) (hr:=fun _=>(lJ 0 ay).up.up)) ?_;refine UA.val 5 rfl (fun _=>V.dY (v:= .int .u8 ((data.getD (4*i+0) 0:Nat):Int)) isAgg5 (ak rfl) (fun _=>(lJ 0 ay).up.up)) ?_;refine UA.val 6 rfl (fun _=>V.rG (i:=data.getD (4*i+0) 0) runUnderlying5 runUnderlying339 (ak rfl) (fun _=>kV (M:=4294967296) rfl rfl (by have :=hb (4*i+0);omega))) ?_;refine UA.val 7 rfl (fun _=>V.Jk (j:=24) (M:=4294967296) (ak rfl) (ak rfl)) ?_;refine aP "F8F9~~M:" ?_;refine UA.val 11 rfl (fun _=>V.wU (j:=1) (ak rfl) (ak rfl)) ?_;refine UA.val 12 rfl (fun _=>V.kI (v:= .int .u8 ((data.getD (4*i+1) 0:Nat):Int)) eu (ak rfl) (ak rfl) (hr:=fun _=>(lJ 1 ay).up.up)) ?_;refine UA.val 13 rfl (fun _=>V.dY (v:= .int .u8 ((data.getD (4*i+1) 0:Nat):Int)) isAgg5 (ak rfl) (fun _=>(lJ 1 ay).up.up)) ?_;refine UA.val 14 rfl (fun _=>V.rG (i:=data.getD (4*i+1) 0) runUnderlying5 runUnderlying339 (ak rfl) (fun _=>kV (M:=4294967296) rfl rfl (by have :=hb (4*i+1);omega))) ?_;refine UA.val 15 rfl (fun _=>V.Jk (j:=16) (M:=4294967296) (ak rfl) (ak rfl)) ?_;refine UA.val 16 rfl (fun _=>V.ZG (i:=data.getD (4*i) 0*2^24%4294967296) (j:=data.getD (4*i+1) 0*2^16%4294967296) 32 (ak rfl) (ak rfl) (fun _=>⟨mod_lt _ aK,mod_lt _ aK⟩)) ?_;refine aP "FAFB~~MC" ?_;refine UA.val 20 rfl (fun _=>V.wU (j:=2) (ak rfl) (ak rfl)) ?_;refine UA.val 21 rfl (fun _=>V.kI (v:= .int .u8 ((data.getD (4*i+2) 0:Nat):Int)) eu (ak rfl) (ak rfl) (hr:=fun _=>(lJ 2 ay).up.up)) ?_;refine UA.val 22 rfl (fun _=>V.dY (v:= .int .u8 ((data.getD (4*i+2) 0:Nat):Int)) isAgg5 (ak rfl) (fun _=>(lJ 2 ay).up.up)) ?_;refine UA.val 23 rfl (fun _=>V.rG (i:=data.getD (4*i+2) 0) runUnderlying5 runUnderlying339 (ak rfl) (fun _=>kV (M:=4294967296) rfl rfl (by have :=hb (4*i+2);omega))) ?_;refine UA.val 24 rfl (fun _=>V.Jk (j:=8) (M:=4294967296) (ak rfl) (ak rfl)) ?_;refine UA.val 25 rfl (fun _=>V.ZG (i:=data.getD (4*i) 0*2^24%4294967296 ||| data.getD (4*i+1) 0*2^16%4294967296) (j:=data.getD (4*i+2) 0*2^8%4294967296) 32 (ak rfl) (ak rfl) (fun _=>⟨or_lt_two_pow (mod_lt _ aK) (mod_lt _ aK),mod_lt _ aK⟩)) ?_;refine aP "FJFK~~ML" ?_;refine UA.val 29 rfl (fun _=>V.wU (j:=3) (ak rfl) (ak rfl)) ?_;refine UA.val 30 rfl (fun _=>V.kI (v:= .int .u8 ((data.getD (4*i+3) 0:Nat):Int)) eu (ak rfl) (ak rfl) (hr:=fun _=>(lJ 3 ay).up.up)) ?_;refine UA.val 31 rfl (fun _=>V.dY (v:= .int .u8 ((data.getD (4*i+3) 0:Nat):Int)) isAgg5 (ak rfl) (fun _=>(lJ 3 ay).up.up)) ?_;refine UA.val 32 rfl (fun _=>V.rG (i:=data.getD (4*i+3) 0) runUnderlying5 runUnderlying339 (ak rfl) (fun _=>kV (M:=4294967296) rfl rfl (by have :=hb (4*i+3);omega))) ?_;refine UA.val 33 rfl (fun _=>V.aI (v':= .int .u32 ((be [data.getD (4*i) 0,data.getD (4*i+1) 0,data.getD (4*i+2) 0,data.getD (4*i+3) 0]:Nat):Int)) (V.ZG (i:=data.getD (4*i) 0*2^24%4294967296 ||| data.getD (4*i+1) 0*2^16%4294967296 ||| data.getD (4*i+2) 0*2^8%4294967296) (j:=data.getD (4*i+3) 0) 32 (ak rfl) (ak rfl) (fun _=>⟨or_lt_two_pow (or_lt_two_pow (mod_lt _ aK) (mod_lt _ aK)) (mod_lt _ aK),Nat.lt_trans (hb _) aK⟩)) (fun _=>by rw[hb4])) ?_;refine aP "~JR" ?_;refine UA.at_ 35 rfl sizeOf339 (fun _=>ak rfl) (fun _=>ak rfl) ?_;refine aP "_" fun CJ=> ?_;simp only[map_cons,map_nil,cons_append,nil_append];refine aP "Rq<;" ?_;first
    | (
     refine⟨(i+1,be [data.getD (4*i) 0,data.getD (4*i+1) 0,data.getD (4*i+2) 0,data.getD (4*i+3) 0] |> ws.set i),⟨by show i+1≤64;omega,by show (ws.set i _).length=64;rw[length_set];exact OY,pY.set (by rw[←hb4];exact or_lt_two_pow (n:=32) (or_lt_two_pow (or_lt_two_pow (mod_lt _ aK) (mod_lt _ aK)) (mod_lt _ aK)) (Nat.lt_trans (hb _) aK)),fun k hk=> ?_, ?_⟩,(by show 64-(i+1)<64-i;omega),.cons rfl (.cons rfl (.cons rfl (.cons rfl (.cons rfl (.cons rfl (.nil _)))))),fun w h=>h⟩
     ·dsimp only at hk ⊢;rw[getD_set_ne ay];exact hz k ay
     ·dsimp only;rw[sw ay,show 4*(i+1)=4*i+4 by omega];exact hq)
    | (
     refine⟨(i+1,_),⟨by show i+1≤64;omega,by show (ws.set i _).length=64;rw[length_set];exact OY,pY.set (mod_lt _ aK),fun k hk=> ?_, ?_⟩,(by show 64-(i+1)<64-i;omega),.cons rfl (.cons rfl (.cons rfl (.cons rfl (.cons rfl (.cons rfl (.nil _)))))),fun w h=>h⟩
     ·dsimp only at hk ⊢;rw[getD_set_ne ay];exact hz k ay
     ·dsimp only;rw[sw ay,show 16-(i+1)=0 by omega,kG];exact hq)
  ·simp only[dh] at aR;have h1:=aR;refine aj ")" ?_;have hx:=pY.at_ aK (i-15);have hy:=pY.at_ aK (i-2);rw[show 48-(i-16)=48-(i+1-16)+1 by omega,IC,show 16-i=0 by omega,kG,Wx,oU ay ay,oU ay ay,oU ay ay,oU ay ay] at hq;refine aP "~AF0" ?_;refine UA.val 1 rfl (fun _=>V.rV (j:=15) (ak rfl) (ak rfl)) ?_;refine aP "~J2~t3F4" ?_;refine UA.val 5 rfl (fun _=>V.rV (j:=2) (ak rfl) (ak rfl)) ?_;refine aP "~J6~t7`8`9_" fun bs2=> ?_;simp only[map_cons,map_nil,cons_append,nil_append];refine aP "~!F0F1" ?_;refine UA.val 2 rfl (fun _=>V.rV (j:=16) (ak rfl) (ak rfl)) ?_;refine aP "~J3~=4F5" ?_;refine UA.call (vs:=[_,_]) 6 rfl call313 (fun _=>⟨ak rfl,ak rfl,trivial⟩) (fun H' hF=>gY (n:=7) hx aK aK) ?_;refine aP "F7" ?_;refine UA.call (vs:=[_,_]) 8 rfl call313 (fun _=>⟨ak rfl,ak rfl,trivial⟩) (fun H' hF=>gY (n:=18) hx aK aK) ?_;refine UA.val 9 rfl (fun _=>V.rU 32 (ak rfl) (ak rfl) (fun _=>⟨jQ hx,jQ hx⟩)) ?_;refine aP "F:" ?_;refine UA.val 11 rfl (fun _=>V.wO (j:=3) (ak rfl) (ak rfl)) ?_;refine UA.val 12 rfl (fun _=>V.rU 32 (ak rfl) (ak rfl) (fun _=>⟨xor_lt_two_pow (jQ hx) (jQ hx),Wn hx⟩)) ?_;refine aP "~[=F>" ?_;refine UA.val 15 rfl (fun _=>V.rV (j:=7) (ak rfl) (ak rfl)) ?_;refine aP "~J@~=A~[BFC" ?_;refine UA.call (vs:=[_,_]) 20 rfl call313 (fun _=>⟨ak rfl,ak rfl,trivial⟩) (fun H' hF=>gY (n:=17) hy aK aK) ?_;refine aP "FE" ?_;refine UA.call (vs:=[_,_]) 22 rfl call313 (fun _=>⟨ak rfl,ak rfl,trivial⟩) (fun H' hF=>gY (n:=19) hy aK aK) ?_;refine UA.val 23 rfl (fun _=>V.rU 32 (ak rfl) (ak rfl) (fun _=>⟨jQ hy,jQ hy⟩)) ?_;refine aP "FH" ?_;refine UA.val 25 rfl (fun _=>V.wO (j:=10) (ak rfl) (ak rfl)) ?_;refine UA.val 26 rfl (fun _=>V.rU 32 (ak rfl) (ak rfl) (fun _=>⟨xor_lt_two_pow (jQ hy) (jQ hy),Wn hy⟩)) ?_;refine aP "~[K~JL" ?_;refine UA.at_ 29 rfl sizeOf339 (fun _=>ak rfl) (fun _=>ak rfl) ?_;refine aP "_" fun bs3=> ?_;simp only[map_cons,map_nil,cons_append,nil_append];refine aP "q<;" ?_;first
    | (
     refine⟨(i+1,be [data.getD (4*i) 0,data.getD (4*i+1) 0,data.getD (4*i+2) 0,data.getD (4*i+3) 0] |> ws.set i),⟨by show i+1≤64;omega,by show (ws.set i _).length=64;rw[length_set];exact OY,pY.set (by rw[←hb4];exact or_lt_two_pow (n:=32) (or_lt_two_pow (or_lt_two_pow (mod_lt _ aK) (mod_lt _ aK)) (mod_lt _ aK)) (Nat.lt_trans (hb _) aK)),fun k hk=> ?_, ?_⟩,(by show 64-(i+1)<64-i;omega),.cons rfl (.cons rfl (.cons rfl (.cons rfl (.cons rfl (.cons rfl (.nil _)))))),fun w h=>h⟩
     ·dsimp only at hk ⊢;rw[getD_set_ne ay];exact hz k ay
     ·dsimp only;rw[sw ay,show 4*(i+1)=4*i+4 by omega];exact hq)
    | (
     refine⟨(i+1,_),⟨by show i+1≤64;omega,by show (ws.set i _).length=64;rw[length_set];exact OY,pY.set (mod_lt _ aK),fun k hk=> ?_, ?_⟩,(by show 64-(i+1)<64-i;omega),.cons rfl (.cons rfl (.cons rfl (.cons rfl (.cons rfl (.cons rfl (.nil _)))))),fun w h=>h⟩
     ·dsimp only at hk ⊢;rw[getD_set_ne ay];exact hz k ay
     ·dsimp only;rw[sw ay,show 16-(i+1)=0 by omega,kG];exact hq)
 ·simp only[dh] at aN;refine aj "W" ?_;obtain rfl:i=64:=by omega
  rw[take_of_length_le ay] at hq;have hq:ws.reverse=Rw:=hq;have Xa:Rw.reverse=ws:=by rw[←hq,reverse_reverse]
  rw[Xa];obtain⟨Ro,hRo⟩:∃R,R=xu 4294967296 s1E s0E ks ws (O8.of s):=⟨_,rfl⟩;rw[←hRo];refine aP "~A~~~h0~t1" ?_;refine UA.val 2 rfl (fun _=>V.fT (j:=1) F9 (ak rfl) (ak rfl)) ?_;refine aP "~t3" ?_;refine UA.val 4 rfl (fun _=>V.fT (j:=2) F9 (ak rfl) (ak rfl)) ?_;refine aP "~t5" ?_;refine UA.val 6 rfl (fun _=>V.fT (j:=3) F9 (ak rfl) (ak rfl)) ?_;refine aP "~t7" ?_;refine UA.val 8 rfl (fun _=>V.fT (j:=4) F9 (ak rfl) (ak rfl)) ?_;refine aP "~t9" ?_;refine UA.val 10 rfl (fun _=>V.fT (j:=5) F9 (ak rfl) (ak rfl)) ?_;refine aP "~t;" ?_;refine UA.val 12 rfl (fun _=>V.fT (j:=6) F9 (ak rfl) (ak rfl)) ?_;refine aP "~t=" ?_;refine UA.val 14 rfl (fun _=>V.fT (j:=7) F9 (ak rfl) (ak rfl)) ?_;refine aP "~t?`@`A`B`C`D`E`F`G_" fun bs4=> ?_;simp only[map_cons,map_nil,cons_append,nil_append];refine aj "rbu" ?_;refine WC.loop (σ:=Nat×O8) (fun t=>[(0,ptr br o),(4,ptr b4 0),(6,ptr b6 0),(7,ptr b7 0),(11,.int .u32 ((t.2.a:Nat):Int)),(12,.int .u32 ((t.2.b:Nat):Int)),(13,.int .u32 ((t.2.c:Nat):Int)),(14,.int .u32 ((t.2.d:Nat):Int)),(15,.int .u32 ((t.2.e:Nat):Int)),(16,.int .u32 ((t.2.f:Nat):Int)),(17,.int .u32 ((t.2.g:Nat):Int)),(18,.int .u32 ((t.2.h:Nat):Int)),(118,.i ((t.1:Nat):Int))]) (fun _=>ah b7 348 (av .u32 ws)::ah b6 349 (av .u32 (replicate 8 0))::ah b4 349 (av .u32 s)::F)
   (fun t=>t.1≤64∧t.2.Ok 4294967296∧xu 4294967296 s1E s0E (ks.drop t.1) (ws.drop t.1) t.2=Ro) (fun t=>64-t.1) (0,O8.of s) ⟨zero_le _,O8.Iy aK Pg,hRo.symm⟩ bM cu ?_
  rintro⟨i,a,b,c,d,e,f,g,h⟩ ⟨hi,ho,hq⟩;have oK:=ho;obtain⟨ha,hb,hc,Zr,he,hf,hg,hh⟩:=ho;dsimp only at hi hq ha hb hc Zr he hf hg hh ⊢;refine WC.sr (WL.val (V.zP (j:=64) (ak rfl) (ak rfl)) rfl ?_);refine aj "BE" (aX (fun bB=> ?_) fun bB=> ?_)
  ·simp only[dh] at bB;have h3:=bB;rw[HY _ _ _ _ ay ay] at hq;refine aP "1t~AF0F1" ?_;refine UA.call (vs:=[_,_]) 2 rfl call313 (fun _=>⟨ak rfl,ak rfl,trivial⟩) (fun H' hF=>gY (n:=6) he aK aK) ?_;refine aP "F3" ?_;refine UA.call (vs:=[_,_]) 4 rfl call313 (fun _=>⟨ak rfl,ak rfl,trivial⟩) (fun H' hF=>gY (n:=11) he aK aK) ?_;refine UA.val 5 rfl (fun _=>V.rU 32 (ak rfl) (ak rfl) (fun _=>⟨jQ he,jQ he⟩)) ?_;refine aP "F6" ?_;refine UA.call (vs:=[_,_]) 7 rfl call313 (fun _=>⟨ak rfl,ak rfl,trivial⟩) (fun H' hF=>gY (n:=25) he aK aK) ?_;refine UA.val 8 rfl (fun _=>V.rU 32 (ak rfl) (ak rfl) (fun _=>⟨xor_lt_two_pow (jQ he) (jQ he),jQ he⟩)) ?_;refine aP "~[9F:F;" ?_;refine UA.val 12 rfl (fun _=>V.C9 32 (ak rfl) (ak rfl)) ?_;refine aP "F=" ?_;refine UA.val 14 rfl (fun _=>V.ajR (M:=4294967296) (ak rfl)) ?_;refine aP "F?" ?_;refine UA.val 16 rfl (fun _=>V.C9 32 (ak rfl) (ak rfl)) ?_;refine UA.val 17 rfl (fun _=>V.rU 32 (ak rfl) (ak rfl)) ?_;refine aP "~[BFCFD~~1E" ?_;refine UA.val 22 rfl (fun _=>V.aI (v':=ptr br (o+i)) (V.aa2 (j:=(i:Int)) afU (ak rfl) (ak rfl) (fun _=>by omega)) (fun _=>by simp)) ?_;refine UA.val 23 rfl (fun _=>V.dY (v:= .int .u32 ((ks.getD i 0:Nat):Int)) isAgg339 (ak rfl) (fun _=>(hr i h3).up.up.up)) ?_;refine aP "~[HFI~JJ~tK~[L`M_" fun bs5=> ?_;simp only[map_cons,map_nil,cons_append,nil_append];refine aj "e" ?_;refine WL.t2 call313 rfl rfl (gY (n:=2) ha aK aK) rfl ?_;refine WL.mv rfl rfl (WL.t2 call313 rfl rfl (gY (n:=13) ha aK aK) rfl ?_);refine WL.val (V.rU 32 (ak rfl) (ak rfl) (fun _=>⟨jQ ha,jQ ha⟩)) rfl ?_;refine WL.mv rfl rfl (WL.t2 call313 rfl rfl (gY (n:=22) ha aK aK) rfl ?_);refine WL.val (V.rU 32 (ak rfl) (ak rfl) (fun _=>⟨xor_lt_two_pow (jQ ha) (jQ ha),jQ ha⟩)) rfl ?_;refine aP "z~~;z~~;" ?_;refine WL.val (V.rU 32 (ak rfl) (ak rfl)) rfl (aP "z~~;" ?_);refine WL.val (V.rU 32 (ak rfl) (ak rfl)) rfl (aP "~~NgQ~~Nzzc~~Nzcmmmmmmmgq<;" ?_);refine⟨(i+1,Ug 4294967296 s1E s0E ⟨a,b,c,d,e,f,g,h⟩ (ks.getD i 0) (ws.getD i 0)),⟨by show i+1≤64;omega,WK aK _ _ oK _ _,hq⟩,(by show 64-(i+1)<64-i;omega), ?_,fun w h=>h⟩;rw[OU];exact .cons rfl bM
  ·simp only[dh] at bB;have h3:=bB;refine aj "WN" ?_;obtain rfl:i=64:=by omega
   rw[←wR,drop_length] at hq;have hq:O8.mk a b c d e f g h=Ro:=hq;rw[←hq];refine aj "hzzzc" ?_;refine WL.val (V.l7 (l:=O8.list ⟨a,b,c,d,e,f,g,h⟩) (vs:=[(0,_),(1,_),(2,_),(3,_),(4,_),(5,_),(6,_),(7,_)]) ⟨ak rfl,ak rfl,ak rfl,ak rfl,ak rfl,ak rfl,ak rfl,ak rfl,trivial⟩ rfl (uW _ _ _ _ _ _ _ _)) rfl ?_;obtain⟨ad,had⟩:∃ad,ad=Qz 4294967296 s ⟨a,b,c,d,e,f,g,h⟩:=⟨_,rfl⟩;have aaX:ad.length=8:=by rw[had];rfl
   obtain⟨ol,J2⟩:∃ol,ol=O8.list ⟨a,b,c,d,e,f,g,h⟩:=⟨_,rfl⟩;have anr:ol.length=8:=by rw[J2];rfl
   have aic:∀k,k<8→(s.getD k 0+ol.getD k 0)%4294967296=ad.getD k 0:=fun k hk=>by rw[J2,had];exact MK hk
   rw[←had,←J2];refine aj "P" ?_;refine WC.loop (σ:=Nat×List Nat) (fun t=>[(4,ptr b4 0),(6,ptr b6 0),(191,.agg (av .u32 ol).toArray),(192,.i ((t.1:Nat):Int))]) (fun t=>ah b7 348 (av .u32 ws)::ah b6 349 (av .u32 (replicate 8 0))::ah b4 349 (av .u32 t.2)::F)
    (fun t=>t.1≤8∧t.2=ad.take t.1++s.drop t.1) (fun t=>8-t.1) (0,s) ⟨zero_le _,rfl⟩ bM cu ?_
   rintro⟨i,st⟩ ⟨hi,dJ⟩;dsimp only at hi dJ ⊢;have qP:st.length=8:=by rw[dJ,length_append,length_take,length_drop];omega
   refine aP "a~~fBE" (aX (fun eF=> ?_) fun eF=> ?_)
   ·simp only[dh] at eF;have h4:=eF;have hsg:st.getD i 0=s.getD i 0:=by rw[dJ];exact QD aaX rQ h4
    refine aP "1~~gmgh~x~9c~~N" ?_;rw[hsg,aic i h4];refine aP "~x~sbq<;" ?_;exact⟨(i+1,_),⟨by show i+1≤8;omega,by dsimp only;rw[dJ];exact R6 aaX rQ h4⟩,(by show 8-(i+1)<8-i;omega),.cons rfl bM,fun w h=>h⟩
   ·simp only[dh] at eF;have h4:=eF;refine aj "W" ?_;obtain rfl:i=8:=by omega
    rw[take_of_length_le ay,drop_of_length_le ay,append_nil] at dJ;rw[dJ];refine aP "qyv3" ?_;exact aG.ret (H':=F) (bI.one rfl (R1.cO (l:=ad) rfl ⟨isAgg349,sizeOf349⟩)) gy ⟨by rw[had],rfl⟩
end
end Go.Proofs.YtcedojacbhnbiaaGreat
namespace Go.Sl
open Go Go.RowKit Go.Proofs.YtcedojacbhnbiaaGreat List Nat
section
variable{Mo:Mode}{P:Program}{K:World}{n:Nat}{Q:fG}{e:Env}{H:List aA}{ty:TypeId}{pos:String}{af:Array Edge}{ops:Array Oper}{rest:List Oper}
theorem WL.aas{d:Nat}{x y:Operand}{T E bytes m q:Nat}{z:Value}{k k':IntKind}{l r:Int}(hT:P.underlying T=some (.slice E))(hE:dX P E 1 bytes z)(hx:OV true e x (.int k l))(hy:OV true e y (.int k' r))
 (hl:l=(m:Int)) (hq:r=(q:Int)) (hmq:m≤q) (hb:(bytes:Int)*(q:Int)≤281474976710656) (SL:blt 0 bytes=true) (hz:z.cells= #[z]) (hd:blt d n=true)
 (h:∀b,WL Mo P K n ops rest Q ((d,.slice (some ⟨b,0,none⟩) m q)::e) (ah b E (replicate q z)::H)) :
 WL Mo P K n ops (⟨some d,.makeSlice T x y,ty,pos,af,none⟩::rest) Q e H:=by
 obtain⟨i,hi,hiz,hs,J6,hzs,h0⟩:=hE;subst hl hq J6;have amv:0<i.bytes:=by simpa using SL
 refine WL.makeSlice hT hi hiz hx hy ay ay hb (by
  have h1:(1:Int)*(q:Int)≤(i.bytes:Int)*(q:Int):=Int.mul_le_mul_of_nonneg_right ay ay;omega) hd (fun b=> ?_)
 have h2:=h b;rw[Int.toNat_natCast,Int.toNat_natCast,hs,Nat.mul_one,hz];have h3:(madeCells #[z] q).toList=replicate q z:=by
  apply ext_getElem
  ·simp[madeCells]
  ·intro j h1 h2;simp[madeCells,mod_one]
 rw[h3];exact h2
end
end Go.Sl
namespace Go.Proofs.YtcedojacbhnbiaaGreat
open Go.Sl Go.RowKit Tryz List Nat
set_option exponentiation.threshold 5000
section
variable{K:World}{F:List aA}
theorem Ut{m:Nat}(hm:m≤1000000000000):aC prog 270 #[.i ((m:Nat):Int)] K F (fun v H'=>∃A' M cap',M=(mg 64 8 m).length∧v= .slice A' M cap'∧M≤cap'∧H'=bq (.slice A' M cap') 5 1 M (av .u8 (mg 64 8 m))::F):=by
 obtain⟨R,hR⟩:∃R,R=(m+8)%64:=⟨_,rfl⟩;refine aC.en func270 ntmps270 ?_;refine aj "ax" ?_;refine WL.aas (m:=1) (q:=128) underlying34 zo (ak rfl) (ak rfl) rfl rfl aK aK rfl rfl rfl (fun b5=> ?_);refine WL.sub (H':=ah b5 5 (av .u8 (replicate 128 0))::F) (Sub.refl _) cu (aj "j" ?_);refine WL.val (V.Lv (j:=0) eu (ak rfl) (ak rfl)) rfl (aP "~sBu" ?_);refine WC.loop (σ:=Nat×Option Addr×Nat) (fun s=>[(0,.i ((m:Nat):Int)),(3,.slice s.2.1 (1+s.1) s.2.2)]) (fun s=>bq (.slice s.2.1 (1+s.1) s.2.2) 5 1 (1+s.1) (av .u8 (128::replicate s.1 0))::F)
  (fun s=>s.1≤63-R∧1+s.1≤s.2.2) (fun s=>63-R-s.1) (0,some ⟨b5,0,none⟩,128) ⟨zero_le _,by show 1≤128;decide⟩ bM (fun w h=>Sat.Nq h rfl (show 1≤128 by decide) (show 128≤maxLen by decide)) ?_
 rintro⟨z,A3,c3⟩ ⟨hz,hz3⟩;dsimp only at hz hz3 ⊢;refine aP "rco~K" ?_;refine WL.val (V.wU (j:=8) (ak rfl) (ak rfl)) rfl ?_;refine aP "~~6~`k" (aX (fun aN=> ?_) fun aN=> ?_)
 ·simp only[oD] at aN;have h0:=aN;refine aj "iuh" ?_;refine WL.buildSlice (E:=5) (cs:=av .u8 [_]) (vs:=[(0,_)]) ⟨ak rfl,trivial⟩ rfl (jM _) rfl (fun b16=> ?_);refine aP "|~X" fun A17 c17 aqt asv=> ?_;refine aj "4" ?_;refine⟨(z+1,A17,c17),⟨by show z+1≤63-R;omega,by show 1+(z+1)≤c17;omega⟩,(by show 63-R-(z+1)<63-R-z;omega),.cons rfl bM,fun w h=> ?_⟩;have h2:=Sat.FD (h.aY 2 [0] rfl) (show av .u8 (128::replicate z 0++[0])=av .u8 (128::replicate (z+1) 0) by rw[cons_append,replicate_succ']);exact h2
 ·simp only[oD] at aN;have h0:=aN;refine aj "WN" ?_;obtain rfl:z=63-R:=by omega
  obtain⟨M,hM⟩:∃M,M=1+(63-R):=⟨_,rfl⟩;obtain⟨L,hL⟩:∃L,L=128::replicate (63-R) 0:=⟨_,rfl⟩;rw[←hM] at hz3;rw[←hM,←hL];refine aj "qgu" ?_;refine WC.loop (σ:=Nat×Option Addr×Nat) (fun s=>[(0,.i ((m:Nat):Int)),(3,.slice s.2.1 (M+s.1) s.2.2),(4,.i (56-8*(s.1:Int)))]) (fun s=>bq (.slice s.2.1 (M+s.1) s.2.2) 5 1 (M+s.1) (av .u8 (L++(bH 256 8 (8*m)).reverse.take s.1))::F)
   (fun s=>s.1≤8∧M+s.1≤s.2.2) (fun s=>8-s.1) (0,A3,c3) ⟨zero_le _,hz3⟩ bM (fun w h=>Sat.FD h (by rw[take_zero,append_nil])) ?_
  rintro⟨j,A3,c3⟩ ⟨hj,hj3⟩;dsimp only at hj hj3 ⊢;refine aj "r~ik" (aX (fun aR=> ?_) fun aR=> ?_)
  ·simp only[dh] at aR;have h1:=aR;rw[show (56-8*(j:Int))=((56-8*j:Nat):Int) by omega];refine aj "HQ" ?_;refine WL.val (V.rG (i:=m) runUnderlying3 runUnderlying306 (ak rfl) (fun _=>kV (M:=18446744073709551616) rfl rfl ay)) rfl ?_;refine WL.val (V.UW (i:=8) (M:=18446744073709551616) (ak rfl) (ak rfl)) rfl (aP "c~0~S" ?_);refine WL.buildSlice (E:=5) (cs:=av .u8 [_]) (vs:=[(0,_)]) ⟨ak rfl,trivial⟩ rfl (jM _) rfl (fun VQ=> ?_);refine aP "|~X" fun A30 c30 ahF agN=> ?_;refine aj "gh~B4" ?_;refine⟨(j+1,A30,c30),⟨by show j+1≤8;omega,by show M+(j+1)≤c30;omega⟩,(by show 8-(j+1)<8-j;omega),.cons rfl (.cons rfl (.cons (look_eq rfl (by congr 1;dsimp only;omega)) (.nil _))),fun w h=> ?_⟩;have h2:=Sat.FD (h.aY 2 [0] rfl) (show av .u8 (L++(bH 256 8 (8*m)).reverse.take j++[8*m%18446744073709551616/2^(56-8*j)%256])=av .u8 (L++(bH 256 8 (8*m)).reverse.take (j+1)) by
    rw[←AB (aH _ _ _) ay,bW _ _ _ _ ay,mod_eq_of_lt (show 8*m<18446744073709551616 by omega),show (2:Nat)^(56-8*j)=256^(8-1-j) by rw[show 56-8*j=8*(8-1-j) by omega,Nat.pow_mul],append_assoc _ _ [_]])
   exact h2
  ·simp only[dh] at aR;have h1:=aR;refine aj "W" ?_;obtain rfl:j=8:=by omega
   have e1:L++(bH 256 8 (8*m)).reverse.take 8=mg 64 8 m:=by
    rw[take_of_length_le (by rw[length_reverse,aH];decide),hL,hR];simp[mg]
   have e2:(mg 64 8 m).length=M+8:=by
    rw[←e1,hL,take_of_length_le (by rw[length_reverse,aH];decide)];simp only[length_append,length_cons,length_replicate,length_reverse,aH];omega
   rw[e1];refine aj "hd" ?_;exact qR _ rfl rfl cu ⟨A3,M+8,c3,e2.symm,rfl,hj3,rfl⟩
end
end Go.Proofs.YtcedojacbhnbiaaGreat
namespace Go.Sl
open Go Go.RowKit Go.BigFrame Go.Proofs.YtcedojacbhnbiaaGreat List Nat
section
variable{Mo:Mode}{P:Program}{K:World}{n:Nat}{Q:fG}{e:Env}{H:List aA}{c:Bool}{dst:Option Tmp}{ty:TypeId}{pos:String}{af:Array Edge}{gd:Option (Nat×Bool)}{ops:Array Oper}{rest:List Oper}
theorem V.ajV{f:FuncId}{xs:List Operand}{vs:List Value}{ats:Array TypeId}{v:Value}(hf:c=true→∀w,Sat K w H→(callFunc f vs.toArray).run P w= .ok (.value v) w)(dP:Gh c e xs vs):eX Mo P K n c e H ⟨dst,.call ⟨.value (.func f),xs.toArray,ats⟩,ty,pos,af,gd⟩ v:=fun hc a w ha hw=>by
 rw[execOp_call_go,map_toArray,dP.ev ha hc]
 simpa using hf hc w hw
theorem WL.ad6{d:Nat}{f:FuncId}{xs:List Operand}{vs:List Value}{ats:Array TypeId}{v:Value}{H':List aA}(hf:∀w,Sat K w H→∃w',(callFunc f vs.toArray).run P w= .ok (.value v) w'∧Sat K w' H')(dP:Gh true e xs vs)(hd:blt d n=true)
 (h:WL Mo P K n ops rest Q ((d,v)::e) H'):WL Mo P K n ops (⟨some d,.call ⟨.value (.func f),xs.toArray,ats⟩,ty,pos,af,none⟩::rest) Q e H:=by
 refine WL.SS (R:=fun u oV=>u=v∧oV=H') (fun a w ha hw=> ?_) hd (fun u oV ⟨e1,e2⟩=>by subst e1 e2;exact h);obtain⟨w',h1,h2⟩:=hf w hw;refine⟨v,w',H', ?_,h2,rfl,rfl⟩;rw[execOp_call_go,map_toArray,dP.ev ha rfl]
 simpa using h1
end
end Go.Sl
namespace Go.Proofs.YtcedojacbhnbiaaGreat
open Go.Sl Go.RowKit Tryz List Nat
section
variable{K:World}{F H H':List aA}
theorem XR{b o:Nat}{x:Int}(hr:Rd K H (some ⟨b,o,none⟩) (.int .u32 x)):∀w,Sat K w H→(callFunc 340 #[ptr b o]).run prog w= .ok (.value (.int .u32 x)) w:=fun w hw=>by
 obtain⟨a,ha,hc⟩:=hr w hw;injection ha with ha
 subst ha;exact run_call_load func340 (by kernel_rfl) (by kernel_rfl) (by kernel_rfl) .u32 (by kernel_rfl) hc
theorem Y3{b o:Nat}{x:Int}(hr:Rd K H (some ⟨b,o,none⟩) (.i x)):∀w,Sat K w H→(callFunc 314 #[ptr b o]).run prog w= .ok (.value (.i x)) w:=fun w hw=>by
 obtain⟨a,ha,hc⟩:=hr w hw;injection ha with ha
 subst ha;exact run_call_load func314 (by kernel_rfl) (by kernel_rfl) (by kernel_rfl) .i64 (by kernel_rfl) hc
theorem Uz{b o:Nat}{y:Int}(hu:dw K H b o [.int .u32 y] H'):∀w,Sat K w H→∃w',(callFunc 351 #[ptr b o,.int .u32 y]).run prog w= .ok (.value (.tuple #[])) w'∧Sat K w' H':=fun w hw=>by
 obtain⟨h1,h2⟩:=hu.may w hw.2 0 (Nat.zero_lt_one);obtain⟨u,hu1⟩:=Option.isSome_iff_exists.1 h1;refine⟨w.setCell ⟨b,o,none⟩ (.int .u32 y), ?_,(hu.run (P:=prog) hw (fun v hv=>by rcases mem_singleton.1 hv with rfl;rfl)).2⟩;exact run_call_store func351 (by kernel_rfl) (by kernel_rfl) (by kernel_rfl) (by kernel_rfl) hu1 h2
theorem agu{b o:Nat}{x y:Int}(hr:Rd K H (some ⟨b,o,none⟩) (.int .i32 x))(hu:dw K H b o [.int .i32 y] H'):∀w,Sat K w H→∃w',(callFunc 357 #[ptr b o,.int .i32 x,.int .i32 y]).run prog w= .ok (.value (.bool true)) w'∧Sat K w' H':=fun w hw=>by
 obtain⟨h1,h2⟩:=hu.may w hw.2 0 (Nat.zero_lt_one);obtain⟨a,ha,hc⟩:=hr w hw;injection ha with ha
 subst ha;refine⟨w.setCell ⟨b,o,none⟩ (.int .i32 y), ?_,(hu.run (P:=prog) hw (fun v hv=>by rcases mem_singleton.1 hv with rfl;rfl)).2⟩;exact run_call_cas_hit func357 (by kernel_rfl) (by kernel_rfl) (by kernel_rfl) .i32 (by kernel_rfl) hc h2
theorem abB{b o:Nat}{x y s:Int}(hr:Rd K H (some ⟨b,o,none⟩) (.int .i32 x))(hs:IntKind.i32.wrap (x+y)=s)(hu:dw K H b o [.int .i32 s] H'):∀w,Sat K w H→∃w',(callFunc 362 #[ptr b o,.int .i32 y]).run prog w= .ok (.value (.int .i32 s)) w'∧Sat K w' H':=fun w hw=>by
 obtain⟨h1,h2⟩:=hu.may w hw.2 0 (Nat.zero_lt_one);obtain⟨a,ha,hc⟩:=hr w hw;injection ha with ha
 subst ha;refine⟨w.setCell ⟨b,o,none⟩ (.int .i32 s), ?_,(hu.run (P:=prog) hw (fun v hv=>by rcases mem_singleton.1 hv with rfl;rfl)).2⟩;exact run_call_add func362 (by kernel_rfl) (by kernel_rfl) (by kernel_rfl) .i32 (by kernel_rfl) hc h2 (by simp[Op.intArith,hs])
theorem aaG{b o:Nat}{x y s:Int}(hr:Rd K H (some ⟨b,o,none⟩) (.i x))(hs:IntKind.i64.wrap (x+y)=s)(hu:dw K H b o [.i s] H'):∀w,Sat K w H→∃w',(callFunc 312 #[ptr b o,.i y]).run prog w= .ok (.value (.i s)) w'∧Sat K w' H':=fun w hw=>by
 obtain⟨h1,h2⟩:=hu.may w hw.2 0 (Nat.zero_lt_one);obtain⟨a,ha,hc⟩:=hr w hw;injection ha with ha
 subst ha;refine⟨w.setCell ⟨b,o,none⟩ (.i s), ?_,(hu.run (P:=prog) hw (fun v hv=>by rcases mem_singleton.1 hv with rfl;rfl)).2⟩;exact run_call_add func312 (by kernel_rfl) (by kernel_rfl) (by kernel_rfl) .i64 (by kernel_rfl) hc h2 (by simp[Op.intArith,hs])
theorem Cu:vE prog 356 [] (.tuple #[]):=fun w=>run_call_mark0 func356 (by kernel_rfl) (by kernel_rfl) (by kernel_rfl) .disable (by kernel_rfl) w
theorem Fa:vE prog 358 [] (.tuple #[]):=fun w=>run_call_mark0 func358 (by kernel_rfl) (by kernel_rfl) (by kernel_rfl) .enable (by kernel_rfl) w
theorem M4(b o:Nat):vE prog 359 [ptr b o] (.tuple #[]):=fun w=>run_call_marked func359 (by kernel_rfl) (by kernel_rfl) (by kernel_rfl) .acquire (by kernel_rfl) _ w
theorem Ch(b o:Nat):vE prog 361 [ptr b o] (.tuple #[]):=fun w=>run_call_marked func361 (by kernel_rfl) (by kernel_rfl) (by kernel_rfl) .releaseMerge (by kernel_rfl) _ w
theorem DY{b o x:Nat}(hr:Rd K F (some ⟨b,o,none⟩) (.int .u32 (x:Int))):aL prog 330 #[ptr b o] K F (.bool (!decide (x=0))):=by
 refine aC.en func330 ntmps330 ?_;refine aj "ajL" ?_;refine WL.val (V.ajV (vs:=[_]) (fun _=>XR hr) ⟨ak rfl,trivial⟩) rfl ?_;exact aP "~`d$" trivial
theorem Uo{b o x:Nat}(hr:Rd K F (some ⟨b,o,none⟩) (.i (x:Int))):aL prog 271 #[ptr b o] K F (.i (x:Int)):=by
 refine aC.en func271 ntmps271 ?_;refine aj "ajL" ?_;refine WL.val (V.ajV (vs:=[_]) (fun _=>Y3 hr) ⟨ak rfl,trivial⟩) rfl ?_;exact aj "d$" trivial
end
end Go.Proofs.YtcedojacbhnbiaaGreat
namespace Go.Sl
open Go Go.RowKit Go.Proofs.YtcedojacbhnbiaaGreat List Nat
theorem V.Q8{Mo:Mode}{P:Program}{K:World}{n:Nat}{e:Env}{H:List aA}{c:Bool}{dst:Option Tmp}{ty:TypeId}{pos:String}{af:Array Edge}{gd:Option (Nat×Bool)}{x:Operand}{src d t b o:Nat}{v:Value}(hs:P.underlying src=some (.pointer t))(hd:P.underlying d=some .unsafePointer)(Kl:(P.info? t).map (fun i=>decide (i.size=0))=some false)
 (hx:OV c e x (ptr b o)) (hr:c=true→Rd K H (some ⟨b,o,none⟩) v):eX Mo P K n c e H ⟨dst,.convert src d x,ty,pos,af,gd⟩ (ptr b o):=fun hc a w ha hw=>by
 show ((do pure (Next.value (←convert src d (a.eval x)))):Sem Next).run P w=_;rw[hx.ev hc ha];obtain⟨ad,h1,h2⟩:=hr hc w hw;injection h1 with h1
 subst h1;rw[Sem.run_bind,run_convert_to_unsafe hs hd Kl h2];rfl
end Go.Sl
namespace Go.Proofs.YtcedojacbhnbiaaGreat
open Go.Sl Go.RowKit Tryz List Nat
section
variable{K:World}{F:List aA}
theorem U3:aL prog 352 #[.bool true] K F (.int .u32 1):=by
 refine aC.en func352 ntmps352 ?_;refine aj "afk" (aX (fun aN=> ?_) fun aN=> ?_)
 ·have h0:=aN;exact aj "I$" trivial
 ·have h0:=aN;refine aj "iI" ?_;exact absurd h0 (by simp)
theorem YC{b o x y:Nat}{C C':aA}(hr:Rd K (C::F) (some ⟨b,o,none⟩) (.i (x:Int)))(hs:x+y≤9223372036854775807)(hu:dw K (C::F) b o [.i ((x+y:Nat):Int)] (C'::F)):aC prog 268 #[ptr b o,.i (y:Int)] K (C::F) (fun v H'=>v= .i ((x+y:Nat):Int)∧H'=C'::F):=by
 refine aC.en func268 ntmps268 ?_;refine aj "ajLc" ?_;refine WL.ad6 (vs:=[_,_]) (aaG hr (by rw[←Int.natCast_add];exact wrap_i64 ay) hu) ⟨ak rfl,ak rfl,trivial⟩ rfl ?_;refine aj "d" ?_;exact qR (C'::F) rfl rfl cu ⟨rfl,rfl⟩
theorem PL{b o:Nat}{C C':aA}(hr':Rd K (C'::F) (some ⟨b,o,none⟩) (.int .i32 1))(hr:Rd K (C::F) (some ⟨b,o,none⟩) (.int .i32 0))(hu:dw K (C::F) b o [.int .i32 1] (C'::F)):aC prog 349 #[ptr b o] K (C::F) (fun v H'=>v= .tuple #[]∧H'=C'::F):=by
 refine aC.en func349 ntmps349 ?_;refine WC.sr ?_;refine WL.val (V.ext (vs:=[]) (fun _=>Cu) trivial) rfl ?_;refine aj "brL" ?_;refine WL.ad6 (vs:=[_,_,_]) (agu hr hu) ⟨ak rfl,ak rfl,ak rfl,trivial⟩ rfl (aj "b2N2a" ?_);refine WL.val (V.ext (vs:=[]) (fun _=>Fa) trivial) rfl ?_;refine aj "bh" ?_;refine WL.val (V.Q8 underlying412 underlying416 (by kernel_rfl) (ak rfl) (fun _=>hr')) rfl ?_;refine WL.val (V.ext (vs:=[_]) (fun _=>M4 _ _) ⟨ak rfl,trivial⟩) rfl ?_;refine aj "3" ?_;exact aG.ret (H':=C'::F) (bI.none rfl) cu ⟨rfl,rfl⟩
theorem KI{b o:Nat}{C C':aA}(hr:Rd K (C::F) (some ⟨b,o,none⟩) (.int .i32 1))(hu:dw K (C::F) b o [.int .i32 0] (C'::F)):aC prog 350 #[ptr b o] K (C::F) (fun v H'=>v= .tuple #[]∧H'=C'::F):=by
 refine aC.en func350 ntmps350 ?_;refine aj "N2eL" ?_;refine WL.val (V.load (v:= .int .i32 1) isAgg21 (ak rfl) (fun _=>hr)) rfl ?_;refine aj "be" ?_;refine WL.val (V.Q8 underlying412 underlying416 (by kernel_rfl) (ak rfl) (fun _=>hr)) rfl ?_;refine WL.val (V.ext (vs:=[_]) (fun _=>Ch _ _) ⟨ak rfl,trivial⟩) rfl ?_;refine aj "bq" ?_;refine WL.val (V.ext (vs:=[]) (fun _=>Cu) trivial) rfl ?_;refine aj "beL" ?_;refine WL.ad6 (vs:=[_,_]) (abB (s:=0) hr aK hu) ⟨ak rfl,ak rfl,trivial⟩ rfl (aj "fsbOiq" ?_);refine WL.val (V.ext (vs:=[]) (fun _=>Fa) trivial) rfl ?_;refine WL.nil ?_;exact aG.normal (H':=C'::F) (bI.none rfl) cu ⟨rfl,rfl⟩
theorem TS{b o:Nat}{C C':aA}(hr':Rd K (C'::F) (some ⟨b,o,none⟩) (.int .i32 1))(hr:Rd K (C::F) (some ⟨b,o,none⟩) (.int .i32 0))(hu:dw K (C::F) b o [.int .i32 1] (C'::F)):aC prog 341 #[ptr b o] K (C::F) (fun v H'=>v= .tuple #[]∧H'=C'::F):=by
 refine aC.en func341 ntmps341 ?_;refine aj "hL" ?_;refine WL.c1 call349 rfl (PL hr' hr hu) rfl ?_;rintro _ _ ⟨rfl,rfl⟩;refine WL.nil ?_;exact aG.normal (H':=C'::F) (bI.none rfl) cu ⟨rfl,rfl⟩
end
end Go.Proofs.YtcedojacbhnbiaaGreat
namespace Go.Sl
open Go Go.RowKit Go.Proofs.YtcedojacbhnbiaaGreat List Nat
section
variable{P:Program}{K:World}{n:Nat}{Q:fG}{e:Env}{H:List aA}
def V4(P:Program)(K:World)(pd:List aA→Prop):List Deferred→List aA→Prop
 | [],H=>pd H
 | d::ds,H=>∃g args,d=⟨.fn (.func g) #[],args⟩∧bT P g∧FC P g args K H (fun H'=>V4 P K pd ds H')
theorem VJ{fn:Func}{tmps:Array Value}{R:Ending→World→Prop}{pd:List aA→Prop}(tT:∀H' w',Sat K w' H'→pd H'→Leaves P fn tmps R [] .returning w') :
 ∀ (ds:List Deferred) (H:List aA) (w:World),Sat K w H→V4 P K pd ds H→Leaves P fn tmps R ds .returning w
 | [],H,w,hw,h=>tT H w hw h
 | d::ds,H,w,hw,h=>by
  obtain⟨g,args,rfl,k1,k2⟩:=h;refine leaves_cons (f:=g) (args:=args) (by simp) (by show (callFunc g (args++ #[])).run P w=_;rw[k1];simp) ?_;refine (k2 w hw).mono ?_;rintro e2 u' w' ⟨rfl,v,H2,rfl,k4,k5⟩;exact VJ tT ds H2 w' k4 k5
def ahG(P:Program)(K:World)(n:Nat)(fn:Func)(post:Value→List aA→Prop):fG
 | Mo,.normal,e,H | Mo,.ret,e,H=>∃pd,V4 P K pd Mo.ds H∧∀H',pd H'→∃v oV,bI Mo P K n fn e H' v∧(∀w,Sat K w H'→Sat K w oV)∧post v oV
 | _,_,_,_=>False
theorem aC.aec{f:FuncId}{fn:Func}{c:Code}{vs:List Value}{post:Value→List aA→Prop}(hf:P.funcs[f]? =some fn)(hb:fn.body=some c)(hn:fn.ntmps=n)(hl:ble vs.length n=true)
 (h:WC ⟨none,[]⟩ P K n c (ahG P K n fn post) (lH 0 vs) H):aC P f vs.toArray K H post:=by
 intro w hw;refine calls_of_wp_defers hf hb (wp_mono (h _ w ?_ hw) ?_)
 ·have GA:vs.length≤n:=by simpa using hl
  refine⟨rfl,by simp[hn];omega,fun t v hv=> ?_⟩;obtain⟨_,h2⟩:=nY vs 0 t v hv;simp only[Nat.sub_zero] at h2;have ht:t<vs.length:=by
   rcases Nat.lt_or_ge t vs.length with h | h
   ·exact h
   ·simp[getElem?_eq_none h] at h2
  rw[Array.getD_eq_getD_getElem?,Array.getElem?_append_left (by simpa using ht)];simp[h2]
 ·rintro x a w ⟨ds,e',H',h1,h2,h3⟩;have key:(∃pd,V4 P K pd ds H'∧∀H2,pd H2→∃v oV,bI ⟨none,ds⟩ P K n fn e' H2 v∧(∀w,Sat K w H2→Sat K w oV)∧post v oV) →
   Leaves P fn a.tmps (fun e w'=>∃v H',e= .returned v∧Sat K w' H'∧post v H') a.defers .returning w:=by
   rintro⟨pd,k2,k3⟩;rw[h1.defers];refine VJ (fun H2 w' k4 k5=> ?_) ds H' w h2 k2;obtain⟨v2,H3,k6,k7,k8⟩:=k3 H2 k5;exact⟨v2,k6 a w' h1 k4,v2,H3,rfl,k7 w' k4,k8⟩
  cases x<;>first
   | exact key h3
   | exact h3.elim
theorem WL.acD{ds:List Deferred}{ops:Array Oper}{rest:List Oper}{ty:TypeId}{pos:String}{af:Array Edge}{f:FuncId}{xs:List Operand}{vs:List Value}{ats:Array TypeId}(hx:Gh true e xs vs)
 (h:WL ⟨none,⟨.fn (.func f) #[],vs.toArray⟩::ds⟩ P K n ops rest Q e H):WL ⟨none,ds⟩ P K n ops (⟨none,.defer ⟨.value (.func f),xs.toArray,ats⟩,ty,pos,af,none⟩::rest) Q e H:=fun a w ha hw=>by
 refine kP rfl fun R hR=> ?_;show Oper.wp P _ a w R _;unfold Oper.wp;have h1:(execOp a.eval ⟨none,.defer ⟨.value (.func f),xs.toArray,ats⟩,ty,pos,af,none⟩).run P w= .ok (.defer ⟨.fn (.func f) #[],vs.toArray⟩) w:=by
  show ((do pure (Next.defer (←resolve a.eval ⟨.value (.func f),xs.toArray,ats⟩ ty))):Sem Next).run P w=_;have h1:resolve a.eval ⟨.value (.func f),xs.toArray,ats⟩ ty=pure { target:= .fn (.func f) #[],args:=vs.toArray }:=by
   simp[resolve,map_toArray,hx.ev ha rfl,Deferred.ofValue,Act.eval]
  rw[h1];rfl
 rw[h1,Oper.upon_defer];refine hR _ _ (h _ w ⟨?_,ha.size,ha.at_⟩ hw);show _::a.defers=_::ds;rw[ha.defers]
end
theorem Iq{P:Program}{K:World}{H:List aA}{f:FuncId}{args:Array Value}{p q:List aA→Prop}(h:FC P f args K H p)(hpq:∀H',p H'→q H'):FC P f args K H q:=fun w hw =>
 (h w hw).mono fun _ _ _ ⟨h1,v,H',h2,h3,h4⟩=>⟨h1,v,H',h2,h3,hpq H' h4⟩
end Go.Sl
namespace Go.Proofs.YtcedojacbhnbiaaGreat
open Go.Sl Go.RowKit Tryz List Nat
section
variable{K:World}{F:List aA}
theorem Sb{b o:Nat}{C C':aA}(hu:dw K (C::F) b o [.int .u32 1] (C'::F)):FC prog 343 #[ptr b o,.bool true] K (C::F) (fun H'=>H'=C'::F):=by
 refine aC.acI func343 rfl ntmps343 rfl ?_;simp only[lH,reduceAdd];refine aP "~Rl0@1S2l3n4" ?_;refine WL.t1 call352 rfl (U3) rfl ?_;refine aj "bn5" ?_;refine WL.ad6 (vs:=[_,_]) (Uz hu) ⟨ak rfl,ak rfl,trivial⟩ rfl (aj "bM" ?_);exact aG.normal (H':=C'::F) (bI.none rfl) cu rfl
theorem Kn{b o:Nat}{C C':aA}(hr:Rd K (C::F) (some ⟨b,o,none⟩) (.int .i32 1))(hu:dw K (C::F) b o [.int .i32 0] (C'::F)):FC prog 342 #[ptr b o] K (C::F) (fun H'=>H'=C'::F):=by
 refine aC.acI func342 rfl ntmps342 rfl ?_;simp only[lH,reduceAdd];refine aj "hL" ?_;refine WL.c1 call350 rfl (KI hr hu) rfl ?_;rintro _ _ ⟨rfl,rfl⟩;refine WL.nil ?_;exact aG.normal (H':=C'::F) (bI.none rfl) cu rfl
theorem Px{b o g:Nat}{cap:List Value}{C C1 C2 C3 C4:aA}(hg:bT prog g)(Zy:Rd K (C::F) (some ⟨b,o+1,none⟩) (.int .i32 0))(hu1:dw K (C::F) b (o+1) [.int .i32 1] (C1::F))(DX:Rd K (C1::F) (some ⟨b,o+1,none⟩) (.int .i32 1))
 (hd:Rd K (C1::F) (some ⟨b,o,none⟩) (.int .u32 ((0:Nat):Int))) (hf:aC prog g cap.toArray K (C1::F) (fun v H'=>H'=C2::F)) (hu3:dw K (C2::F) b o [.int .u32 1] (C3::F)) (KX:Rd K (C3::F) (some ⟨b,o+1,none⟩) (.int .i32 1)) (hu4:dw K (C3::F) b (o+1) [.int .i32 0] (C4::F)) :
 aC prog 331 #[ptr b o,.func (.func g) #[] cap.toArray] K (C::F) (fun v H'=>v= .tuple #[]∧H'=C4::F):=by
 refine aC.aec func331 rfl ntmps331 rfl ?_;simp only[lH,reduceAdd];refine aj "eL" ?_;refine WL.c1 call341 rfl (TS DX Zy hu1) rfl ?_;rintro _ _ ⟨rfl,rfl⟩;refine aj "beL" ?_;refine WL.acD (vs:=[_]) ⟨ak rfl,trivial⟩ (aj "beL" ?_);refine WL.t1 call330 rfl (DY hd) rfl ?_;refine aj "*b2eL" ?_;refine WL.acD (vs:=[_,_]) ⟨ak rfl,ak rfl,trivial⟩ (aj "bh" ?_);refine WL.nC (first:=[]) (captured:=cap) (vs:=[]) hg (ak rfl) trivial (by simpa using hf) rfl ?_;rintro _ _ rfl;refine WL.nil ?_;exact⟨fun H'=>H'=C4::F,⟨_,_,rfl,call343,Iq (Sb hu3) fun H' hH=>by subst hH;exact⟨_,_,rfl,call342,Iq (Kn KX hu4) fun H' hH=>hH⟩⟩,fun H' hH=>by subst hH;exact⟨_,C4::F,bI.none rfl,fun w h=>h,rfl,rfl⟩⟩
theorem ae0{b o g:Nat}{cap:List Value}{C C1 C2 C3 C4:aA}(hg:bT prog g)(hd0:Rd K (C::F) (some ⟨b,o,none⟩) (.int .u32 ((0:Nat):Int)))(Zy:Rd K (C::F) (some ⟨b,o+1,none⟩) (.int .i32 0))(hu1:dw K (C::F) b (o+1) [.int .i32 1] (C1::F))(DX:Rd K (C1::F) (some ⟨b,o+1,none⟩) (.int .i32 1))
 (hd:Rd K (C1::F) (some ⟨b,o,none⟩) (.int .u32 ((0:Nat):Int))) (hf:aC prog g cap.toArray K (C1::F) (fun v H'=>H'=C2::F)) (hu3:dw K (C2::F) b o [.int .u32 1] (C3::F)) (KX:Rd K (C3::F) (some ⟨b,o+1,none⟩) (.int .i32 1)) (hu4:dw K (C3::F) b (o+1) [.int .i32 0] (C4::F)) :
 aC prog 308 #[ptr b o,.func (.func g) #[] cap.toArray] K (C::F) (fun v H'=>v= .tuple #[]∧H'=C4::F):=by
 refine aC.en func308 ntmps308 ?_;refine aj "eL" ?_;refine WL.t1 call330 rfl (DY hd0) rfl ?_;refine aj "*b2Q" ?_;refine WL.c2 call331 rfl rfl (Px hg Zy hu1 DX hd hf hu3 KX hu4) rfl ?_;rintro _ _ ⟨rfl,rfl⟩;refine WL.nil ?_;exact aG.normal (H':=C4::F) (bI.none rfl) cu ⟨rfl,rfl⟩
theorem aaC{b o:Nat}{fv:Value}(hd:Rd K F (some ⟨b,o,none⟩) (.int .u32 ((1:Nat):Int))):aC prog 308 #[ptr b o,fv] K F (fun v H'=>v= .tuple #[]∧H'=F):=by
 refine aC.en func308 ntmps308 ?_;refine aj "eL" ?_;refine WL.t1 call330 rfl (DY hd) rfl ?_;refine aj "*bOi" ?_;exact aG.normal (H':=F) (bI.none rfl) cu ⟨rfl,rfl⟩
end
def dI(done mtx:Nat)(rs st:List Nat)(rest:Value)(cnt:Nat):List Value :=
 [.int .u32 (done:Int),.int .i32 (mtx:Int),.int .u32 0]++(av .u32 rs++(av .u32 st++[rest,.i (cnt:Int)]))
theorem Iu{a vs vs' r:List Value}{o:Nat}(ha:a.length=o)(hv:vs'.length=vs.length):pU (a++(vs++r)) o vs'=a++(vs'++r):=by grind [mU,take_left',drop_drop,drop_left',append_assoc]
section
variable{K:World}{F:List aA}
theorem Tm{b T d m c:Nat}{rs rs' st:List Nat}{r:Value}(h:rs.length=64)(h':rs'.length=64):dw K (ah b T (dI d m rs st r c)::F) b 3 (av .u32 rs') (ah b T (dI d m rs' st r c)::F) :=
 dw.here (ble_eq_true_of_le (by simp only[dI,length_append,length_cons,length_nil,au,h,h'];omega)) (Iu rfl (by rw[au,au,h,h']))
theorem yZ{b T d m c:Nat}{rs st st':List Nat}{r:Value}(h:rs.length=64)(h2:st.length=8)(h':st'.length=8):dw K (ah b T (dI d m rs st r c)::F) b 67 (av .u32 st') (ah b T (dI d m rs st' r c)::F):=by
 refine dw.here (ble_eq_true_of_le (by simp only[dI,length_append,length_cons,length_nil,au,h,h2,h'];omega)) ?_;rw[dI,←append_assoc];rw[Iu (by simp only[length_append,length_cons,length_nil,au,h]) (by rw[au,au,h2,h'])];rw[dI,append_assoc]
theorem abG{b T d d' m c:Nat}{rs st:List Nat}{r:Value}:dw K (ah b T (dI d m rs st r c)::F) b 0 [.int .u32 (d':Int)] (ah b T (dI d' m rs st r c)::F) :=
 dw.here (ble_eq_true_of_le (by simp only[dI,length_append,length_cons,length_nil];omega)) rfl
theorem WJ{b T d m m' c:Nat}{rs st:List Nat}{r:Value}:dw K (ah b T (dI d m rs st r c)::F) b 1 [.int .i32 (m':Int)] (ah b T (dI d m' rs st r c)::F) :=
 dw.here (ble_eq_true_of_le (by simp only[dI,length_append,length_cons,length_nil];omega)) rfl
theorem Np{b T d m c:Nat}{rs st:List Nat}{r:Value}:Rd K (ah b T (dI d m rs st r c)::F) (some ⟨b,0,none⟩) (.int .u32 (d:Int)):=Rd.here rfl
theorem Ub{b T d m c:Nat}{rs st:List Nat}{r:Value}:Rd K (ah b T (dI d m rs st r c)::F) (some ⟨b,1,none⟩) (.int .i32 (m:Int)):=Rd.here rfl
theorem Oc{b bc Tc d m c:Nat}{rs st:List Nat}{r:Value}(h:rs.length=64)(h2:st.length=8):aC prog 309 #[ptr bc 0] K (ah b 354 (dI d m rs st r c)::ah bc Tc [ptr b 0]::F) (fun v H'=>H'=ah b 354 (dI d m rT u7 r c)::ah bc Tc [ptr b 0]::F):=by
 have Hl:u7.length=8:=by decide
 have l5:rT.length=64:=by decide
 obtain⟨ks,rR⟩:∃ks,ks=rT:=⟨_,rfl⟩;obtain⟨hs,hhs⟩:∃hs,hs=u7:=⟨_,rfl⟩;rw[←rR] at l5;rw[←hhs] at Hl;rw[←rR,←hhs];refine aC.en func309 ntmps309 ?_;refine aP "~R~~I0~~I1n2" ?_;refine WL.call (vs:=[]) call310 trivial (KT.eq (v':= .agg (av .u32 ks).toArray) (by rw[rR])) rfl ?_;rintro _ H0 ⟨rfl,h0⟩;subst H0;refine aj "bn3" ?_;refine WL.call (vs:=[]) call311 trivial (N7.eq (v':= .agg (av .u32 hs).toArray) (by rw[hhs])) rfl ?_;rintro _ H0 ⟨rfl,h0⟩;subst H0;refine aj "b@4S5n6" ?_;refine WL.store (cs:=av .u32 ks) sizeOf348 (ak rfl) (ak rfl) rfl (by rw[au];exact l5) (gW _ _) (Tm h l5) ?_;refine aj "b@7S8n9" ?_;refine WL.store (cs:=av .u32 hs) sizeOf349 (ak rfl) (ak rfl) rfl (by rw[au];exact Hl) (gW _ _) (by first | exact yZ h h2 Hl | exact yZ l5 h2 Hl) ?_;refine aj "bM" ?_;exact aG.normal (H':=_) (bI.none rfl) cu rfl
end
section
variable{K:World}{F:List aA}
theorem Qg{b c:Nat}{rs st:List Nat}{r:Value}(h:rs.length=64)(h2:st.length=8):aC prog 267 #[ptr b 0] K (ah b 354 (dI 0 0 rs st r c)::F) (fun v H'=>v= .tuple #[]∧H'=ah b 354 (dI 1 0 rT u7 r c)::F):=by
 refine aC.en func267 ntmps267 ?_;refine aj "a~h" fun b1=> ?_;refine aj "bq~~l" ?_;refine WL.val (V.load (v:=ptr b 0) isAgg301 (ak rfl) (fun _=>(Rd.here rfl).up)) rfl ?_;refine aj "L~3" ?_;refine WL.c2 call308 rfl rfl (ae0 (g:=309) (cap:=[ptr b1 0]) call309 Np Ub (WJ (m':=1)) Ub Np (Oc h h2) (abG (d':=1)) Ub (WJ (m':=0))) rfl ?_;rintro _ _ ⟨rfl,rfl⟩;refine WL.nil ?_;exact aG.normal (H':=ah b 354 (dI 1 0 rT u7 r c)::F) (bI.none rfl) (fun w h=>h.aY 2 [0] rfl) ⟨rfl,rfl⟩
theorem Rf{b c:Nat}{rs st:List Nat}{r:Value}:aC prog 267 #[ptr b 0] K (ah b 354 (dI 1 0 rs st r c)::F) (fun v H'=>v= .tuple #[]∧H'=ah b 354 (dI 1 0 rs st r c)::F):=by
 refine aC.en func267 ntmps267 ?_;refine aj "a~h" fun b1=> ?_;refine aj "bq^L~3" ?_;refine WL.c2 call308 rfl rfl (aaC (Np.up)) rfl ?_;rintro _ _ ⟨rfl,rfl⟩;refine WL.nil ?_;exact aG.normal (H':=ah b 354 (dI 1 0 rs st r c)::F) (bI.none rfl) (fun w h=>h.tail) ⟨rfl,rfl⟩
end
section
variable{K:World}{F:List aA}
theorem U4:aC prog 231 #[] K F (fun v H'=>∃b,v=ptr b 0∧H'=ah b 354 (dI 0 0 (replicate 64 0) (replicate 8 0) (.slice none 0 0) 0)::F):=by
 refine aC.en func231 ntmps231 ?_;refine aj "ax]" ?_;refine WL.box (cs:=[_,_,_,_,_,_,_,_,_,_,_,_,_,_,_,_,_,_,_,_,_,_,_,_,_,_,_,_,_,_,_,_,_,_,_,_,_,_,_,_,_,_,_,_,_,_,_,_,_,_,_,_,_,_,_,_,_,_,_,_,_,_,_,_,_,_,_,_,_,_,_,_,_,_,_,_,_]) (ak rfl) rfl rfl (fun b2=> ?_);refine aj "d" ?_;exact qR _ rfl rfl cu ⟨_,rfl,rfl⟩
end
theorem F8(f:List Nat→List Nat→List Nat)(q:Nat):∀(a b:Nat) (d s:List Nat),dB f q (a+b) d s=dB f q b (d.drop (q*a)) (dB f q a d s)
 | 0,b,d,s=>by rw[Nat.zero_add,Nat.mul_zero,drop_zero];rfl
 | a+1,b,d,s=>by
  rw[show a+1+b=a+b+1 by omega,dB,dB,F8 f q a b,drop_drop,Nat.mul_add,Nat.mul_one,Nat.add_comm q (q*a)]
theorem Du(f:List Nat→List Nat→List Nat)(q:Nat):∀(a:Nat) (d r s:List Nat),q*a≤d.length→dB f q a (d++r) s=dB f q a d s
 | 0,_,_,_,_=>rfl
 | a+1,d,r,s,h=>by
  rw[Nat.mul_add,Nat.mul_one] at h;rw[dB,dB,take_append_of_le_length ay,drop_append_of_le_length ay];exact Du f q a (d.drop q) r _ (by rw[length_drop];omega)
theorem Oj(data:List Nat):dB gN 64 ((data.length+(mg 64 8 data.length).length)/64) (data++mg 64 8 data.length) u7 =
 dB gN 64 ((data.length%64+(mg 64 8 data.length).length)/64) (data.drop (64*(data.length/64))++mg 64 8 data.length) (dB gN 64 (data.length/64) data u7):=by
 rw[show (data.length+(mg 64 8 data.length).length)/64=data.length/64+(data.length%64+(mg 64 8 data.length).length)/64 by omega,F8,Du _ _ _ _ _ _ ay,drop_append_of_le_length ay]
theorem PG{a r:List Value}{v v':Value}{o:Nat}(ha:a.length=o):pU (a++(v::r)) o [v']=a++(v'::r):=by
 have :=Iu (a:=a) (vs:=[v]) (vs':=[v']) (r:=r) ha rfl;exact this
section
variable{K:World}{F:List aA}
theorem Qk{d m c:Nat}{rs st:List Nat}{r:Value}(h:rs.length=64)(h2:st.length=8):(dI d m rs st r c).length=77:=by
 simp only[dI,length_append,length_cons,length_nil,au,h,h2]
theorem Bo(d m c:Nat)(rs st:List Nat)(r:Value):dI d m rs st r c=([.int .u32 (d:Int),.int .i32 (m:Int),.int .u32 0]++av .u32 rs++av .u32 st)++(r::[.i (c:Int)]):=by
 simp[dI]
theorem xZ(d m c:Nat)(rs st:List Nat)(r:Value):dI d m rs st r c=([.int .u32 (d:Int),.int .i32 (m:Int),.int .u32 0]++av .u32 rs++av .u32 st++[r])++((.i (c:Int))::[]):=by
 simp[dI]
theorem Jl{b T d m c:Nat}{rs st:List Nat}{r r':Value}(h:rs.length=64)(h2:st.length=8):dw K (ah b T (dI d m rs st r c)::F) b 75 [r'] (ah b T (dI d m rs st r' c)::F):=by
 refine dw.here (ble_eq_true_of_le (by rw[Qk h h2];show 75+1≤77;omega)) ?_;rw[Bo,PG (by simp only[length_append,length_cons,length_nil,au,h,h2]),←Bo]
theorem XZ{b T d m c c':Nat}{rs st:List Nat}{r:Value}(h:rs.length=64)(h2:st.length=8):dw K (ah b T (dI d m rs st r c)::F) b 76 [.i (c':Int)] (ah b T (dI d m rs st r c')::F):=by
 refine dw.here (ble_eq_true_of_le (by rw[Qk h h2];show 76+1≤77;omega)) ?_;rw[xZ,PG (by simp only[length_append,length_cons,length_nil,au,h,h2]),←xZ]
theorem qK{b T d m c:Nat}{rs st:List Nat}{r:Value}(h:rs.length=64)(h2:st.length=8):Rd K (ah b T (dI d m rs st r c)::F) (some ⟨b,75,none⟩) r:=Rd.here (by
 rw[Bo,getElem?_append_right (by simp only[length_append,length_cons,length_nil,au,h,h2];decide)];simp only[length_append,length_cons,length_nil,au,h,h2];rfl)
theorem R5{b T d m c:Nat}{rs st:List Nat}{r:Value}(h:rs.length=64)(h2:st.length=8):Rd K (ah b T (dI d m rs st r c)::F) (some ⟨b,76,none⟩) (.i (c:Int)):=Rd.here (by
 rw[xZ,getElem?_append_right (by simp only[length_append,length_cons,length_nil,au,h,h2];decide)];simp only[length_append,length_cons,length_nil,au,h,h2];rfl)
theorem Ew{b T d m c i:Nat}{rs st:List Nat}{r:Value}(h:rs.length=64)(hi:i<64):Rd K (ah b T (dI d m rs st r c)::F) (some ⟨b,3+i,none⟩) (.int .u32 ((rs.getD i 0:Nat):Int)):=Rd.here (by
 rw[dI,getElem?_append_right (by simp),getElem?_append_left (by rw[au,h];simp;omega)];have :=jG .u32 rs (i:=i) ay
 simpa using this)
theorem EG{b T d m c:Nat}{rs st:List Nat}{r:Value}(h:rs.length=64):gD K (ah b T (dI d m rs st r c)::F) b 67 (av .u32 st):=gD.here (by
 rw[dI,←append_assoc,drop_left' (by simp only[length_append,length_cons,length_nil,au,h])];exact prefix_append _ _)
end
section
variable{K:World}{F:List aA}
theorem Vm{b m cap:Nat}{A:Option Addr}{data:List Nat}(hs:Seq K F A m 1 (av .u8 data))(h8:aB 256 data)(hm:m≤100000000) :
 aC prog 232 #[ptr b 0,.slice A m cap] K (ah b 354 (dI 0 0 (replicate 64 0) (replicate 8 0) (.slice none 0 0) 0)::F) (fun v H'=>v= .i 0∧∃A' c' E,(∀H,Sl.Seq K (E::H) A' (m%64) 1 (av .u8 (data.drop (64*(m/64)))))∧m%64≤c'∧H'=E::ah b 354 (dI 1 0 rT (dB gN 64 (m/64) data u7) (.slice A' (m%64) c') m)::F):=by
 have hlen:data.length=m:=by have :=hs.len;rwa [au,Nat.mul_one] at this
 have Hl:u7.length=8:=by decide
 have l5:rT.length=64:=by decide
 refine aC.en func232 ntmps232 ?_;refine aj "af~abOZ" ?_;refine WL.c1 call267 rfl (Qg length_replicate length_replicate) rfl ?_;rintro _ _ ⟨rfl,rfl⟩;refine aj "beLco" ?_;refine WL.c2 call268 rfl rfl (YC (x:=0) (y:=m) (R5 l5 Hl) ay (XZ l5 Hl)) rfl ?_;rintro _ _ ⟨rfl,rfl⟩;refine aj "becL" ?_;refine WL.val (V.load (v:= .slice none 0 0) isAgg34 (ak rfl) (fun _=>qK l5 Hl)) rfl ?_;refine WL.mv rfl rfl ?_;refine WL.sub (H':=bq (.slice none 0 0) 5 1 0 (av .u8 [])::ah b 354 (dI 1 0 rT u7 (.slice none 0 0) (0+m))::F) (Sub.refl _) (fun w h=>h.iG _ _) ?_;refine WL.GV (m:=0) (l:=[]) underlying34 zo (ak rfl) (ak rfl) (fun A21 c21 aku ak1=> ?_) hs.up;rw[Nat.zero_add] at aku ak1 ⊢;refine aj "L" ?_;refine WL.store (cs:=[.slice A21 m c21]) sizeOf34 (ak rfl) (ak rfl) rfl rfl rfl (Jl l5 Hl).up ?_;refine aj "Bu" ?_;obtain⟨ks,rR⟩:∃ks,ks=rT:=⟨_,rfl⟩;obtain⟨R,hR⟩:∃R,R=dB gN 64 (m/64) data u7:=⟨_,rfl⟩;obtain⟨h0,hh0⟩:∃h0,h0=u7:=⟨_,rfl⟩;have ang:aB 4294967296 h0:=by rw[hh0];unfold aB;decide
 rw[←rR] at l5;rw[←hh0] at Hl;rw[←hR];rw[←hh0] at hR;rw[←rR,←hh0];refine WC.loop (σ:=(Nat×Option Addr×Nat)×List Nat×List Nat) (fun t=>[(0,ptr b 0),(4,.i 0)]) (fun t=>ah b 354 (dI 1 0 ks t.2.2 (.slice t.1.2.1 (64*t.1.1+m%64) t.1.2.2) m)::bq (.slice A21 m c21) 5 1 m (av .u8 data)::F)
  (fun t=>(∀H,Sl.Seq K (bq (.slice A21 m c21) 5 1 m (av .u8 data)::H) t.1.2.1 (64*t.1.1+m%64) 1 (av .u8 t.2.1))∧64*t.1.1+m%64≤t.1.2.2∧aB 256 t.2.1∧t.2.2.length=8∧aB 4294967296 t.2.2∧dB gN 64 t.1.1 t.2.1 t.2.2=R∧t.2.1.drop (64*t.1.1)=data.drop (64*(m/64))) (fun t=>t.1.1) ((m/64,A21,c21),data,h0) ⟨fun H=>by
   show Sl.Seq K _ A21 (64*(m/64)+m%64) 1 _;rw[div_add_mod];exact bq.seq (by rw[au,hlen,Nat.mul_one]),by show 64*(m/64)+m%64≤c21;omega,h8,Hl,ang,hR.symm,rfl⟩ bM (fun w h=>by
   have h1:=h.aY 2 [1,0] rfl;have e1:m=64*(m/64)+m%64:=(div_add_mod m 64).symm;refine Sat.aS h1 ?_;dsimp only;rw[←e1]) ?_
 rintro⟨⟨r,A8,c8⟩,dt,st⟩ ⟨Pm,Ka,Zu,qP,Nn,Hq,Gd⟩;dsimp only at Pm Ka Zu qP Nn Hq Gd ⊢;refine aj "rL" ?_;refine WL.val (V.load (v:= .slice A8 (64*r+m%64) c8) isAgg34 (ak rfl) (fun _=>qK l5 qP)) rfl ?_;refine aj "o" ?_;refine WL.val (V.anJ (j:=64) (ak rfl) (ak rfl)) rfl ?_;refine aj "k" (aX (fun aR=> ?_) fun aR=> ?_)
 ·simp only[dh] at aR;have h1:=aR;obtain⟨r,rfl⟩:∃k,r=k+1:=⟨r-1,by omega⟩;rw[dB] at Hq;refine aP "iuN~Rl0l1@2S3l4@5S6l8@9S:" ?_;refine WA.two (i:=7) (j:=11) gy (by kernel_rfl) rfl rfl ?_ ?_
  ·refine WL.val (V.gG (vs:=av .u32 st) ⟨isAgg349,sizeOf349⟩ (ak rfl) (by rw[au];exact qP) (fun _=>EG l5)) rfl ?_;refine aj "bn;" ?_;refine WL.val (V.load (v:= .slice A8 (64*(r+1)+m%64) c8) isAgg34 (ak rfl) (fun _=>qK l5 qP)) rfl ?_;refine WL.nil ?_;refine WA.t 12 rfl (V.aI (v':= .slice A8 64 c8) (V.slice (m:=64*(r+1)+m%64) (cap:=c8) (l:=0) (h:=64) (u:=c8) eu (ak rfl) OO.none (OO.some (ak rfl) (fun _=>rfl)) OO.none (by simp) ay ay ay) (fun _=>by rw[zQ,Nat.sub_zero,Nat.sub_zero])) ?_;refine WA.o 13 rfl ?_;refine WL.t3 call269 rfl rfl rfl (vF (o:=3) (s:=st) (data:=dt.take 64) (A:=A8) (fun i hi=>by rw[←rR];exact Ew l5 hi) (by have h6:=(Pm F).take (show 64≤64*(r+1)+m%64 by omega);rw[dR] at h6;exact h6.up) (fun x hx=>Zu x (mem_of_mem_take hx)) qP Nn ay) rfl ?_;refine aj "b@>S?n@" ?_;refine WL.store (cs:=av .u32 (gN st (dt.take 64))) sizeOf349 (ak rfl) (ak rfl) rfl (by rw[au,fV];rfl) (gW _ _) (yZ l5 qP (by rw[fV];rfl)) ?_;refine aj "bMQL" ?_;refine WL.val (V.load (v:= .slice A8 (64*(r+1)+m%64) c8) isAgg34 (ak rfl) (fun _=>qK l5 (by rw[fV];rfl))) rfl ?_;refine WL.val (V.slice (m:=64*(r+1)+m%64) (cap:=c8) (l:=64) (h:=64*(r+1)+m%64) (u:=c8) eu (ak rfl) (OO.some (ak rfl) (fun _=>rfl)) OO.none OO.none (by simp) ay ay ay) rfl ?_;refine aj "L" ?_;refine WL.store (cs:=[_]) sizeOf34 (ak rfl) (ak rfl) rfl rfl rfl (Jl l5 (by rw[fV];rfl)) ?_;refine aj "b~O" ?_;refine⟨((r,(if c8=64 then A8 else A8.map (·.add (64*1))),c8-64),dt.drop 64,gN st (dt.take 64)),⟨fun H=> ?_,by show 64*r+m%64≤c8-64;omega,fun x hx=>Zu x (mem_of_mem_drop hx),by show (gN _ _).length=8;rw[fV];rfl,by rw[fV];exact wB aK _ _,Hq,by show (dt.drop 64).drop (64*r)=_;rw[drop_drop,←Gd];congr 1;omega⟩,(by show r<r+1;omega),.cons rfl bM,fun w h=>Sat.aS h ?_⟩
   ·have h7:=Seq.rV (Pm H) (l:=64) (h:=64*(r+1)+m%64) (u:=c8) ay (Nat.le_refl _) Ka;have uQ:dt.length=64*(r+1)+m%64:=by have :=(Pm []).len;rwa [au,Nat.mul_one] at this
    rw[take_of_length_le (by rw[length_drop];omega),show 64*(r+1)+m%64-64=64*r+m%64 by omega] at h7;exact h7
   ·rw[show 64*(r+1)+m%64-64=64*r+m%64 by omega]
  ·refine WL.val (V.load (v:= .slice A8 (64*(r+1)+m%64) c8) isAgg34 (ak rfl) (fun _=>qK l5 qP)) rfl ?_;refine WL.nil ?_;refine WA.t 12 rfl (V.aI (v':= .slice A8 64 c8) (V.slice (m:=64*(r+1)+m%64) (cap:=c8) (l:=0) (h:=64) (u:=c8) eu (ak rfl) OO.none (OO.some (ak rfl) (fun _=>rfl)) OO.none (by simp) ay ay ay) (fun _=>by rw[zQ,Nat.sub_zero,Nat.sub_zero])) ?_;refine WA.o 7 rfl ?_;refine WL.val (V.gG (vs:=av .u32 st) ⟨isAgg349,sizeOf349⟩ (ak rfl) (by rw[au];exact qP) (fun _=>EG l5)) rfl ?_;refine aj "bn=" ?_;refine WL.t3 call269 rfl rfl rfl (vF (o:=3) (s:=st) (data:=dt.take 64) (A:=A8) (fun i hi=>by rw[←rR];exact Ew l5 hi) (by have h6:=(Pm F).take (show 64≤64*(r+1)+m%64 by omega);rw[dR] at h6;exact h6.up) (fun x hx=>Zu x (mem_of_mem_take hx)) qP Nn ay) rfl ?_;refine aj "b@>S?n@" ?_;refine WL.store (cs:=av .u32 (gN st (dt.take 64))) sizeOf349 (ak rfl) (ak rfl) rfl (by rw[au,fV];rfl) (gW _ _) (yZ l5 qP (by rw[fV];rfl)) ?_;refine aj "bMQL" ?_;refine WL.val (V.load (v:= .slice A8 (64*(r+1)+m%64) c8) isAgg34 (ak rfl) (fun _=>qK l5 (by rw[fV];rfl))) rfl ?_;refine WL.val (V.slice (m:=64*(r+1)+m%64) (cap:=c8) (l:=64) (h:=64*(r+1)+m%64) (u:=c8) eu (ak rfl) (OO.some (ak rfl) (fun _=>rfl)) OO.none OO.none (by simp) ay ay ay) rfl ?_;refine aj "L" ?_;refine WL.store (cs:=[_]) sizeOf34 (ak rfl) (ak rfl) rfl rfl rfl (Jl l5 (by rw[fV];rfl)) ?_;refine aj "b~O" ?_;refine⟨((r,(if c8=64 then A8 else A8.map (·.add (64*1))),c8-64),dt.drop 64,gN st (dt.take 64)),⟨fun H=> ?_,by show 64*r+m%64≤c8-64;omega,fun x hx=>Zu x (mem_of_mem_drop hx),by show (gN _ _).length=8;rw[fV];rfl,by rw[fV];exact wB aK _ _,Hq,by show (dt.drop 64).drop (64*r)=_;rw[drop_drop,←Gd];congr 1;omega⟩,(by show r<r+1;omega),.cons rfl bM,fun w h=>Sat.aS h ?_⟩
   ·have h7:=Seq.rV (Pm H) (l:=64) (h:=64*(r+1)+m%64) (u:=c8) ay (Nat.le_refl _) Ka;have uQ:dt.length=64*(r+1)+m%64:=by have :=(Pm []).len;rwa [au,Nat.mul_one] at this
    rw[take_of_length_le (by rw[length_drop];omega),show 64*(r+1)+m%64-64=64*r+m%64 by omega] at h7;exact h7
   ·rw[show 64*(r+1)+m%64-64=64*r+m%64 by omega]
 ·simp only[dh] at aR;have h1:=aR;refine aj "W" ?_;obtain rfl:r=0:=by omega
  rw[Nat.mul_zero,drop_zero] at Gd;rw[Nat.mul_zero,Nat.zero_add] at Ka ⊢;rw[dB] at Hq;rw[Hq];refine aj "qd" ?_;exact aG.ret (H':=bq (.slice A21 m c21) 5 1 m (av .u8 data)::ah b 354 (dI 1 0 ks R (.slice A8 (m%64) c8) m)::F) (bI.tmp rfl rfl) (fun w h=>h.aY 2 [1,0] rfl) ⟨rfl,A8,c8,_,fun H=>by have h9:=Pm H;rw[Nat.mul_zero,Nat.zero_add,Gd] at h9;exact h9,Ka,rfl⟩
end
end Go.Proofs.YtcedojacbhnbiaaGreat
namespace Go.Sl
open Go Go.RowKit Go.BigFrame Go.Proofs.YtcedojacbhnbiaaGreat List Nat
section
variable{Mo:Mode}{P:Program}{K:World}{n:Nat}{Q:fG}{e:Env}{H:List aA}{ty:TypeId}{pos:String}{af:Array Edge}{ops:Array Oper}{rest:List Oper}
theorem WL.Tp{d:Nat}{x y:Operand}{T E s bytes m q cap cap':Nat}{z:Value}{cs news:List Value}{pa:Addr}{B:Option Addr}(hT:P.underlying T=some (.slice E))(hE:dX P E s bytes z)(hx:OV true e x (.slice (some pa) m cap))(hy:OV true e y (.slice B q cap'))
 (hs:Seq K H (some pa) m s cs) (hn:Seq K H B q s news) (wI:cap<m+q) (hq0:0<q) (hb:(m+q)*bytes≤140737488355328) (J6:blt 0 bytes=true) (hd:blt d n=true)
 (h:∀A cap,(A=none→m+q=0∧cap=0)→m+q≤cap→WL Mo P K n ops rest Q ((d,.slice A (m+q) cap)::e) (bq (.slice A (m+q) cap) E s (m+q) (cs++news)::H)) :
 WL Mo P K n ops (⟨some d,.call ⟨.builtin .append,#[x,y],#[T,T]⟩,ty,pos,af,none⟩::rest) Q e H:=by
 refine WL.SS (R:=fun u H'=>∃A cap,u= .slice A (m+q) cap∧(A=none→m+q=0∧cap=0)∧m+q≤cap∧H'=bq (.slice A (m+q) cap) E s (m+q) (cs++news)::H) (fun a w ha hw=> ?_) hd (fun u H' ⟨A,cap,e1,e2,e3,e4⟩=>by subst e1 e4;exact h A cap e2 e3);obtain⟨i,hi,hz,hs',Vg,hzs,h0⟩:=hE;have SL:0<bytes:=by simpa using J6
 have hle:m+q≤140737488355328:=Nat.le_trans (Nat.le_mul_of_pos_right _ SL) hb;have afi:m+q≤maxLen:=by simp only[maxLen];omega
 have KO:=hx.ev rfl ha;have Qr:=hy.ev rfl ha;have hns:0<news.length:=by rw[hn.len];exact Nat.mul_pos hq0 h0
 obtain⟨pb,rfl,_⟩:=hn.cell hw (i:=0) (v:=news[0]) (by simp);have holds:∀j v,cs[j]? =some v→w.cell? (pa.add j)=some v:=fun j v hj=>by
  obtain⟨p,k1,k2⟩:=hs.cell hw hj;simp at k1;subst k1;exact k2
 have adh:∀j v,news[j]? =some v→w.cell? (pb.add j)=some v:=fun j v hj=>by
  obtain⟨p,k1,k2⟩:=hn.cell hw hj;simp at k1;subst k1;exact k2
 subst hs' Vg;have hr:=run_append_grow (P:=P) w T ty E i z hT hi hz pa m cap cs hs.len holds pb q cap' news hn.len adh wI ay (growslice_fits wI hb);have hge:=grownCap_ge w (m+q) cap E;have hcm:=grownCap_le_maxLen w (m+q) cap E afi;have hlen:(cs++news).length=(m+q)*i.size:=by rw[length_append,hs.len,hn.len,Nat.add_mul]
 refine⟨.slice (some ⟨w.heap.size,0,none⟩) (m+q) (grownCap w (m+q) cap E),w.drew.alloc (.cells (cs.toArray++news.toArray++Builtin.zeroCells z.cells (grownCap w (m+q) cap E-(m+q))) E),
  bq (.slice (some ⟨w.heap.size,0,none⟩) (m+q) (grownCap w (m+q) cap E)) E i.size (m+q) (cs++news)::H, ?_,⟨hw.1.grow rfl rfl rfl (by simp), ?_⟩,_,_,rfl,(fun h=>by simp at h),hge,rfl⟩
 ·rw[execOp_builtin,builtin_append];simp only[map_toArray,map_cons,map_nil,KO,Qr,Sem.run_bind,hr,Result.andThen_ok,Sem.run_pure]
 ·refine hw.2.push (by simp) (fun b tY=> ?_) ?_ (fun b tY=> ?_)
  ·exact heap_alloc_old w.drew _ tY
  ·refine⟨hlen,.inr ⟨w.heap.size,_,_,rfl,zero_le _,heap_alloc_new w.drew _,hge,hcm, ?_, ?_⟩⟩
   ·simp only[Array.size_append,size_toArray,size_zeroCells,hzs,hs.len,hn.len,←Nat.add_mul];congr 1;omega
   ·simp only[Array.toList_append,append_assoc];rw[←append_assoc,←hlen];exact take_left
  ·simp[bq,Value.ownBlock] at tY;subst tY;simp
end
section
variable{Mo:Mode}{P:Program}{K:World}{n:Nat}{Q:fG}{e:Env}{H:List aA}{ty:TypeId}{pos:String}{af:Array Edge}{ops:Array Oper}{rest:List Oper}
theorem WL.WG{d:Nat}{x y:Operand}{T E bytes m q cap':Nat}{k:IntKind}{z:Value}{l news:List Nat}{A B:Option Addr}(hT:P.underlying T=some (.slice E))(hE:dX P E 1 bytes z)(hx:OV true e x (.slice A m m))(hy:OV true e y (.slice B q cap'))
 (hs:Seq K H A m 1 (av k l)) (hn:Seq K H B q 1 (av k news)) (hq0:0<q) (hb:(m+q)*bytes≤140737488355328) (J6:blt 0 bytes=true) (hd:blt d n=true)
 (h:∀A cap,m+q≤cap→WL Mo P K n ops rest Q ((d,.slice A (m+q) cap)::e) (bq (.slice A (m+q) cap) E 1 (m+q) (av k (l++news))::H)) :
 WL Mo P K n ops (⟨some d,.call ⟨.builtin .append,#[x,y],#[T,T]⟩,ty,pos,af,none⟩::rest) Q e H:=by
 cases A with
 | some pa =>
  exact WL.Tp hT hE hx hy hs hn ay hq0 hb J6 hd fun A c _ h2=>by
   have h3:=h A c h2;rw[dA] at h3;exact h3
 | none =>
  rcases eq_zero_or_pos m with hm | hm
  case inr =>
   intro a w ha hw;have hl:=hs.len;rw[au,Nat.mul_one] at hl;obtain⟨pa,h1,_⟩:=hs.cell hw (i:=0) (v:=(av k l)[0]'(by rw[au];omega)) (by simp);cases h1
  subst hm;have hl:l=[]:=by
   have :=hs.len;rw[au,Nat.zero_mul] at this;exact eq_nil_of_length_eq_zero this
  subst hl;refine WL.sub (H':=bq (.slice none 0 0) E 1 0 (av k [])::H) (Sub.refl _) (fun w h=>h.iG _ _) ?_;refine WL.append hT hE hx hy hn (kE k news) hb J6 hd (fun A c _ h2=> ?_);exact h A c h2
end
end Go.Sl
namespace Go.Proofs.YtcedojacbhnbiaaGreat
open Go.Sl Go.RowKit Tryz List Nat
theorem Bz(s data:List Nat):(gN s data).length=8:=by rw[fV];rfl
theorem CU(s data:List Nat):aB 4294967296 (gN s data):=by grind [fV,wB]
section
variable{K:World}{F:List aA}
theorem abQ{b m q c:Nat}{A:Option Addr}{E:aA}{rest st:List Nat}(hE:∀H,Sl.Seq K (E::H) A q 1 (av .u8 rest))(h8:aB 256 rest)(hqc:q≤c)(hq:q<64)(hm:m≤100000000)(hmq:m%64=q)(dJ:st.length=8)(Pg:aB 4294967296 st) :
 aC prog 233 #[ptr b 0] K (ah b 354 (dI 1 0 rT st (.slice A q c) m)::E::F) (fun v H'=>v= .agg (av .u8 ((dB gN 64 ((q+(mg 64 8 m).length)/64) (rest++mg 64 8 m) st).flatMap fun x=>(bH 256 4 x).reverse)).toArray∧H'=ah b 354 (dI 1 0 rT st (.slice A q c) m)::E::F):=by
 have l5:rT.length=64:=by decide
 have nW:rest.length=q:=by have :=(hE []).len;rwa [au,Nat.mul_one] at this
 obtain⟨pg,GI⟩:∃pg,pg=mg 64 8 m:=⟨_,rfl⟩;have anz:aB 256 pg:=by rw[GI];exact JM _ _ _
 have aq9:(m+pg.length)%64=0:=by rw[GI];exact Qn aK aK
 have anv:0<pg.length:=by rw[GI];simp[mg]
 have aqy:pg.length≤200:=by
  rw[GI];simp only[mg,length_append,length_cons,length_replicate,length_reverse,aH];omega
 rw[←GI];obtain⟨pd,hpd⟩:∃pd,pd=rest++pg:=⟨_,rfl⟩;have rP:aB 256 pd:=by rw[hpd];exact h8.append anz
 have nu:pd.length=q+pg.length:=by rw[hpd,length_append,nW]
 have hpz:pd.length%64=0:=ay;rw[←hpd,←nu];obtain⟨R,hR⟩:∃R,R=dB gN 64 (pd.length/64) pd st:=⟨_,rfl⟩;rw[←hR];obtain⟨ks,rR⟩:∃ks,ks=rT:=⟨_,rfl⟩;rw[←rR] at l5;rw[←rR];refine aC.en func233 ntmps233 ?_;refine aP "aw" fun b2=> ?_;refine aP "Tw" fun b3=> ?_;refine aj "br~abOZ" ?_;refine WL.sub (Sub.refl _) (fun w h=>h.aY 4 [2,1,0,3] rfl) ?_;refine WL.c1 call267 rfl Rf rfl ?_;rintro _ _ ⟨rfl,rfl⟩;refine aj "beL" ?_;refine WL.val (V.gG (vs:=av .u32 st) ⟨isAgg349,sizeOf349⟩ (ak rfl) (by rw[au];exact dJ) (fun _=>EG l5)) rfl ?_;refine aP "w" fun b4=> ?_;refine aP "vB~Rl0@1S2" ?_;refine WA.t 3 rfl (V.load (v:= .slice A q c) isAgg34 (ak rfl) (fun _=>qK l5 dJ)) ?_;refine aj "l4@5S6" ?_;refine WA.t 7 rfl (V.load (v:= .slice A q c) isAgg34 (ak rfl) (fun _=>qK l5 dJ)) ?_;refine aj "~~<8l9@:S;" ?_;refine WA.t 12 rfl (V.load (v:= .slice A q c) isAgg34 (ak rfl) (fun _=>qK l5 dJ)) ?_;refine aj "~~<=" ?_;refine WA.t 14 rfl (V.aI (v':= .slice A q q) (V.slice (m:=q) (cap:=c) (l:=0) (h:=q) (u:=q) eu (ak rfl) OO.none (OO.some (ak rfl) (fun _=>rfl)) (OO.some (ak rfl) (fun _=>rfl)) (by simp) ay ay ay) (fun _=>by rw[zQ,Nat.sub_zero])) ?_;refine aj "l?@@SAnB" ?_;refine WL.t1 call271 rfl (Uo ((R5 l5 dJ).up)) rfl ?_;refine aj "bnC" ?_;refine WL.c1 call270 rfl (Ut (m:=m) ay) rfl ?_;rintro _ _ ⟨A',M,cap',hM,rfl,hMc,rfl⟩;rw[←GI] at hM ⊢;subst hM;refine aj "bnD" ?_;refine WL.WG (m:=q) (l:=rest) (news:=pg) underlying34 zo (ak rfl) (ak rfl) ((hE F).up.up.up.up.up) (bq.seq (by rw[au,Nat.mul_one])) anv ay rfl rfl (fun A20 c20 aqz=> ?_);rw[←hpd,←nu] at *
 refine aj "b~wEMNu" ?_;refine WC.loop (σ:=(Nat×Option Addr×Nat)×List Nat×List Nat) (fun t=>[(0,ptr b 0),(2,ptr b2 0),(3,ptr b3 0),(4,ptr b4 0),(5,.slice t.1.2.1 (64*t.1.1) t.1.2.2)]) (fun t=>ah b4 349 (av .u32 t.2.2)::bq (.slice A20 pd.length c20) 5 1 pd.length (av .u8 pd)::ah b 354 (dI 1 0 ks st (.slice A q c) m)::ah b3 97 (av .u8 (replicate 32 0))::ah b2 97 (av .u8 (replicate 32 0))::E::F)
  (fun t=>(∀H,Sl.Seq K (bq (.slice A20 pd.length c20) 5 1 pd.length (av .u8 pd)::H) t.1.2.1 (64*t.1.1) 1 (av .u8 t.2.1))∧64*t.1.1≤t.1.2.2∧aB 256 t.2.1∧t.2.2.length=8∧aB 4294967296 t.2.2∧dB gN 64 t.1.1 t.2.1 t.2.2=R) (fun t=>t.1.1) ((pd.length/64,A20,c20),pd,st) ⟨fun H=>by
   show Sl.Seq K _ A20 (64*(pd.length/64)) 1 _;rw[show 64*(pd.length/64)=pd.length by omega];exact bq.seq (by rw[au,Nat.mul_one]),by show 64*(pd.length/64)≤c20;omega,rP,dJ,Pg,hR.symm⟩ (.cons rfl (.cons rfl (.cons rfl (.cons rfl (.cons (look_eq rfl (by congr 1<;>(dsimp only;omega))) (.nil _)))))) (fun w h=>h.aY 7 [2,0,3,5,4,6] rfl) ?_
 rintro⟨⟨r,A8,c8⟩,dt,s8⟩ ⟨Pm,Ka,Zu,qP,Nn,Hq⟩;dsimp only at Pm Ka Zu qP Nn Hq ⊢;have uQ:dt.length=64*r:=by have :=(Pm []).len;rwa [au,Nat.mul_one] at this
 refine aP "ro~<k" (aX (fun aR=> ?_) fun aR=> ?_)
 ·simp only[dh] at aR;have h1:=aR;obtain⟨r,rfl⟩:∃k,r=k+1:=⟨r-1,by omega⟩;rw[dB] at Hq;refine aj "H" ?_;have BQ:=Bz s8 (dt.take 64);refine aP "~!F0~~11~o2" ?_;refine UA.Pz 3 rfl (fun _=>V.ji ⟨isAgg349,sizeOf349⟩ (ak rfl)) ?_;refine aP "F4" ?_;refine UA.val 5 rfl (fun _=>V.aI (v':= .slice A8 64 c8) (V.slice (m:=64*(r+1)) (cap:=c8) (l:=0) (h:=64) (u:=c8) eu (ak rfl) OO.none (OO.some (ak rfl) (fun _=>rfl)) OO.none (by simp) ay ay ay) (fun _=>by rw[zQ,Nat.sub_zero,Nat.sub_zero])) ?_;refine UA.call (vs:=[_,_,_]) 6 rfl call269 (fun _=>⟨ak rfl,ak rfl,ak rfl,trivial⟩) (fun H' hF=>vF (o:=3) (s:=s8) (data:=dt.take 64) (A:=A8) (fun i hi=>by
   have h5:Rd K (bq (.slice A20 pd.length c20) 5 1 pd.length (av .u8 pd)::ah b 354 (dI 1 0 ks st (.slice A q c) m)::ah b3 97 (av .u8 (replicate 32 0))::ah b2 97 (av .u8 (replicate 32 0))::E::F) (some ⟨b,3+i,none⟩) (.int .u32 ((ks.getD i 0:Nat):Int)):=(Ew l5 hi).up;rw[←rR];exact fun w hw=>h5 w (hF w hw)) (by have h6:=(Pm (ah b 354 (dI 1 0 ks st (.slice A q c) m)::ah b3 97 (av .u8 (replicate 32 0))::ah b2 97 (av .u8 (replicate 32 0))::E::F)).take (show 64≤64*(r+1) by omega);rw[dR] at h6;exact h6.sat hF) (fun x hx=>Zu x (mem_of_mem_take hx)) qP Nn ay) ?_
  refine UA.lV 7 rfl sizeOf349 (fun _=>ak rfl) (fun _=>ak rfl) ?_;refine aP "_" fun CJ=> ?_;simp only[map_cons,map_nil,cons_append,nil_append];refine aj "h" ?_;refine WL.val (V.slice (m:=64*(r+1)) (cap:=c8) (l:=64) (h:=64*(r+1)) (u:=c8) eu (ak rfl) (OO.some (ak rfl) (fun _=>rfl)) OO.none OO.none (by simp) ay ay ay) rfl ?_;refine aj "4" ?_;refine⟨((r,_,c8-64),dt.drop 64,gN s8 (dt.take 64)),⟨fun H=> ?_,by show 64*r≤c8-64;omega,fun x hx=>Zu x (mem_of_mem_drop hx),Bz _ _,CU _ _,Hq⟩,(by show r<r+1;omega),.cons rfl (.cons rfl (.cons rfl (.cons rfl (.cons (look_eq rfl (by congr 1<;>(dsimp only;omega))) (.nil _))))),fun w h=>h⟩;have h7:=Seq.rV (Pm H) (l:=64) (h:=64*(r+1)) (u:=c8) ay (Nat.le_refl _) Ka;rw[take_of_length_le (by rw[length_drop];omega),show 64*(r+1)-64=64*r by omega] at h7;exact h7
 ·simp only[dh] at aR;have h1:=aR;refine aj "WN" ?_;obtain rfl:r=0:=by omega
  rw[dB] at Hq;rw[Hq] at qP ⊢;obtain⟨L,hL⟩:∃L,L=R.flatMap (fun x=>(bH 256 4 x).reverse):=⟨_,rfl⟩;have hLl:L.length=32:=by rw[hL,wW,qP]
  have hLg:∀i k,i<8→k<4→L.getD (4*i+k) 0=R.getD i 0/2^(24-8*k)%256:=fun i k hi hk=>by
   rw[hL,Ep 4 R i k ay hk,show (2:Nat)^(24-8*k)=256^(4-1-k) by rw[show 24-8*k=8*(4-1-k) by omega,Nat.pow_mul]]
  rw[←hL];refine aP "qyP" ?_;refine WC.loop (σ:=Nat) (fun i=>[(2,ptr b2 0),(3,ptr b3 0),(51,.agg (av .u32 R).toArray),(52,.i ((i:Nat):Int))]) (fun i=>ah b3 97 (av .u8 (L.take (4*i)++replicate (32-4*i) 0))::ah b 354 (dI 1 0 ks st (.slice A q c) m)::ah b2 97 (av .u8 (replicate 32 0))::E::F)
   (fun i=>i≤8) (fun i=>8-i) 0 (zero_le _) bM (fun w h=>Sat.aS (h.aY 6 [3,2,4,5] rfl) (by simp)) ?_
  rintro i hi;refine aP "a~~fBE" (aX (fun bB=> ?_) fun bB=> ?_)
  ·simp only[dh] at bB;have h2:=bB;refine aP "1~~gmjbu" ?_;refine WC.loop (σ:=Nat) (fun k=>[(2,ptr b2 0),(3,ptr b3 0),(51,.agg (av .u32 R).toArray),(52,.i ((i:Nat):Int)),(6,.i ((i:Nat):Int)),(7,.int .u32 ((R.getD i 0:Nat):Int)),(56,.i ((k:Nat):Int))]) (fun k=>ah b3 97 (av .u8 (L.take (4*i+k)++replicate (32-(4*i+k)) 0))::ah b 354 (dI 1 0 ks st (.slice A q c) m)::ah b2 97 (av .u8 (replicate 32 0))::E::F)
    (fun k=>k≤4) (fun k=>4-k) 0 (zero_le _) bM cu ?_
   rintro k hk;have oJ:(L.take (4*i+k)++replicate (32-(4*i+k)) 0).length=32:=by rw[length_append,length_take,length_replicate];omega
   refine aP "a~~HBE" (aX (fun eF=> ?_) fun eF=> ?_)
   ·simp only[dh] at eF;have h3:=eF;refine aj "1gh" ?_;refine WL.val (V.Pb (i:=4) (ak rfl) (ak rfl)) rfl (aP "c~Kz~," ?_);refine WL.val (V.rV (i:=24) (ak rfl) (ak rfl)) rfl (aP "~0" ?_);refine WL.val (V.I7 (i:=R.getD i 0/2^(24-8*k)) (M:=256) runUnderlying339 runUnderlying5 (ak rfl)) rfl ?_;rw[←hLg i k h2 h3];refine aP "~x~sbq<;" ?_;refine⟨k+1,(by show k+1≤4;omega),(by show 4-(k+1)<4-k;omega),.cons rfl bM,fun w h=>Sat.aS h (by rw[qL hLl ay,Nat.add_assoc])⟩
   ·simp only[dh] at eF;have h3:=eF;refine WC.exit ?_;obtain rfl:k=4:=by omega
    refine aP "q<;" ?_;exact⟨i+1,(by show i+1≤8;omega),(by show 8-(i+1)<8-i;omega),.cons rfl bM,fun w h=>h⟩
  ·simp only[dh] at bB;have h2:=bB;refine aj "W" ?_;obtain rfl:i=8:=by omega
   rw[take_of_length_le ay,Nat.sub_self,replicate_zero,append_nil];refine aP "qyv3" ?_;exact aG.ret (H':=ah b 354 (dI 1 0 ks st (.slice A q c) m)::E::F) (bI.one rfl (R1.cO (l:=L) rfl ⟨isAgg97,sizeOf97⟩)) (fun w h=>h.aY 4 [1,3] rfl) ⟨rfl,rfl⟩
end
theorem BA:∀(k:Nat) (d s:List Nat),s.length=8→aB 4294967296 s→(dB gN 64 k d s).length=8∧aB 4294967296 (dB gN 64 k d s)
 | 0,_,_,h1,h2=>⟨h1,h2⟩
 | k+1,d,s,_,_=>by rw[dB];exact BA k _ _ (Bz _ _) (CU _ _)
theorem Iz(d:List Nat):(sum256 d).length=32:=by rw[sum256,wW,(BA _ _ _ aK (by unfold aB;decide)).1]
section
variable{K:World}{F:List aA}
theorem UU{m cap:Nat}{A:Option Addr}{data:List Nat}(hs:Seq K F A m 1 (av .u8 data))(h8:aB 256 data)(hm:m≤100000000) :
 aL prog 174 #[.slice A m cap] K F (.agg (av .u8 (sum256 data)).toArray):=by
 have hlen:data.length=m:=by have :=hs.len;rwa [au,Nat.mul_one] at this
 obtain⟨L,hL⟩:∃L,L=sum256 data:=⟨_,rfl⟩;have hLl:L.length=32:=by rw[hL];exact Iz data
 rw[←hL];rw[sum256,Oj data,hlen] at hL;obtain⟨st,dJ⟩:∃st,st=dB gN 64 (m/64) data u7:=⟨_,rfl⟩;have hw:st.length=8∧aB 4294967296 st:=by rw[dJ];exact BA _ _ _ aK (by unfold aB;decide)
 rw[←dJ] at hL;refine aC.en func174 ntmps174 ?_;refine aP "aw" fun b2=> ?_;refine aj "T" ?_;refine WL.call (vs:=[]) call231 trivial (U4) rfl ?_;rintro _ _ ⟨bh,rfl,rfl⟩;refine aj "0" ?_;refine WL.c2 call232 rfl rfl (Vm (data:=data) hs.up h8 hm) rfl ?_;rintro _ _ ⟨rfl,A',c',E,hE,hc',rfl⟩;rw[←dJ];refine aj "be" ?_;refine WL.sub (Sub.refl _) (fun w h=>h.aY 3 [1,0,2] rfl) ?_;refine WL.c1 call233 rfl (abQ hE (fun x hx=>h8 x (mem_of_mem_drop hx)) hc' (mod_lt _ aK) hm rfl hw.1 hw.2) rfl ?_;rintro _ _ ⟨rfl,rfl⟩;rw[←hL];refine WL.sub (Sub.refl _) (fun w h=>h.aY 3 [2] rfl) ?_;refine aP "v3" ?_;exact aG.ret (H':=F) (bI.one rfl (R1.cO (l:=L) rfl ⟨isAgg97,sizeOf97⟩)) gy ⟨rfl,rfl⟩
end
end Go.Proofs.YtcedojacbhnbiaaGreat
