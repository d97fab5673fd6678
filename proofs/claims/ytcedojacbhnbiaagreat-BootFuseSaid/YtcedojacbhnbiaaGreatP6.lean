import Derived.Test.YtcedojacbhnbiaaGreatP5
import Derived.Test.YtcedojacbhnbiaaGreatP3
import Derived.Recover
set_option linter.unusedSimpArgs false
set_option linter.unusedVariables false
set_option maxHeartbeats 2000000
set_option maxRecDepth 20000
namespace Go.Proofs.YtcedojacbhnbiaaGreat
open Go.Sl Go.RowKit Tryz List Nat
theorem Cw.Ok.YB{C:Cw}(hC:C.Ok)(b p:Int):bQ (C.aF.reads b p):=by
 have hr:=bL.tJ hC.aU;have hl:=hC.Ld b p;unfold aD.reads at hl ⊢;rw[mV] at hl;refine I6 (hC.Si b p) (fun i hi=> ?_);obtain⟨A,c,l,h1,h2,h3,h4,h5⟩:=hC.Rn b p;rw[←h4] at hi;have :=h3 i hi;rw[hl];omega
theorem Cw.Ok.vX{C:Cw}(hC:C.Ok)(b p:Int):ints .u8 (C.aF.reads b p)=av .u8 (C.aF.jH b p)∧aB 256 (C.aF.jH b p)∧(C.aF.jH b p).length=C.g.raw.toNat:=by
 have h:=hC.YB b p;exact⟨su h,nI h,by unfold aD.jH;rw[jO,hC.Ld]⟩
section
variable{bc bd:Nat}{C:Cw}{K:World}{F:List aA}
theorem Vn(hC:C.Ok)(b p:Int):aC prog 90 #[ptr bd 0,.i b,.i p] K (C.A bc::dH bd bc C.g::F)
 (fun v H'=>∃A' c',v= .tuple #[.slice A' (C.aF.bX b p).d.length c',.i ((C.aF.bX b p).n:Nat),.i (C.aF.bX b p).err] ∧
  H'=bq (.slice A' (C.aF.bX b p).d.length c') 5 1 (C.aF.bX b p).d.length (av .u8 (C.aF.bX b p).d)::C.A bc::dH bd bc C.g::F):=by
 obtain⟨G,hG⟩:∃G,G=C.aF.bX b p:=⟨_,rfl⟩;rw[←hG];obtain⟨r1,r2,r3⟩:=hC.vX b p;have SF:=bL.tJ hC.aU;refine aC.en func90 ntmps90 ?_;refine aj "ammfz" ?_;refine WL.t4 call154 rfl rfl rfl rfl (sj b p true) rfl ?_;refine aj "jsb~d" (aX (fun aN=> ?_) fun aN=> ?_)
 ·have h0:=aN;have hG2:G=⟨C.aF.ahead b p true,[],0⟩:=by rw[hG];unfold aD.bX;rw[if_pos h0]
  refine aj "emD" ?_;exact aG.ret (H':=bq (.slice none 0 0) 5 1 0 []::C.A bc::dH bd bc C.g::F) (bI.zR rfl rfl rfl rfl) (fun w h=>Sat.iG h _ _) ⟨none,0,by rw[hG2];rfl,by rw[hG2];rfl⟩
 ·have h0:=aN;have h0:C.aF.ahead b p true=0:=by simpa using h0
  have hG2:G=⟨(fB C.g.fl.toNat C.g.se.toNat C.g.sb.toNat (C.aF.jH b p)).err,(fB C.g.fl.toNat C.g.se.toNat C.g.sb.toNat (C.aF.jH b p)).d,(fB C.g.fl.toNat C.g.se.toNat C.g.sb.toNat (C.aF.jH b p)).n⟩:=by rw[hG];unfold aD.bX;rw[if_neg (by rw[h0];decide)];rfl
  refine aj "Z,pz" ?_;refine WL.c3 call155 rfl rfl rfl (MJ hC b p) rfl ?_;rintro _ _ (⟨_,bo,rfl,rfl⟩ | ⟨Ce,rfl,rfl⟩)
  rotate_left
  ·exact (Ce (aD.YO h0)).elim
  rw[r1];refine aj "CfsbOZLGc" ?_;refine WL.c2 call156 rfl rfl (Xx hC.aU (Seq.Gq r3) r2 rfl (Nat.le_refl _)) rfl ?_;rintro _ _ ⟨A',c',rfl,rfl⟩;refine aj "~Z~MmD" ?_;refine aG.ret (H':=bq (.slice A' G.d.length c') 5 1 G.d.length (av .u8 G.d)::C.A bc::dH bd bc C.g::F) (bI.zR rfl rfl rfl rfl) (fun w h=> ?_) ⟨A',c',by rw[hG2],rfl⟩;rw[hG2];exact h.aY 2 [0] rfl
theorem SA(hC:C.Ok)(b n:Int)(hn: -9223372036854775808≤n∧n≤9223372036854775807):aL prog 126 #[ptr bd 0,.i b,.i n] K (C.A bc::dH bd bc C.g::F) (.tuple #[.bool (C.aF.ny b n).1,.i (C.aF.ny b n).2]):=by
 have SF:=bL.tJ hC.aU;have GI:=hC.aU;unfold bL.aU at GI;refine aC.en func126 ntmps126 ?_;refine aj "amjz~ic88" ?_;refine WL.qh (oj:=_) (vs:=[_]) rfl rfl rfl GC.t call100 ⟨OV.g rfl id,trivial⟩ (fun hg=>kC) rfl ?_;refine WL.bG (oj:=_) rfl rfl rfl GC.t (V.field (OV.g rfl id) (aeG _ _ _ _ _)) rfl (aj "~~4V" ?_);refine WL.t4 call154 rfl rfl rfl rfl (sj b 0 _) rfl ?_;refine aj "tN" ?_;obtain⟨e,he⟩:∃e,e=C.aF.ahead b 0 (decide (0≤n)&&decide (n≤C.g.pg)):=⟨_,rfl⟩;rw[←he];have hW:C.aF.ny b n=if e=73 then (false,0) else if e≠0 then (false,e) else (C.aF.kW b n.toNat,0):=by unfold aD.ny;rw[he];rfl
 rw[hW];refine aj "h%b~d" (aX (fun aN=> ?_) fun aN=> ?_)
 ·rw[if_pos aN];refine aj "aD" ?_;exact aG.ret (H':=C.A bc::dH bd bc C.g::F) (bI.eY rfl rfl rfl) cu ⟨rfl,rfl⟩
 ·rw[if_neg aN];refine aj "irsb~d" (aX (fun aR=> ?_) fun aR=> ?_)
  ·rw[if_pos aR];refine aj "eD" ?_;exact aG.ret (H':=C.A bc::dH bd bc C.g::F) (bI.eY rfl rfl rfl) cu ⟨rfl,rfl⟩
  ·have he0:e=0:=by simpa using aR
   rw[if_neg (by rw[he0];decide)];obtain⟨q1,q2,q3,q4⟩:=aD.Ca (he ▸ he0:C.aF.ahead b 0 (decide (0≤n)&&decide (n≤C.g.pg))=0);simp only[Bool.and_eq_true,decide_eq_true_eq] at q3;obtain⟨k,hk⟩:∃k:Nat,n=(k:Int):=⟨n.toNat,by omega⟩;subst hk;rw[Int.toNat_natCast];refine aj "irP" ?_;refine WC.loop (σ:=Nat) (fun j=>[(0,ptr bd 0),(1,.i b),(31,.i (k:Int)),(32,.i (j:Int))]) (fun _=>C.A bc::dH bd bc C.g::F) (fun j=>j≤k∧C.aF.kW b j=true) (fun j=>k-j) 0 ⟨zero_le _,rfl⟩ bM cu ?_;rintro j ⟨hj,hjw⟩;refine aj "UX" (aX (fun bB=> ?_) fun bB=> ?_)
   ·refine aj "1t" ?_;have hjk:j<k:=ay;obtain⟨r1,r2,r3⟩:=hC.vX b (j:Int);have hre:C.aF.gU b (j:Int)=0:=by
     unfold aD.gU aD.pG aD.block;rw[if_neg (by rw[q1];decide),if_neg];have e1:C.aF.g=C.g:=rfl;simp only[e1] at q2 ⊢;simp;omega
    refine aj "h,pz" ?_;refine WL.c3 call155 rfl rfl rfl (MJ hC b (j:Int)) rfl ?_;rintro _ _ (⟨_,bo,rfl,rfl⟩ | ⟨Ce,rfl,rfl⟩)
    rotate_left
    ·exact (Ce hre).elim
    rw[r1];refine aj "CjLGc" ?_;refine WL.c2 call193 rfl rfl (Qe hC.aU (Seq.Gq r3) r2 rfl (Nat.le_refl _)) rfl ?_;rintro _ _ ⟨A',n',c',rfl,rfl⟩;refine aj "Cjsb~d" (aX (fun eF=> ?_) fun eF=> ?_)
    ·have dJ:decide (C.aF.pV b (j:Nat)=0)=false:=decide_eq_false (by intro h;exact eF (by show ((C.aF.pV b (j:Nat):Nat):Int)=0;rw[h];rfl));refine aj "aD" ?_;refine aG.ret (H':=C.A bc::dH bd bc C.g::F) (bI.eY rfl rfl rfl) (fun w h=>h.drop 1) ⟨?_,rfl⟩;have Ce:∀i,j<i→C.aF.kW b i=false:=fun i hi=>by
      induction i with
      | zero=>omega
      | succ i ih =>
       rw[aD.kW];rcases Nat.lt_or_ge j i with h | h
       ·rw[ih h];rfl
       ·obtain rfl:j=i:=by omega
        rw[dJ,Bool.and_false]
     rw[Ce k hjk]
    ·have dJ:decide (C.aF.pV b (j:Nat)=0)=true:=decide_eq_true (by have h9:=eF;simp at h9;exact h9);refine aj "i6" ?_;exact⟨j+1,⟨by omega,by rw[aD.kW,hjw,dJ];rfl⟩,(by show k-(j+1)<k-j;omega),.cons rfl bM,fun w h=>h.drop 1⟩
   ·refine aj "RaD" ?_;obtain rfl:j=k:=by omega
    exact aG.ret (H':=C.A bc::dH bd bc C.g::F) (bI.eY rfl rfl rfl) cu ⟨by rw[hjw],rfl⟩
theorem Vk(hC:C.Ok):aC prog 118 #[ptr bd 0] K (C.A bc::dH bd bc C.g::F)
 (fun v H'=>∃A' c',v= .slice A' C.aF.iF.length c'∧H'=bq (.slice A' C.aF.iF.length c') 3 1 C.aF.iF.length (ints .i64 C.aF.iF)::C.A bc::dH bd bc C.g::F):=by
 have BQ:=hC.aU;unfold bL.aU at BQ;obtain⟨n,hn⟩:∃n:Nat,C.g.bl=(n:Int):=⟨C.g.bl.toNat,by omega⟩;have SX:C.aF.iF=C.aF.fK n:=by unfold aD.iF;rw[show C.aF.g.bl=(n:Int) from hn,Int.toNat_natCast]
 rw[SX];refine aC.en func118 ntmps118 ?_;refine aj "axf" ?_;refine WL.t1 call100 rfl (kC) rfl ?_;refine WL.val (V.field (ak rfl) (aee _ _ _ _ _)) rfl (aj "P" ?_);refine WC.loop (σ:=Nat×Option Addr×Nat) (fun x=>[(0,ptr bd 0),(3,.slice x.2.1 (C.aF.fK x.1).length x.2.2),(7,.i C.g.bl),(8,.i (x.1:Int))]) (fun x=>C.A bc::bq (.slice x.2.1 (C.aF.fK x.1).length x.2.2) 3 1 (C.aF.fK x.1).length (ints .i64 (C.aF.fK x.1))::dH bd bc C.g::F) (fun x=>x.1≤n) (fun x=>n-x.1) (0,none,0) (zero_le _) bM (fun w h=>(Sat.iG h 3 1).p1) ?_;rintro⟨k,Ao,co⟩ hk;dsimp only at hk ⊢;have wR:=C.aF.jN k;refine aj "UX" (aX (fun aN=> ?_) fun aN=> ?_)
 ·refine aj "1j,p" ?_;refine WL.t1 call185 rfl (VN) rfl ?_;refine aj "c8~~B~^=8" ?_;refine WL.qh (oj:=_) (vs:=[_,_]) rfl rfl rfl GC.t call186 ⟨OV.g rfl id,OV.g rfl id,trivial⟩ (fun hg=>R4 (k:Int)) rfl ?_;refine WL.bG (oj:=_) rfl rfl rfl GC.t (V.not (OV.g rfl id)) rfl ?_;refine aj "Vk" (aX (fun aR=> ?_) fun aR=> ?_)
  ·have h1:=aR;have hgk:C.aF.fK (k+1)=C.aF.fK k++[(k:Int)]:=by rw[aD.fK,if_pos (show (C.aF.up&& !C.aF.bad (k:Int))=true from h1)]
   refine aj "Q" ?_;refine WL.buildSlice (E:=3) (cs:=[_]) (vs:=[(0,_)]) ⟨ak rfl,trivial⟩ rfl (eO _) rfl (fun b27=> ?_);refine WL.sub (Sub.refl _) (fun w h=>h.aY 4 [2,0,1,3] rfl) ?_;refine WL.append (m:=(C.aF.fK k).length) (q:=1) (news:=[.i (k:Int)]) underlying124 Td (ak rfl) (ak rfl) (Seq.all rfl) (by intro u hu;rw[mem_singleton.1 hu];rfl) ay rfl rfl (fun A' c' hA' hc'=> ?_);refine aj "g6" ?_;first
   | exact⟨(k+1,A',c'),(by show k+1≤n;omega),(by show n-(k+1)<n-k;omega),.cons rfl (.cons (look_eq rfl (by dsimp only;rw[hgk,length_append];rfl)) (.cons rfl (.cons (look_eq rfl (by simp)) (.nil _)))),fun w h=>by
    dsimp only;rw[hgk,length_append,eP];exact h.aY 4 [2,0,3] rfl⟩
   | exact⟨(k+1,Ao,co),(by show k+1≤n;omega),(by show n-(k+1)<n-k;omega),.cons rfl (.cons (look_eq rfl (by dsimp only;rw[hgk])) (.cons rfl (.cons (look_eq rfl (by simp)) (.nil _)))),fun w h=>by
    dsimp only;rw[hgk];exact h⟩
  ·have h1:=aR;have hgk:C.aF.fK (k+1)=C.aF.fK k:=by rw[aD.fK,if_neg (by rw[show (C.aF.up&& !C.aF.bad (k:Int))=false from h1];decide)]
   refine aj "i6" ?_;first
   | exact⟨(k+1,A',c'),(by show k+1≤n;omega),(by show n-(k+1)<n-k;omega),.cons rfl (.cons (look_eq rfl (by dsimp only;rw[hgk,length_append];rfl)) (.cons rfl (.cons (look_eq rfl (by simp)) (.nil _)))),fun w h=>by
    dsimp only;rw[hgk,length_append,eP];exact h.aY 4 [2,0,3] rfl⟩
   | exact⟨(k+1,Ao,co),(by show k+1≤n;omega),(by show n-(k+1)<n-k;omega),.cons rfl (.cons (look_eq rfl (by dsimp only;rw[hgk])) (.cons rfl (.cons (look_eq rfl (by simp)) (.nil _)))),fun w h=>by
    dsimp only;rw[hgk];exact h⟩
 ·refine aj "Red" ?_;obtain rfl:k=n:=by omega
  exact qR (bq (.slice Ao (C.aF.fK k).length co) 3 1 (C.aF.fK k).length (ints .i64 (C.aF.fK k))::C.A bc::dH bd bc C.g::F) rfl rfl (fun w h=>h.p1) ⟨Ao,co,rfl,rfl⟩
end
namespace aD
theorem Yp(S:aD)(b p:Int)(xs:List Int):(S.program b p xs).1.g=S.g:=by unfold program;repeat (first | rfl | split)
theorem aeJ(S:aD)(b:Int):(S.erase b).1.g=S.g:=by unfold erase;repeat (first | rfl | split)
theorem ab6(S:aD)(b:Int):(S.mark b).1.g=S.g:=by
 unfold mark all;repeat (first | rfl | split)
theorem aaV(b:Int)(x:aD×Int):(done b x).1.g=x.1.g:=by
 unfold done;split
 ·rfl
 ·split
  ·exact ab6 _ _
  ·exact ab6 _ _
theorem acy(S:aD)(b p:Int)(d:List Nat):(S.dL b p d).1.g=S.g:=by grind [dL,aaV,Yp]
theorem acd(S:aD)(b:Int):(S.cK b).1.g=S.g:=by grind [cK,aaV,aeJ]
end aD
theorem Cw.afP{C C':Cw}{S:aD}(h:C'.aF=S)(hg:S.g=C.aF.g):C'.g=C.g:=by
 have :C'.aF.g=C.aF.g:=by rw[h,hg]
 exact this
section
variable{bc bd:Nat}{C:Cw}{g:bL}{K:World}{F:List aA}
theorem NM(hC:C.Ok)(hg:C.g=g)(b p:Int){A:Option Addr}{m cap:Nat}{d:List Nat}(hd:Seq K F A m 1 (av .u8 d))(h8:aB 256 d)(O5:m≤cap)(hm:m≤1000000) :
 aC prog 124 #[ptr bd 0,.i b,.i p,.slice A m cap] K (C.A bc::dH bd bc g::F)
 (fun v H'=>∃C':Cw,C'.Ok∧C'.g=g∧H'=C'.A bc::dH bd bc g::F∧C'.aF=(C.aF.dL b p d).1∧v= .i (C.aF.dL b p d).2):=by
 subst hg;exact (R7 hC b p hd h8 O5 hm).mono fun v H' ⟨C',h1,h2,h3,h4⟩=>⟨C',h1,Cw.afP h3 (aD.acy _ _ _ _),h2,h3,h4⟩
theorem Nv(hC:C.Ok)(hg:C.g=g)(b:Int):aC prog 104 #[ptr bd 0,.i b] K (C.A bc::dH bd bc g::F)
 (fun v H'=>∃C':Cw,C'.Ok∧C'.g=g∧H'=C'.A bc::dH bd bc g::F∧C'.aF=(C.aF.cK b).1∧v= .i (C.aF.cK b).2):=by
 subst hg;exact (QT hC b).mono fun v H' ⟨C',h1,h2,h3,h4⟩=>⟨C',h1,Cw.afP h3 (aD.acd _ _),h2,h3,h4⟩
theorem xV(hC:C.Ok)(hg:C.g=g)(b p:Int):aC prog 90 #[ptr bd 0,.i b,.i p] K (C.A bc::dH bd bc g::F)
 (fun v H'=>∃A' c',v= .tuple #[.slice A' (C.aF.bX b p).d.length c',.i ((C.aF.bX b p).n:Nat),.i (C.aF.bX b p).err] ∧
  H'=bq (.slice A' (C.aF.bX b p).d.length c') 5 1 (C.aF.bX b p).d.length (av .u8 (C.aF.bX b p).d)::C.A bc::dH bd bc g::F):=by
 subst hg;exact Vn hC b p
theorem vV(hC:C.Ok)(hg:C.g=g)(b n:Int)(hn: -9223372036854775808≤n∧n≤9223372036854775807):aL prog 126 #[ptr bd 0,.i b,.i n] K (C.A bc::dH bd bc g::F) (.tuple #[.bool (C.aF.ny b n).1,.i (C.aF.ny b n).2]):=by
 subst hg;exact SA hC b n hn
theorem Fg(hC:C.Ok)(hg:C.g=g):aC prog 118 #[ptr bd 0] K (C.A bc::dH bd bc g::F)
 (fun v H'=>∃A' c',v= .slice A' C.aF.iF.length c'∧H'=bq (.slice A' C.aF.iF.length c') 3 1 C.aF.iF.length (ints .i64 C.aF.iF)::C.A bc::dH bd bc g::F):=by
 subst hg;exact Vk hC
theorem Vh(hC:C.Ok)(hg:C.g=g):aC prog 30 #[ptr bc 0] K (C.A bc::F) (fun v H'=>∃bd,v= .tuple #[ptr bd 0,.i 0]∧H'=C.A bc::dH bd bc g::F):=by
 subst hg;exact YM hC
end
theorem Yj(a b c d:Nat):(a ^^^ b) ^^^ (c ^^^ d)=(a ^^^ c) ^^^ (b ^^^ d):=by grind
theorem NP{a:Nat}(h:a<8192):red (2*a)=2*a ^^^ (if a.testBit 12=true then 8219 else 0):=by unfold red;grind
theorem aeo(a b:Nat):2*(a ^^^ b)=2*a ^^^ 2*b:=by
 apply eq_of_testBit_eq;intro i;rw[testBit_xor,Nat.mul_comm 2,Nat.mul_comm 2,Nat.mul_comm 2,←Nat.pow_one 2];rw[lW,lW,lW,testBit_xor];cases decide (1≤i)<;>simp
theorem adL{a b:Nat}(ha:a<8192)(hb:b<8192):red (2*(a ^^^ b))=red (2*a) ^^^ red (2*b):=by
 rw[NP ha,NP hb,NP (fA (k:=13) ha hb),aeo,Yj,testBit_xor];congr 1;cases a.testBit 12<;>cases b.testBit 12<;>simp
theorem Ec:∀(k o1 o2 a1 a2 b:Nat),a1<8192→a2<8192→oZ k (o1 ^^^ o2) (a1 ^^^ a2) b=oZ k o1 a1 b ^^^ oZ k o2 a2 b
 | 0,_,_,_,_,_,_,_=>rfl
 | k+1,o1,o2,a1,a2,b,h1,h2=>by
  rw[oZ,oZ,oZ];by_cases hb:b=0
  ·rw[if_pos hb,if_pos hb,if_pos hb]
  ·rw[if_neg hb,if_neg hb,if_neg hb,adL h1 h2];by_cases h3:b%2=1
   ·rw[if_pos h3,if_pos h3,if_pos h3,Yj];exact Ec k _ _ _ _ _ (vS h1) (vS h2)
   ·rw[if_neg h3,if_neg h3,if_neg h3];exact Ec k _ _ _ _ _ (vS h1) (vS h2)
theorem fC{a b:Nat}(x:Nat)(ha:a<8192)(hb:b<8192):bA (a ^^^ b) x=bA a x ^^^ bA b x:=by
 have h:=Ec 13 0 0 a b x ha hb
 rwa [Nat.xor_self] at h
theorem dZ(x:Nat):bA 0 x=0:=by
 have h:=fC (a:=0) (b:=0) x aK aK
 rwa [Nat.xor_self,Nat.xor_self] at h
def it(x:Nat):Nat→Nat→Nat
 | 0,v=>v
 | n+1,v=>it x n (bA v x)
theorem abV{x:Nat}:∀(n v:Nat),v<8192→it x n v<8192
 | 0,v,h=>h
 | n+1,v,h=>abV n _ (bD h)
theorem Ox{x:Nat}:∀(n v u:Nat),v<8192→u<8192→it x n (v ^^^ u)=it x n v ^^^ it x n u
 | 0,_,_,_,_=>rfl
 | n+1,v,u,h1,h2=>by
  rw[it,it,it,fC x h1 h2];exact Ox n _ _ (bD h1) (bD h2)
theorem qF(x:Nat):∀n,it x n 0=0
 | 0=>rfl
 | n+1=>by rw[it,dZ];exact qF x n
theorem aal(x:Nat):∀(m n v:Nat),it x (m+n) v=it x n (it x m v)
 | 0,n,v=>by rw[Nat.zero_add];rfl
 | m+1,n,v=>by rw[succ_add_eq_add_succ,add_succ,it,it];exact aal x m n _
def ev(x:Nat)(f:Nat→Bool):Nat→Nat
 | 0=>0
 | n+1=>it x n (Gx (f n)) ^^^ ev x f n
theorem vI(b:Bool):Gx b<8192:=by cases b<;>decide
theorem af0{x:Nat}{f:Nat→Bool}:∀n,ev x f n<8192
 | 0=>(by decide:0<8192)
 | n+1=>fA (k:=13) (abV _ _ (vI _)) (af0 n)
theorem Ie{x:Nat}{f:Nat→Bool}:∀(n v:Nat),v<8192→Pp f x n v=it x n v ^^^ ev x f n
 | 0,v,_=>by rw[Pp,it,ev,xor_zero]
 | n+1,v,h=>by
  rw[Pp,Ie n _ (fA (k:=13) (bD h) (vI _)),Ox n _ _ (bD h) (vI _),it,ev,Nat.xor_assoc]
theorem pE{x:Nat}{f g:Nat→Bool}:∀n,(∀i,i<n→f i=g i)→ev x f n=ev x g n
 | 0,_=>rfl
 | n+1,h=>by rw[ev,ev,h n (lt_succ_self _),pE n (fun i hi=>h i (lt_succ_of_lt hi))]
theorem H9{x:Nat}{f g:Nat→Bool}:∀n,ev x (fun i=>f i ^^ g i) n=ev x f n ^^^ ev x g n
 | 0=>(Nat.xor_self 0).symm
 | n+1=>by
  have h:Gx (f n ^^ g n)=Gx (f n) ^^^ Gx (g n):=by cases f n<;>cases g n<;>rfl
  rw[ev,ev,ev,H9 n,h,Ox _ _ _ (vI _) (vI _),Yj]
theorem acO{x:Nat}{f:Nat→Bool}{n:Nat}(h:∀i,n≤i→f i=false):∀m,ev x f (n+m)=ev x f n
 | 0=>rfl
 | m+1=>by
  rw[add_succ,ev,h _ (le_add_right _ _),show Gx false=0 from rfl,qF,zero_xor,acO h m]
theorem vL{x:Nat}{f:Nat→Bool}{n m:Nat}(h:∀i,n≤i→f i=false)(hm:n≤m):ev x f m=ev x f n:=by grind [acO,Nat.add_sub_cancel']
theorem Ck{x:Nat}{f:Nat→Bool}:∀n,(∀i,i<n→f i=false)→ev x f n=0
 | 0,_=>rfl
 | n+1,h=>by rw[ev,h n (lt_succ_self _),show Gx false=0 from rfl,qF,zero_xor,Ck n (fun i hi=>h i (lt_succ_of_lt hi))]
theorem QV{x m:Nat}{f:Nat→Bool}:∀n,ev x (fun i=>decide (m≤i)&&f (i-m)) (n+m)=it x m (ev x f n)
 | 0=>by
  rw[Nat.zero_add,Ck m (fun i hi=>by rw[decide_eq_false ay];rfl),ev,qF]
 | n+1=>by
  rw[succ_add,ev,ev,Ox _ _ _ (abV _ _ (vI _)) (af0 _),QV n,decide_eq_true ay,Bool.true_and,Nat.add_sub_cancel,aal]
theorem Mr{x m n N:Nat}{f:Nat→Bool}(hf:∀i,n≤i→f i=false)(hN:n+m≤N):ev x (fun i=>decide (m≤i)&&f (i-m)) N=it x m (ev x f n):=by
 rw[←QV n];refine vL (fun i hi=> ?_) hN;rw[hf _ ay,Bool.and_false]
theorem QW{x at_:Nat}{out p:List Nat}(ho:aB 256 out)(hp:aB 256 p)(hl:p.length+at_/8<out.length) :
 ev x (bE (mF out p at_ p.length)) (8*out.length)=ev x (bE out) (8*out.length) ^^^ it x at_ (ev x (bE p) (8*p.length)):=by
 rw[←Mr (x:=x) (m:=at_) (N:=8*out.length) (fun i hi=>kD hi) ay,←H9];refine pE _ (fun i _=> ?_);rw[xw ho hp _ hl];congr 1;by_cases h:i-at_<8*p.length
 ·rw[decide_eq_true h,Bool.and_true]
 ·rw[decide_eq_false h,Bool.and_false,Bool.false_and,kD ay,Bool.and_false]
theorem aaQ{x lq d:Nat}{p q:List Nat}(hp:aB 256 p)(hq:aB 256 q)(SN:q.length=lq)(hld:lq=d/8+1)(hx:ev x (bE q) (8*q.length)=0):∀k,k≤8*p.length-d →
 ev x (bE (gV p q lq d k)) (8*(p.length+1))=ev x (bE p) (8*p.length)
 | 0,_=>by
  rw[gV];have h1:∀i,bE (p++[0]) i=bE p i:=fun i=>by
   unfold bE;congr 1;by_cases h:i/8<p.length
   ·simp[getD,getElem?_append_left h]
   ·simp only[getD];rw[getElem?_append_right ay,getElem?_eq_none (by omega:p.length≤i/8)];rcases eq_zero_or_pos (i/8-p.length) with h2 | h2
    ·rw[h2];rfl
    ·rw[getElem?_eq_none (by simp;omega)]
  rw[pE _ (fun i _=>h1 i)];exact vL (fun i hi=>kD hi) ay
 | k+1,hk=>by
  have ih:=aaQ hp hq SN hld hx k ay;rw[gV];split
  ·have h:=QW (x:=x) (at_:=8*p.length-1-k-d) (jw (lq:=lq) (d:=d) hp hq k) hq (by rw[gu,SN];omega);rw[gu,hx,qF,xor_zero,ih,SN] at h;exact h
  ·exact ih
theorem vC{xs:List Nat}:∀n j,aT xs n≤j→j<n→xs.getD j 0=0
 | 0,_,_,h=>absurd h (not_lt_zero _)
 | n+1,j,h1,h2=>by
  rw[aT] at h1;split at h1
  ·rename_i h3;rcases Nat.lt_or_ge j n with h | h
   ·exact vC n j h1 h
   ·have :j=n:=by omega
    subst this;exact h3
  ·omega
theorem HV{xs:List Nat}{n:Nat}(hn:n=xs.length)(k:Nat):bE (xs.take (aT xs n)) k=bE xs k:=by
 unfold bE;congr 1;by_cases h:k/8<aT xs n
 ·simp[getD,getElem?_take,h]
 ·have h0:(xs.take (aT xs n)).getD (k/8) 0=0:=by simp[getD,getElem?_take,h]
  rw[h0];by_cases h2:k/8<n
  ·exact (vC n _ ay h2).symm
  ·rw[getD,getElem?_eq_none ay];rfl
theorem Qq(n k:Nat):bE (replicate n 0) k=false:=by unfold bE;grind
theorem TQ(xs:List Nat)(n k:Nat):bE (xs++replicate n 0) k=bE xs k:=by unfold bE;grind
theorem Ve(t i:Nat):bE (dV t) i=decide (i=13*t):=by unfold bE dV aM;grind
theorem MI{t:Nat}{d:List Nat}:∀i,lG (dV t) d i=if i≤13*t then replicate ((dV t).length+d.length+1) 0 else mF (replicate ((dV t).length+d.length+1) 0) d (13*t) d.length
 | 0=>by rw[lG,if_pos (zero_le _)]
 | i+1=>by
  rw[lG,MI i,Ve];by_cases h:i=13*t
  ·rw[decide_eq_true h,if_pos rfl,if_pos ay,if_neg ay,h]
  ·rw[decide_eq_false h];by_cases h2:i≤13*t
   ·rw[if_neg Bool.false_ne_true,if_pos h2,if_pos ay]
   ·rw[if_neg Bool.false_ne_true,if_neg h2,if_neg ay]
def YS(t:Nat):Bool:=(List.range (2*t)).all fun k=>decide (Pp (bE (fO t)) (dW ((k+1:Nat):Int)) (8*(fO t).length) 0=0)
theorem Zj:[1,2,3,4,5,6,7,8].all YS=true:=by kernel_rfl
theorem aaT{t k:Nat}(ht:1≤t∧t≤8)(hk:k<2*t):ev (dW ((k+1:Nat):Int)) (bE (fO t)) (8*(fO t).length)=0:=by
 have h:=all_eq_true.1 Zj t (by simp only[mem_cons,not_mem_nil,or_false];omega);have h1:=of_decide_eq_true (all_eq_true.1 h k (mem_range.2 hk));rw[Ie _ _ aK,qF,zero_xor] at h1;exact h1
theorem TH(t:Nat)(d:List Nat):jl (dV t) d=mF (replicate ((dV t).length+d.length+1) 0) d (13*t) d.length:=by
 unfold jl;rw[MI,if_neg];rw[lT];unfold aM;omega
theorem aeI{x t:Nat}{d:List Nat}(hd:aB 256 d):ev x (bE (jK t d)) (8*(jK t d).length)=it x (13*t) (ev x (bE d) (8*d.length)):=by
 have hl:(jl (dV t) d).length=(dV t).length+d.length+1:=iZ _ _ _;have h1:∀k,bE (jK t d) k=bE (jl (dV t) d) k:=fun k=>by unfold jK;exact HV hl.symm k
 have h2:=QW (x:=x) (at_:=13*t) (out:=replicate ((dV t).length+d.length+1) 0) (p:=d) (aB.vg aK) hd (by rw[length_replicate,lT];unfold aM;omega);rw[←TH,Ck _ (fun i _=>Qq _ i),zero_xor,length_replicate,←hl] at h2;rw[←h2,←vL (x:=x) (f:=bE (jK t d)) (n:=8*(jK t d).length) (m:=8*(jl (dV t) d).length) (fun i hi=>kD hi) (by unfold jK;rw[length_take];omega)];exact pE _ (fun i _=>h1 i)
theorem Ji{t:Nat}{d:List Nat}(k:Nat):bE (jg t d) k=bE (xX t d) k:=by grind [jg,TQ,jY,HV,qD]
theorem uK{t:Nat}{d:List Nat}(ht:1≤t∧t≤8)(hd:aB 256 d){k:Nat}(hk:13*t≤k):bE (jg t d) k=false:=by
 obtain⟨g1,g2,g3,g4,g5⟩:=uh ht;rw[Ji];exact MN (o7 hd) g5 rfl g3 g4 hk
theorem VD{t k:Nat}{d:List Nat}(ht:1≤t∧t≤8)(hd:aB 256 d)(hk:k<2*t) :
 Pp (G6 t d (jg t d)) (dW ((k+1:Nat):Int)) (13*t+8*d.length) 0=0:=by
 obtain⟨g1,g2,g3,g4,g5⟩:=uh ht;obtain⟨x,hx⟩:∃x,x=dW ((k+1:Nat):Int):=⟨_,rfl⟩;have hr:=aaT ht hk;rw[←hx] at hr ⊢;rw[Ie _ _ aK,qF,zero_xor];have h1:∀i,G6 t d (jg t d) i=((decide (13*t≤i)&&bE d (i-13*t)) ^^ bE (jg t d) i):=fun i=>by
  unfold G6;by_cases h:13*t≤i
  ·rw[if_pos h,decide_eq_true h,Bool.true_and,uK ht hd h,Bool.xor_false]
  ·rw[if_neg h,decide_eq_false h,Bool.false_and,Bool.false_xor]
 rw[pE _ (fun i _=>h1 i),H9,Mr (n:=8*d.length) (fun i hi=>kD hi) ay];have h2:ev x (bE (jg t d)) (13*t+8*d.length)=ev x (bE (jg t d)) (13*t):=vL (fun i hi=>uK ht hd hi) ay;have h3:ev x (bE (xX t d)) (8*((jK t d).length+1))=ev x (bE (jK t d)) (8*(jK t d).length):=aaQ (o7 hd) g5 rfl g3 hr _ (Nat.le_refl _);have h4:ev x (bE (xX t d)) (8*((jK t d).length+1))=ev x (bE (jg t d)) (13*t):=by
  rw[←pE _ (fun i _=>Ji (t:=t) (d:=d) i)];rcases Nat.le_total (13*t) (8*((jK t d).length+1)) with h | h
  ·exact vL (fun i hi=>uK ht hd hi) h
  ·refine (vL (fun i hi=> ?_) h).symm;rw[Ji];exact kD (by rw[qD];exact hi)
 rw[h2,←h4,h3,aeI hd,Nat.xor_self]
theorem XK{x j:Nat}(hx:x<256)(hj:x.testBit j=false):IL x j=x:=by
 unfold IL;apply eq_of_testBit_eq;intro i;rw[testBit_and,testBit_xor,testBit_two_pow];by_cases h8:i<8
 ·have :(255:Nat).testBit i=true:=by
   have :∀i,i<8→(255:Nat).testBit i=true:=by decide
   exact this i h8
  rw[this];by_cases h:j=i
  ·subst h;rw[hj];rfl
  ·rw[decide_eq_false h];simp
 ·rw[kX hx ay,Bool.false_and]
theorem ab8{xs:List Nat}{i:Nat}:xs.set i (xs.getD i 0)=xs:=by
 apply ext_getElem?;intro k;rw[getElem?_set];by_cases h:i=k
 ·subst h;by_cases hl:i<xs.length
  ·simp[getD,hl]
  ·simp[getElem?_eq_none (Nat.le_of_not_lt hl),hl]
 ·simp[h]
theorem FT{m:List Nat}{i0:Nat}(hm:aB 256 m)(h:∀k,i0≤k→bE m k=false):∀k,iJ m i0 k=m
 | 0=>rfl
 | k+1=>by
  rw[iJ,FT hm h k,XK (hm.at_ aK _) (h (i0+k) ay),ab8]
theorem Xn{t:Nat}{d:List Nat}(ht:1≤t∧t≤8)(hd:aB 256 d):iq t (jg t d)=jg t d:=FT (Bb ht hd) (fun k hk=>uK ht hd hk) _
theorem JF{t:Nat}{d:List Nat}(ht:1≤t∧t≤8)(hd:aB 256 d):iB t (d,jg t d)=replicate (2*t) 0:=by
 unfold iB qb;apply ext_getElem
 ·simp
 ·intro i h1 h2;simp only[getElem_map,getElem_range,getElem_replicate];exact VD ht hd (by simpa using h1)
theorem JO(m:Nat):∀n,jV (replicate m 0) n=⟨[1],[1],0,n+1,1⟩
 | 0=>rfl
 | n+1=>by
  have h0:(replicate m 0).getD n 0=0:=by
   by_cases h:n<m<;>simp[getD,getElem?_replicate,h]
  rw[jV,JO m n];unfold w9;rw[if_pos];show yC _ _ _ (min 0 _)=0;rw[Nat.zero_min];exact h0
theorem Xq(m:Nat):uD (replicate m 0)=[1]∧wN (replicate m 0)=1:=by
 have h:uD (replicate m 0)=[1]:=by unfold uD;rw[JO]
 refine⟨h, ?_⟩;unfold wN;rw[h];rfl
theorem K7(t:Nat)(p:LL):∀k,dx t [1] 1 p k=(p,0)
 | 0=>rfl
 | k+1=>by
  rw[dx,if_neg,K7 t p k];unfold wu;rw[JU,dZ];show ¬decide ((0 ^^^ 1:Nat)=0)=true;decide
theorem BI:∀m,rM (replicate m 0)=0
 | 0=>rfl
 | m+1=>by rw[replicate_succ,rM,BI m];rfl
theorem aeX{t:Nat}{d:List Nat}(ht:1≤t∧t≤8)(hd:aB 256 d):rW t d (jg t d)=some ((d,jg t d),0):=by
 obtain⟨l1,l2⟩:=Xq (2*t);unfold rW;rw[Xn ht hd,JF ht hd,l1,l2,K7,if_neg ay,if_neg (fun h=>h rfl),if_neg];show ¬0<rM (iV (iB t (d,jg t d)));rw[JF ht hd];unfold iV;rw[map_replicate,show nz 0=0 from rfl,BI];decide
theorem Ir{t B:Nat}{d:List Nat}:∀(S j:Nat),j<S→∃rest,Et t B d S=Et t B d j++((gH B d j++jg t (gH B d j))++rest)
 | 0,j,h=>absurd h (not_lt_zero _)
 | S+1,j,h=>by
  rw[Et];rcases Nat.lt_or_ge j S with h1 | h1
  ·obtain⟨r,hr⟩:=Ir S j h1;exact⟨r++(gH B d S++jg t (gH B d S)),by rw[hr];simp only[append_assoc]⟩
  ·have :j=S:=by omega
   subst this;exact⟨[],by simp only[append_assoc,append_nil]⟩
section
variable{t B S:Nat}{d:List Nat}
theorem yB(ht:1≤t∧t≤8)(h8:aB 256 d)(hl:d.length=S*B){j:Nat}(hj:j<S) :
 CG B (B+aM t) (nU t S B d) j=gH B d j∧RI B (B+aM t) (nU t S B d) j=jg t (gH B d j):=by
 obtain⟨r,hr⟩:=Ir (t:=t) (B:=B) (d:=d) S j hj;have h1:=oO ht h8 hl j ay;have h2:=sJ hl hj;have h3:=sS ht (jr h8 j (B:=B));have alH:(nU t S B d).drop (j*(B+aM t))=gH B d j++(jg t (gH B d j)++(r++[0])):=by
  unfold nU;rw[hr,append_assoc,drop_left' h1];simp only[append_assoc]
 unfold CG RI;rw[alH];refine⟨take_left' h2, ?_⟩;rw[drop_left' h2,Nat.add_sub_cancel_left];exact take_left' h3
theorem Fv(ht:1≤t∧t≤8)(h8:aB 256 d)(hl:d.length=S*B):gL t S (B+aM t) (nU t S B d)=0:=by
 have h1:=oO ht h8 hl S (Nat.le_refl _);unfold gL nU;rw[if_pos];rw[getD,getElem?_append_right ay,h1,Nat.sub_self];rfl
theorem Fe(ht:1≤t∧t≤8)(h8:aB 256 d):∀(k j:Nat) (acc:List Nat),jT ((range' j k).map fun i=>some ((gH B d i,jg t (gH B d i)),0)) acc 0=⟨0,acc++(d.drop (j*B)).take (k*B),0⟩
 | 0,j,acc=>by simp[jT]
 | k+1,j,acc=>by
  rw[range'_succ,map_cons,jT,Nat.max_self,Fe ht h8 k (j+1) _];congr 1;rw[append_assoc];congr 1;unfold gH;rw[show (k+1)*B=B+k*B by rw[succ_mul,Nat.add_comm],take_add,drop_drop,succ_mul]
theorem YE(ht:1≤t∧t≤8)(h8:aB 256 d)(hl:d.length=S*B):fB t S B (nU t S B d)=⟨0,d,0⟩:=by
 unfold fB;rw[if_neg (fun h=>h (Fv ht h8 hl))];have h1:(List.range S).map (BG t B (B+aM t) (nU t S B d))=(range' 0 S).map fun i=>some ((gH B d i,jg t (gH B d i)),0):=by
  rw[←range_eq_range'];apply map_congr_left;intro j hj;have hj:=mem_range.1 hj;unfold BG;obtain⟨e1,e2⟩:=yB ht h8 hl hj;rw[e1,e2,aeX ht (jr h8 j)]
 rw[h1,Fe ht h8 S 0 []];rw[Nat.zero_mul,drop_zero,nil_append,←hl,take_length]
end
structure Hd where
 (aV len num:Int)
 deriving DecidableEq
abbrev Hd.v(h:Hd):Value:= .agg #[.i h.aV,.i h.len,.i h.num]
def bL.cap(g:bL):Int:=(g.pg-1)*g.room
def bL.bO(g:bL)(n:Int):Int:=(n+g.room-1)/g.room
def bL.fits(g:bL)(n:Int):Bool:=decide (0≤n)&&decide (n≤g.cap)
def Hd.may(g:bL)(h:Hd):Bool:=g.fits h.len&&decide (0≤h.aV)&&decide (h.aV<64)&&decide (1≤h.num)&&decide (h.num≤1000000000)
def NY(n:Int):List Nat:=[n.toNat%256,n.toNat/256%256,n.toNat/65536%256,n.toNat/16777216%256]
def jX(g:bL)(h:Hd):List Nat:=[99,97,115,101]++NY h.aV++NY h.len++NY h.num++replicate (g.room.toNat-16) 0
def Bl(d:List Nat)(i:Nat):Int:=((d.getD i 0+256*d.getD (i+1) 0+65536*d.getD (i+2) 0+16777216*d.getD (i+3) 0:Nat):Int)
def D8(d:List Nat):Hd:=⟨Bl d 4,Bl d 8,Bl d 12⟩
def jA(g:bL)(d:List Nat):Option Hd:=if (D8 d).may g&&decide (jX g (D8 d)=d) then some (D8 d) else none
theorem EF(n:Int):aB 256 (NY n):=fun x hx=>by
 unfold NY at hx;simp only[mem_cons,not_mem_nil,or_false] at hx;rcases hx with rfl | rfl | rfl | rfl<;>exact mod_lt _ aK
theorem yu(g:bL)(h:Hd):aB 256 (jX g h):=by
 unfold jX;refine aB.append (aB.append (aB.append (aB.append ?_ (EF _)) (EF _)) (EF _)) (aB.vg aK);intro x hx;simp only[mem_cons,not_mem_nil,or_false] at hx;omega
theorem qz{g:bL}(hg:g.aU)(h:Hd):(jX g h).length=g.room.toNat:=by
 unfold jX NY;unfold bL.aU at hg;simp only[length_append,length_cons,length_nil,length_replicate];have :16≤g.room:=by unfold bL.room;omega
 omega
theorem bL.jW{g:bL}(hg:g.aU):16≤g.room∧g.room≤4096:=by
 unfold bL.aU at hg;have :=bL.Bt (a:=g.se) (b:=g.sb) (A:=8) (B:=512) ay ay ay ay;unfold bL.room;omega
theorem bL.tO{g:bL}(hg:g.aU):16≤g.cap∧g.cap≤258048:=by
 have h1:=bL.jW hg;unfold bL.aU at hg;have h2:=bL.Bt (a:=g.pg-1) (b:=g.room) (A:=63) (B:=4096) ay ay ay ay;have h3:1*g.room≤(g.pg-1)*g.room:=Int.mul_le_mul_of_nonneg_right ay ay;unfold bL.cap;omega
theorem OG{n:Int}(h0:0≤n)(h:n<4294967296)(p q:List Nat):Bl (p++(NY n++q)) p.length=n:=by
 unfold Bl NY;have e:∀i,(p++([n.toNat%256,n.toNat/256%256,n.toNat/65536%256,n.toNat/16777216%256]++q)).getD (p.length+i) 0=([n.toNat%256,n.toNat/256%256,n.toNat/65536%256,n.toNat/16777216%256]++q).getD i 0:=fun i=>by
  simp[getD,getElem?_append_right]
 have e0:=e 0;rw[Nat.add_zero] at e0;rw[e0,e 1,e 2,e 3];simp only[cons_append,getD_cons_zero,getD_cons_succ];omega
theorem Na{g:bL}{h:Hd}(hm:h.may g=true)(hg:g.aU):D8 (jX g h)=h:=by
 have hc:=bL.tO hg;unfold Hd.may bL.fits at hm;simp only[Bool.and_eq_true,decide_eq_true_eq] at hm;unfold D8 jX;have h1:=OG (n:=h.aV) ay ay [99,97,115,101] (NY h.len++(NY h.num++replicate (g.room.toNat-16) 0));have h2:=OG (n:=h.len) ay ay ([99,97,115,101]++NY h.aV) (NY h.num++replicate (g.room.toNat-16) 0);have h3:=OG (n:=h.num) ay ay ([99,97,115,101]++NY h.aV++NY h.len) (replicate (g.room.toNat-16) 0);simp only[←append_assoc] at h1 h2 h3;rw[show ([99,97,115,101]:List Nat).length=4 from rfl] at h1;rw[show (([99,97,115,101]:List Nat)++NY h.aV).length=8 from rfl] at h2;rw[show (([99,97,115,101]:List Nat)++NY h.aV++NY h.len).length=12 from rfl] at h3;rw[h1,h2,h3]
theorem xK{g:bL}{h:Hd}(hm:h.may g=true)(hg:g.aU):jA g (jX g h)=some h:=by
 unfold jA;rw[Na hm hg,hm,decide_eq_true rfl];rfl
section
variable{g:bL}{K:World}{F:List aA}
theorem l6(hg:g.aU):aL prog 122 #[g.v] K F (.tuple #[.i g.room,.i 0]):=(JA g).eq (by rw[show g.may=true from decide_eq_true hg];rfl)
theorem RA(hg:g.aU):aL prog 110 #[g.v] K F (.tuple #[.i g.cap,.i 0]):=by
 have hc:=bL.tO hg;have wS:=hg;unfold bL.aU at wS;have hmx:max (g.pg-1) 0=g.pg-1:=ay;refine aC.en func110 ntmps110 ?_;refine aj "a&" fun b1=> ?_;refine aj "mxG" ?_;refine WL.t1 call122 rfl (l6 hg) rfl ?_;refine aj "Cxp(~~oc" ?_;refine WL.val (V.aI (v':= .i g.cap) (V.OD (ak rfl) (ak rfl) (fun _=>by rw[hmx];unfold bL.cap at hc;omega)) (fun _=>by rw[hmx];rfl)) rfl ?_;refine aj "cD" ?_;exact aG.ret (H':=F) (bI.eY rfl rfl rfl) (fun w h=>h.drop 1) ⟨rfl,rfl⟩
theorem BN(hg:g.aU){n:Int}(hn:n≤1099511627776):aL prog 92 #[g.v,.i n] K F (.tuple (if g.fits n then #[.i (g.bO n),.i 0] else #[.i 0,.i 1])):=by
 have hc:=bL.tO hg;have hr:=bL.jW hg;refine aC.en func92 ntmps92 ?_;refine aj "a&" fun b2=> ?_;refine aj "mxG" ?_;refine WL.t1 call110 rfl (RA hg) rfl ?_;refine aj "CfscY~_JcYY~~^Jk" (aX (fun aN=> ?_) fun aN=> ?_)
 ·have h0:=aN;have he:g.fits n= !(!decide ((0:Int)=0)||decide (n<0)||decide (g.cap<n)):=by
   unfold bL.fits;by_cases h1:0≤n<;>by_cases h2:n≤g.cap<;>simp[h1,h2]<;>omega
  have hf:=he;rw[h0] at hf;rw[hf];refine aj "aD" ?_;exact aG.ret (H':=F) (bI.eY rfl rfl rfl) (fun w h=>h.drop 1) ⟨rfl,rfl⟩
 ·have h0:=aN;have he:g.fits n= !(!decide ((0:Int)=0)||decide (n<0)||decide (g.cap<n)):=by
   unfold bL.fits;by_cases h1:0≤n<;>by_cases h2:n≤g.cap<;>simp[h1,h2]<;>omega
  have hf:=he;rw[h0] at hf;rw[hf];have hfb:=hf;unfold bL.fits at hfb;simp only[Bool.not_false,Bool.and_eq_true,decide_eq_true_eq] at hfb;refine aj "iaG" ?_;refine WL.t1 call122 rfl (l6 hg) rfl ?_;refine aj "C0.(c~7D" ?_;exact aG.ret (H':=F) (bI.eY rfl rfl rfl) (fun w h=>h.drop 1) ⟨rfl,rfl⟩
theorem aaE(hg:g.aU)(h:Hd)(hn:h.len≤1099511627776):aL prog 189 #[g.v,h.v] K F (.bool (h.may g)):=by
 obtain⟨e,he⟩:∃e:Int,e=if g.fits h.len then 0 else 1:=⟨_,rfl⟩
 obtain⟨pn,hp⟩:∃pn:Int,pn=if g.fits h.len then g.bO h.len else 0:=⟨_,rfl⟩
 refine aC.en func189 ntmps189 ?_;refine aj "a&" fun b2=> ?_;refine aj "~~0" fun b3=> ?_;refine aj "xGp" ?_;refine WL.t2 call92 rfl rfl (aL.eq (v':= .tuple #[.i pn,.i e]) (BN hg hn) (by rw[hp,he];cases g.fits h.len<;>rfl)) rfl ?_;refine aj "Cj%c?=~LVc?=~~~eVc?=~LVc?=~VVd>" ?_;unfold Hd.may;congr 1;cases hf:g.fits h.len with
 | true=>rw[hf] at he;rw[he];rfl
 | false=>rw[hf] at he;rw[he];rfl
def zS(n:Int):List Value:=[.int .u8 (IntKind.u8.wrap n),.int .u8 (IntKind.u8.wrap (n.fdiv (2^(min (8:Int).toNat IntKind.i64.bits)))),.int .u8 (IntKind.u8.wrap (n.fdiv (2^(min (16:Int).toNat IntKind.i64.bits)))),.int .u8 (IntKind.u8.wrap (n.fdiv (2^(min (24:Int).toNat IntKind.i64.bits))))]
theorem VG(n:Int):IntKind.u8.wrap n=n%256:=by grind [IntKind.wrap,IntKind.bits,IntKind.signed]
theorem Ey{n:Int}(h:0≤n):zS n=av .u8 (NY n):=by
 unfold zS NY av;rw[VG,VG,VG,VG,show (2:Int)^(min (8:Int).toNat IntKind.i64.bits)=256 from rfl,show (2:Int)^(min (16:Int).toNat IntKind.i64.bits)=65536 from rfl,show (2:Int)^(min (24:Int).toNat IntKind.i64.bits)=16777216 from rfl,
  Int.fdiv_eq_ediv_of_nonneg _ aK,Int.fdiv_eq_ediv_of_nonneg _ aK,Int.fdiv_eq_ediv_of_nonneg _ aK]
 simp only[map_cons,map_nil];congr 1
 ·congr 1;omega
 congr 1
 ·congr 1;omega
 congr 1
 ·congr 1;omega
 congr 1;congr 1;omega
theorem uM(n:Int):∀u∈zS n,u.oneCell'=true:=by unfold zS;simp[Value.oneCell']
theorem abz{A B:Option Addr}{cs:List Value}{x y z:Int}(hs:Seq K F A 4 1 cs)(hq:Seq K F B 3 1 [.i x,.i y,.i z]) :
 aC prog 190 #[.slice A 4 4,.slice B 3 3] K F (fun v H'=>∃A' c',v= .slice A' 16 c'∧H'=bq (.slice A' 16 c') 5 1 16 (cs++zS x++zS y++zS z)::F):=by
 have rQ:=hs.len;have rd:∀(i:Nat) v,[Value.int .i64 x,.i y,.i z][i]? =some v→Rd K F (B.map (·.add (i*1))) v:=fun i v hi=>by rw[Nat.mul_one];exact hq.rd i v hi
 refine aC.en func190 ntmps190 ?_;refine aj "afoP" ?_;refine WC.rounds 4 (aj "U2Ha" ?_);refine WL.val (V.eD fZ (ak rfl) (ak rfl) (fun _=>by decide) (fun _=>by first | exact rd 0 _ rfl | exact Rd.up (rd 1 _ rfl) | exact Rd.up (Rd.up (rd 1 _ rfl)) | exact Rd.up (Rd.up (rd 2 _ rfl)) | exact Rd.up (Rd.up (Rd.up (rd 2 _ rfl))) | exact Rd.up (Rd.up (Rd.up (Rd.up (rd 2 _ rfl)))))) rfl ?_;refine WL.val (V.load isAgg3 (ak rfl) (fun _=>by first | exact rd 0 _ rfl | exact Rd.up (rd 1 _ rfl) | exact Rd.up (Rd.up (rd 1 _ rfl)) | exact Rd.up (Rd.up (rd 2 _ rfl)) | exact Rd.up (Rd.up (Rd.up (rd 2 _ rfl))) | exact Rd.up (Rd.up (Rd.up (Rd.up (rd 2 _ rfl)))))) rfl ?_;refine aj "gQ~rc~:~rc~:~rc~:~r" ?_;refine WL.buildSlice (E:=5) (cs:=[_,_,_,_]) (vs:=[(0,_),(1,_),(2,_),(3,_)]) ⟨ak rfl,ak rfl,ak rfl,ak rfl,trivial⟩ rfl (gK _ _ _ _) rfl (fun b25=> ?_);first
 | refine WL.y8 (m:=4) (q:=4) (cs:=cs) (news:=zS x) underlying34 zo (ak rfl) (ak rfl) (by repeat (first | exact hs | apply Seq.up)) (Seq.all rfl) aK aK aK aK rfl rfl (fun A1 c1 hA1 aR=> ?_)
 | (
  refine WL.sub (Sub.refl _) (fun w h=>h.aY 2 [1,0] rfl) ?_;refine WL.append (m:=8) (q:=4) (news:=zS y) underlying34 zo (ak rfl) (ak rfl) (Seq.all rfl) (uM _) aK rfl rfl (fun A2 c2 Pq bB=> ?_))
 | (
  refine WL.sub (Sub.refl _) (fun w h=>h.aY 2 [1,0] rfl) ?_;refine WL.append (m:=12) (q:=4) (news:=zS z) underlying34 zo (ak rfl) (ak rfl) (Seq.all rfl) (uM _) aK rfl rfl (fun A3 c3 MV eF=> ?_))
 refine aj "gq~F~qU2Ha" ?_;refine WL.val (V.eD fZ (ak rfl) (ak rfl) (fun _=>by decide) (fun _=>by first | exact rd 0 _ rfl | exact Rd.up (rd 1 _ rfl) | exact Rd.up (Rd.up (rd 1 _ rfl)) | exact Rd.up (Rd.up (rd 2 _ rfl)) | exact Rd.up (Rd.up (Rd.up (rd 2 _ rfl))) | exact Rd.up (Rd.up (Rd.up (Rd.up (rd 2 _ rfl)))))) rfl ?_;refine WL.val (V.load isAgg3 (ak rfl) (fun _=>by first | exact rd 0 _ rfl | exact Rd.up (rd 1 _ rfl) | exact Rd.up (Rd.up (rd 1 _ rfl)) | exact Rd.up (Rd.up (rd 2 _ rfl)) | exact Rd.up (Rd.up (Rd.up (rd 2 _ rfl))) | exact Rd.up (Rd.up (Rd.up (Rd.up (rd 2 _ rfl)))))) rfl ?_;refine aj "gQ~rc~:~rc~:~rc~:~r" ?_;refine WL.buildSlice (E:=5) (cs:=[_,_,_,_]) (vs:=[(0,_),(1,_),(2,_),(3,_)]) ⟨ak rfl,ak rfl,ak rfl,ak rfl,trivial⟩ rfl (gK _ _ _ _) rfl (fun b25=> ?_);first
 | refine WL.y8 (m:=4) (q:=4) (cs:=cs) (news:=zS x) underlying34 zo (ak rfl) (ak rfl) (by repeat (first | exact hs | apply Seq.up)) (Seq.all rfl) aK aK aK aK rfl rfl (fun A1 c1 hA1 aR=> ?_)
 | (
  refine WL.sub (Sub.refl _) (fun w h=>h.aY 2 [1,0] rfl) ?_;refine WL.append (m:=8) (q:=4) (news:=zS y) underlying34 zo (ak rfl) (ak rfl) (Seq.all rfl) (uM _) aK rfl rfl (fun A2 c2 Pq bB=> ?_))
 | (
  refine WL.sub (Sub.refl _) (fun w h=>h.aY 2 [1,0] rfl) ?_;refine WL.append (m:=12) (q:=4) (news:=zS z) underlying34 zo (ak rfl) (ak rfl) (Seq.all rfl) (uM _) aK rfl rfl (fun A3 c3 MV eF=> ?_))
 refine aj "gq~p~qU2Ha" ?_;refine WL.val (V.eD fZ (ak rfl) (ak rfl) (fun _=>by decide) (fun _=>by first | exact rd 0 _ rfl | exact Rd.up (rd 1 _ rfl) | exact Rd.up (Rd.up (rd 1 _ rfl)) | exact Rd.up (Rd.up (rd 2 _ rfl)) | exact Rd.up (Rd.up (Rd.up (rd 2 _ rfl))) | exact Rd.up (Rd.up (Rd.up (Rd.up (rd 2 _ rfl)))))) rfl ?_;refine WL.val (V.load isAgg3 (ak rfl) (fun _=>by first | exact rd 0 _ rfl | exact Rd.up (rd 1 _ rfl) | exact Rd.up (Rd.up (rd 1 _ rfl)) | exact Rd.up (Rd.up (rd 2 _ rfl)) | exact Rd.up (Rd.up (Rd.up (rd 2 _ rfl))) | exact Rd.up (Rd.up (Rd.up (Rd.up (rd 2 _ rfl)))))) rfl ?_;refine aj "gQ~rc~:~rc~:~rc~:~r" ?_;refine WL.buildSlice (E:=5) (cs:=[_,_,_,_]) (vs:=[(0,_),(1,_),(2,_),(3,_)]) ⟨ak rfl,ak rfl,ak rfl,ak rfl,trivial⟩ rfl (gK _ _ _ _) rfl (fun b25=> ?_);first
 | refine WL.y8 (m:=4) (q:=4) (cs:=cs) (news:=zS x) underlying34 zo (ak rfl) (ak rfl) (by repeat (first | exact hs | apply Seq.up)) (Seq.all rfl) aK aK aK aK rfl rfl (fun A1 c1 hA1 aR=> ?_)
 | (
  refine WL.sub (Sub.refl _) (fun w h=>h.aY 2 [1,0] rfl) ?_;refine WL.append (m:=8) (q:=4) (news:=zS y) underlying34 zo (ak rfl) (ak rfl) (Seq.all rfl) (uM _) aK rfl rfl (fun A2 c2 Pq bB=> ?_))
 | (
  refine WL.sub (Sub.refl _) (fun w h=>h.aY 2 [1,0] rfl) ?_;refine WL.append (m:=12) (q:=4) (news:=zS z) underlying34 zo (ak rfl) (ak rfl) (Seq.all rfl) (uM _) aK rfl rfl (fun A3 c3 MV eF=> ?_))
 refine aj "gq" ?_;refine WL.val (V.aI (v':= .i (3)) (V.add (ak rfl) (ak rfl)) (fun _=>rfl)) rfl ?_;refine aj "~qUORed" ?_;exact qR (bq (.slice A3 16 c3) _ 1 16 _::F) rfl rfl (fun w h=>h.aY 4 [0] rfl) ⟨A3,c3,rfl,rfl⟩
end
end Go.Proofs.YtcedojacbhnbiaaGreat
namespace Go.Sl
open Go.RowKit List Nat
section
variable{Mo:Mode}{P:Program}{K:World}{n:Nat}{Q:fG}{e:Env}{H:List aA}{R:Env→Prop}{ty:TypeId}{pos:String}{af:Array Edge}{ops:Array Oper}{rest:List Oper}
theorem WQ.TU{d j dj:Nat}{want:Bool}{oj:Oper}{f:FuncId}{y:Operand}{first captured:List Value}{xs:List Operand}{vs:List Value}{ats:Array TypeId}{v gv:Value}{c:Bool}
 (hj:ops[j]? =some oj) (Gz:oj.dst=some dj) (hl:look e dj=some gv) (hG:GC gv want c) (hf:bT P f) (hy:OV c e y (.func (.func f) first.toArray captured.toArray)) (dP:Gh c e xs vs) (hF:c=true→aL P f (first++vs++captured).toArray K H v) (hd:blt d n=true)
 (h:WQ Mo P K n ops rest R ((d,cv c v)::e) H):WQ Mo P K n ops (⟨some d,.call ⟨.value y,xs.toArray,ats⟩,ty,pos,af,some (j,want)⟩::rest) R e H:=fun a ha=>by
 refine wpQuiet_step fun S hS=> ?_;rw[Region.jy (o:=⟨some d,.call ⟨.value y,xs.toArray,ats⟩,ty,pos,af,some (j,want)⟩) rfl hj Gz hl ha hG];cases c with
 | false=>exact hS _ (h _ (ha.put d hd _))
 | true =>
  simp only[if_true];refine⟨v,fun w hw=> ?_,hS _ (h _ (ha.put d hd v))⟩;unfold Oper.quietAt;rw[uo hf (hy.ev rfl ha) (dP.ev ha rfl)];exact⟨rfl,(hF rfl).call hw⟩
theorem WQ.nC{d:Nat}{f:FuncId}{y:Operand}{first captured:List Value}{xs:List Operand}{vs:List Value}{ats:Array TypeId}{v:Value}
 (hf:bT P f) (hy:OV true e y (.func (.func f) first.toArray captured.toArray)) (dP:Gh true e xs vs) (hF:aL P f (first++vs++captured).toArray K H v) (hd:blt d n=true)
 (h:WQ Mo P K n ops rest R ((d,v)::e) H):WQ Mo P K n ops (⟨some d,.call ⟨.value y,xs.toArray,ats⟩,ty,pos,af,none⟩::rest) R e H:=fun a ha=>by
 refine wpQuiet_step fun S hS=> ?_;simp only[Region.wanted,if_true];refine⟨v,fun w hw=> ?_,hS _ (h _ (ha.put d hd v))⟩;unfold Oper.quietAt;rw[uo hf (hy.ev rfl ha) (dP.ev ha rfl)];exact⟨rfl,hF.call hw⟩
end
theorem Ru:∀(vs cs r:List Value) (o:Nat),o+vs.length≤cs.length→pU (cs++r) o vs=pU cs o vs++r
 | [],_,_,_,_=>rfl
 | v::vs,cs,r,o,h=>by
  rw[length_cons] at h;show pU ((cs++r).set o v) (o+1) vs=pU (cs.set o v) (o+1) vs++r;rw[set_append_left _ _ ay];exact Ru vs (cs.set o v) r (o+1) (by rw[length_set];omega)
end Go.Sl
namespace Go.Proofs.YtcedojacbhnbiaaGreat
open Go.Sl Go.RowKit Tryz List Nat
structure Fd where
 block:Int
 hd:Hd
 whole:Bool
 deriving DecidableEq
abbrev Fd.cells(x:Fd):List Value:=[.i x.block,.i x.hd.aV,.i x.hd.len,.i x.hd.num,.bool x.whole]
abbrev Fd.v(x:Fd):Value:= .agg #[.i x.block,.i x.hd.aV,.i x.hd.len,.i x.hd.num,.bool x.whole]
theorem Fd.len(x:Fd):x.cells.length=5:=rfl
def J4:Fd:=⟨0,⟨0,0,0⟩,false⟩
abbrev dD(l:List Fd):List Value:=l.flatMap Fd.cells
theorem gM(l:List Fd):(dD l).length=l.length*5:=sM Fd.len l
theorem LW{b T:Nat}{l:List Fd}{r:List Value}{j:Nat}{K:World}{H:List aA}(hj:j<l.length):gD K (ah b T (dD l++r)::H) b (j*5) (l.getD j J4).cells:=fun i v hi=>by
 have hg:l[j]? =some (l.getD j J4):=by simp[getD,hj]
 have h1:=J7 (s:=5) Fd.len l j i _ v hg hi;refine Rd.here ?_;rw[getElem?_append_left (List.getElem?_eq_some_iff.1 h1).1];exact h1
theorem Ze{l:List Fd}{r:List Value}{j:Nat}(hj:j<l.length)(y:Fd):pU (dD l++r) (j*5) y.cells=dD (l.set j y)++r:=by
 have hg:l[j]? =some (l.getD j J4):=by simp[getD,hj]
 rw[Ru _ _ _ _ (by rw[gM,Fd.len];omega),abT (s:=5) Fd.len l j _ y hg]
theorem zG{b T j o:Nat}{l:List Fd}{r:List Value}{y:Fd}{K:World}{H:List aA}(hj:j<l.length)(ho:o=j*5):dw K (ah b T (dD l++r)::H) b o y.cells (ah b T (dD (l.set j y)++r)::H) :=
 dw.here (ble_eq_true_of_le (by rw[ho,length_append,gM,Fd.len];omega)) (by rw[ho];exact Ze hj y)
theorem EC(y:Fd):y.cells.all (·.oneCell')=true:=rfl
section
variable(lt:Fd→Fd→Bool)
def bub(ys:List Fd):Nat→List Fd
 | 0=>ys
 | j+1=>if lt (ys.getD (j+1) J4) (ys.getD j J4) then bub ((ys.set (j+1) (ys.getD j J4)).set j (ys.getD (j+1) J4)) j else ys
def Eb(ys:List Fd):Nat→List Fd
 | 0=>ys
 | i+1=>bub lt (Eb ys i) i
def xH:List Fd→Fd→List Fd
 | [],x=>[x]
 | y::q,x=>if lt x y then y::xH q x else x::y::q
def eT(ys:List Fd):List Fd:=(ys.foldl (xH lt) []).reverse
end
section
variable{lt:Fd→Fd→Bool}
theorem H6:∀(j:Nat) (ys:List Fd),(bub lt ys j).length=ys.length
 | 0,_=>rfl
 | j+1,ys=>by
  rw[bub];split
  ·rw[H6 j];simp
  ·rfl
theorem sU(ys:List Fd):∀i,(Eb lt ys i).length=ys.length
 | 0=>rfl
 | i+1=>by rw[Eb,H6,sU]
theorem Wv:∀(q:List Fd) (x:Fd) (r:List Fd),bub lt (q.reverse++x::r) q.length=(xH lt q x).reverse++r
 | [],x,r=>rfl
 | y::q,x,r=>by
  rw[length_cons,bub,xH];have hq:q.reverse.length=q.length:=length_reverse;have e1:((y::q).reverse++x::r).getD (q.length+1) J4=x:=by
   rw[reverse_cons,append_assoc,getD,getElem?_append_right ay,hq];simp
  have e2:((y::q).reverse++x::r).getD q.length J4=y:=by
   rw[reverse_cons,append_assoc,getD,getElem?_append_right ay,hq];simp
  rw[e1,e2];split
  ·have e3:(((y::q).reverse++x::r).set (q.length+1) y).set q.length x=q.reverse++x::(y::r):=by
    rw[reverse_cons,append_assoc,set_append_right _ _ ay,set_append_right _ _ ay,hq];simp
   rw[e3,Wv q x (y::r),reverse_cons,append_assoc];rfl
  ·rw[reverse_cons,reverse_cons];simp
theorem Sw(ys:List Fd):∀i,i≤ys.length→Eb lt ys i=((ys.take i).foldl (xH lt) []).reverse++ys.drop i∧((ys.take i).foldl (xH lt) []).length=i
 | 0,_=>⟨by simp[Eb],rfl⟩
 | i+1,h=>by
  obtain⟨ih,il⟩:=Sw ys i ay;have hlen:∀(q:List Fd) (x:Fd),(xH lt q x).length=q.length+1:=fun q x=>by
   induction q with
   | nil=>rfl
   | cons y q ih=>rw[xH];split<;>simp[ih]
  have ht:ys.take (i+1)=ys.take i++[ys[i]'ay]:=by rw[take_add_one,getElem?_eq_getElem ay];rfl
  have hd:ys.drop i=ys[i]'ay::ys.drop (i+1):=drop_eq_getElem_cons ay;have hb:=Wv (lt:=lt) ((ys.take i).foldl (xH lt) []) (ys[i]'ay) (ys.drop (i+1));rw[il,←hd] at hb;rw[Eb,ih,hb,ht,foldl_append];exact⟨rfl,by show (xH lt _ _).length=_;rw[hlen,il]⟩
theorem Ma(ys:List Fd):Eb lt ys ys.length=eT lt ys:=by
 rw[(Sw ys ys.length (Nat.le_refl _)).1,take_length,drop_length,append_nil];rfl
theorem iO(ys:List Fd):(eT lt ys).length=ys.length:=by rw[←Ma,sU]
theorem D5:∀(q:List Fd) (x:Fd),Perm (xH lt q x) (x::q)
 | [],x=>Perm.refl _
 | y::q,x=>by
  rw[xH];split
  ·exact (Perm.cons y (D5 q x)).trans (Perm.swap x y q)
  ·exact Perm.refl _
theorem Ja:∀(ys q:List Fd),Perm (ys.foldl (xH lt) q) (ys++q)
 | [],q=>Perm.refl _
 | x::ys,q=>by
  rw[foldl_cons];refine (Ja ys (xH lt q x)).trans ((Perm.append_left ys (D5 q x)).trans ?_);exact perm_middle
theorem II(ys:List Fd):Perm (eT lt ys) ys:=by grind [eT,reverse_perm,Ja]
theorem y5{ys:List Fd}{x:Fd}:x∈eT lt ys↔x∈ys:=(II ys).mem_iff
theorem FB(htr:∀a b c,lt a b=false→lt b c=false→lt a c=false)(has:∀a b,lt a b=true→lt b a=false):∀(q:List Fd) (x:Fd),q.Pairwise (fun a b=>lt a b=false)→(xH lt q x).Pairwise (fun a b=>lt a b=false)
 | [],x,_=>pairwise_singleton _ _
 | y::q,x,h=>by
  have hp:=pairwise_cons.1 h;rw[xH];by_cases hx:lt x y=true
  ·rw[if_pos hx];refine pairwise_cons.2 ⟨fun z hz=> ?_,FB htr has q x hp.2⟩;rcases mem_cons.1 ((D5 q x).mem_iff.1 hz) with rfl | hz
   ·exact has _ _ hx
   ·exact hp.1 z hz
  ·rw[if_neg hx];have ZN:lt x y=false:=by simpa using hx
   refine pairwise_cons.2 ⟨fun z hz=> ?_,h⟩;rcases mem_cons.1 hz with rfl | hz
   ·exact ZN
   ·exact htr _ _ _ ZN (hp.1 z hz)
theorem DJ(htr:∀a b c,lt a b=false→lt b c=false→lt a c=false)(has:∀a b,lt a b=true→lt b a=false):∀(ys q:List Fd),q.Pairwise (fun a b=>lt a b=false)→(ys.foldl (xH lt) q).Pairwise (fun a b=>lt a b=false)
 | [],_,h=>h
 | x::ys,q,h=>DJ htr has ys _ (FB htr has q x h)
theorem N9(htr:∀a b c,lt a b=false→lt b c=false→lt a c=false)(has:∀a b,lt a b=true→lt b a=false)(ys:List Fd):(eT lt ys).Pairwise (fun a b=>lt b a=false):=by grind [eT,DJ,Pairwise.nil]
end
def E8(f:Nat)(c:Fd→Fd→Int):Prop:=bT prog f∧∀(K:World) (F:List aA) (x y:Fd),aL prog f #[x.v,y.v] K F (.i (c x y))
section
variable{K:World}{F:List aA}
theorem Gw{f:Nat}{c:Fd→Fd→Int}(hf:E8 f c){b m cap:Nat}{ys:List Fd}{r:List Value}(hm:ys.length=m)(hb:m≤1000000) :
 aC prog 265 #[.slice (some ⟨b,0,none⟩) m cap,.i 0,.i (m:Int),.func (.func f) #[] #[]] K (ah b 237 (dD ys++r)::F)
  (fun v H'=>H'=ah b 237 (dD (eT (fun x y=>decide (c x y<0)) ys)++r)::F):=by
 obtain⟨lt,oJ⟩:∃lt:Fd→Fd→Bool,lt=fun x y=>decide (c x y<0):=⟨_,rfl⟩;rw[←oJ];refine aC.en func265 ntmps265 ?_;refine aj "e.gu" ?_;refine WC.loop (σ:=Nat) (fun i=>[(0,.slice (some ⟨b,0,none⟩) m cap),(1,.i 0),(2,.i (m:Int)),(3,.func (.func f) #[] #[]),(8,.i (i:Int))]) (fun i=>ah b 237 (dD (Eb lt ys i)++r)::F) (fun i=>1≤i∧(i=1∨i≤m)) (fun i=>m+1-i) 1 ⟨Nat.le_refl _,.inl rfl⟩ bM cu ?_;rintro i ⟨hi1,him⟩;refine aj "rc5bX" (aX (fun aN=> ?_) fun aN=> ?_)
 ·have hi2:i<m:=ay;refine aj "1gu" ?_;refine WC.loop (σ:=Nat×List Fd) (fun s=>[(0,.slice (some ⟨b,0,none⟩) m cap),(1,.i 0),(2,.i (m:Int)),(3,.func (.func f) #[] #[]),(8,.i (i:Int)),(9,.i (s.1:Int))]) (fun s=>ah b 237 (dD s.2++r)::F) (fun s=>s.1≤i∧s.2.length=m∧bub lt s.2 s.1=Eb lt ys (i+1)) (fun s=>s.1) (i,Eb lt ys i) ⟨Nat.le_refl _,by rw[sU,hm],rfl⟩ bM cu ?_;rintro⟨j,zs⟩ ⟨hji,hzl,hzb⟩;dsimp only at hji hzl hzb ⊢;obtain⟨za,hza⟩:∃za,za=zs.getD j J4:=⟨_,rfl⟩;obtain⟨zb,Z4⟩:∃zb,zb=zs.getD (j-1) J4:=⟨_,rfl⟩;have hja:gD K (ah b 237 (dD zs++r)::F) b (0+(j:Int).toNat*5) za.cells:=by
   rw[show 0+(j:Int).toNat*5=j*5 by omega,hza];exact LW ay
  have hjb:j≠0→gD K (ah b 237 (dD zs++r)::F) b (0+((j:Int)-1).toNat*5) zb.cells:=fun h0=>by
   rw[show 0+((j:Int)-1).toNat*5=(j-1)*5 by omega,Z4];exact LW ay
  refine aj "NN~k++~~a+~~F~~F~~F" ?_;refine WQ.bG (oj:=_) rfl rfl rfl GC.t (V.Gs Aa (OV.g rfl id) (OV.g rfl id) (fun hc=>by omega)) rfl ?_;refine WQ.bG (oj:=_) rfl rfl rfl GC.t (V.gG (vs:=za.cells) ⟨isAgg237,sizeOf237⟩ (OV.g rfl id) rfl (fun _=>hja)) rfl ?_;refine aj "~~F~~F" ?_;refine WQ.bG (oj:=_) rfl rfl rfl GC.t (V.CV (OV.g rfl id) (ak rfl) Yc) rfl ?_;refine WQ.bG (oj:=_) rfl rfl rfl GC.t (V.Gs Aa (OV.g rfl id) (OV.g rfl id) (fun hc=>by simp at hc;omega)) rfl ?_;refine WQ.bG (oj:=_) rfl rfl rfl GC.t (V.gG (vs:=zb.cells) ⟨isAgg237,sizeOf237⟩ (OV.g rfl id) rfl (fun hc=>hjb (by simp at hc;omega))) rfl ?_;refine WQ.TU (oj:=_) (first:=[]) (vs:=[_,_]) (captured:=[]) rfl rfl rfl GC.t hf.1 (OV.g rfl id) ⟨OV.g rfl id,OV.g rfl id,trivial⟩ (fun _=>hf.2 _ _ za zb) rfl ?_;refine WQ.bG (oj:=_) rfl rfl rfl GC.t (V.lss (OV.g rfl id) (ak rfl)) rfl (WQ.val (V.Ct (ak rfl) (OV.g rfl id)) rfl ?_);refine aj "~gE" (aX (fun aR=> ?_) fun aR=> ?_)
  ·simp only[He] at aR;have h1:=aR;obtain⟨j',rfl⟩:∃j',j=j'+1:=⟨j-1,by omega⟩;rw[Nat.add_sub_cancel] at Z4;have ahe:lt za zb=true:=by rw[oJ];exact decide_eq_true h1.2
   rw[bub,←hza,←Z4,if_pos ahe] at hzb;have aly:=hjb ay;refine aj "H" ?_;refine WC.fE F (by kernel_rfl) ?_;refine aj "l0l1l2l3" ?_;refine WA.t 4 rfl (V.CV (ak rfl) (ak rfl) Yc) ?_;refine aj "l5l6" ?_;refine WA.t 7 rfl (V.CV (ak rfl) (ak rfl) Yc) ?_;refine aj "[8l:l;[<" ?_;refine WA.two (i:=9) (j:=13) gy (by kernel_rfl) rfl rfl ?_ ?_
   ·refine WL.val (V.gG (vs:=zb.cells) ⟨isAgg237,sizeOf237⟩ (ak rfl) rfl (fun _=>aly)) rfl ?_;refine aj "bn=" ?_;refine WL.val (V.gG (vs:=za.cells) ⟨isAgg237,sizeOf237⟩ (ak rfl) rfl (fun _=>hja)) rfl ?_;refine aj "b[>n?" ?_;refine WL.store (cs:=zb.cells) sizeOf237 (ak rfl) (ak rfl) rfl rfl rfl (zG (j:=j'+1) (y:=zb) ay ay) ?_;refine aj "b[@nA" ?_;refine WL.store (cs:=za.cells) sizeOf237 (ak rfl) (ak rfl) rfl rfl rfl (zG (j:=j') (y:=za) (by rw[length_set];omega) ay) ?_;refine aj "bMh(4" ?_;exact⟨(j',(zs.set (j'+1) zb).set j' za),⟨by show j'≤i;omega,by show ((zs.set _ _).set _ _).length=m;simp[hzl],hzb⟩,lt_succ_self _,.cons rfl bM,fun w h=>h⟩
   ·refine WL.val (V.gG (vs:=za.cells) ⟨isAgg237,sizeOf237⟩ (ak rfl) rfl (fun _=>hja)) rfl ?_;refine aj "bn9" ?_;refine WL.val (V.gG (vs:=zb.cells) ⟨isAgg237,sizeOf237⟩ (ak rfl) rfl (fun _=>aly)) rfl ?_;refine aj "b[>n?" ?_;refine WL.store (cs:=zb.cells) sizeOf237 (ak rfl) (ak rfl) rfl rfl rfl (zG (j:=j'+1) (y:=zb) ay ay) ?_;refine aj "b[@nA" ?_;refine WL.store (cs:=za.cells) sizeOf237 (ak rfl) (ak rfl) rfl rfl rfl (zG (j:=j') (y:=za) (by rw[length_set];omega) ay) ?_;refine aj "bMh(4" ?_;exact⟨(j',(zs.set (j'+1) zb).set j' za),⟨by show j'≤i;omega,by show ((zs.set _ _).set _ _).length=m;simp[hzl],hzb⟩,lt_succ_self _,.cons rfl bM,fun w h=>h⟩
  ·simp only[He] at aR;have h1:=aR;have ado:Eb lt ys (i+1)=zs:=by
    rw[←hzb];cases j with
    | zero=>rfl
    | succ j' =>
     rw[Nat.add_sub_cancel] at Z4;have ahe:lt za zb=false:=by
      rw[oJ];rcases h1 with h | h
      ·omega
      ·exact decide_eq_false h
     rw[bub,←hza,←Z4,if_neg (by rw[ahe];decide)]
   refine aj "Rh.4" ?_;exact⟨i+1,⟨by show 1≤i+1;omega,.inr hi2⟩,(by show m+1-(i+1)<m+1-i;omega),.cons rfl bM,fun w h=>Sat.aS h (by rw[ado])⟩
 ·refine WC.exit ?_;have tT:Eb lt ys i=eT lt ys:=by
   rw[←Ma,hm];rcases eq_zero_or_pos m with h0 | h0
   ·have :ys=[]:=eq_nil_of_length_eq_zero ay;subst this;have key:∀k,Eb lt [] k=[]:=fun k=>eq_nil_of_length_eq_zero (by rw[sU];rfl);rw[key,key]
   ·obtain rfl:i=m:=by omega
    rfl
  exact aG.normal (H':=ah b _ _::F) (bI.none rfl) (fun w h=>Sat.aS h (by rw[tT])) rfl
end
def uy(x y:Int):Int:=if x<y then-1 else if y<x then 1 else 0
def orI(a b:Int):Int:=if a≠0 then a else b
def qV(x y:Fd):Int:=orI (uy x.hd.num y.hd.num) (uy y.block x.block)
def aaK(x y:Fd):Int:=orI (uy x.hd.num y.hd.num) (uy x.block y.block)
def KL(x y:Fd):Int:=uy x.hd.num y.hd.num
section
variable{K:World}{F:List aA}
theorem Mt(x:Int):aL prog 228 #[.i x] K F (.bool false):=by
 refine aC.en func228 ntmps228 ?_;refine aj "a0sd" ?_;exact qR F rfl rfl cu ⟨by simp,rfl⟩
theorem mI(x y:Int):aL prog 167 #[.i x,.i y] K F (.i (uy x y)):=by
 refine aC.en func167 ntmps167 ?_;refine aj "aj" ?_;refine WL.t1 call228 rfl (Mt _) rfl ?_;refine aj "j" ?_;refine WL.t1 call228 rfl (Mt _) rfl ?_;refine aj "fbOirbOirc5bX" (aX (fun eF=> ?_) fun eF=> ?_)
 ·have h3:=eF;refine aj "I" ?_;exact qR F rfl rfl cu ⟨by unfold uy;rw[if_pos h3],rfl⟩
 ·have h3:=eF;refine aj "irc~UbX" (aX (fun mZ=> ?_) fun mZ=> ?_)
  ·have h4:=mZ;refine aj "I" ?_;exact qR F rfl rfl cu ⟨by unfold uy;rw[if_neg h3,if_pos ay],rfl⟩
  ·have h4:=mZ;refine aj "iI" ?_;exact qR F rfl rfl cu ⟨by unfold uy;rw[if_neg h3,if_neg ay],rfl⟩
theorem Wp{B:Option Addr}{cap:Nat}{x y:Int}(hq:Seq K F B 2 1 [.i x,.i y]):aL prog 170 #[.slice B 2 cap] K F (.i (orI x y)):=by
 have rd:∀(i:Nat) v,[Value.int .i64 x,.i y][i]? =some v→Rd K F (B.map (·.add (i*1))) v:=fun i v hi=>by rw[Nat.mul_one];exact hq.rd i v hi
 refine aC.en func170 ntmps170 ?_;refine aj "axfoP~4U2Ha" ?_;refine WL.val (V.eD fZ (ak rfl) (ak rfl) (fun _=>by decide) (fun _=>by first | exact rd 0 _ rfl | exact rd 1 _ rfl)) rfl ?_;refine WL.val (V.load isAgg3 (ak rfl) (fun _=>by first | exact rd 0 _ rfl | exact rd 1 _ rfl)) rfl ?_;refine aj "0sb~d" (aX (fun aR=> ?_) fun aR=> ?_)
 ·have h1:=aR;refine aj "ed" ?_;first
  | exact qR F rfl rfl cu ⟨by unfold orI;rw[if_pos h1],rfl⟩
  | (
   refine qR F rfl rfl cu ⟨?_,rfl⟩;unfold orI;rw[if_neg ay])
 ·have h1:=aR;refine aj "iq~F~qU2Ha" ?_;refine WL.val (V.eD fZ (ak rfl) (ak rfl) (fun _=>by decide) (fun _=>by first | exact rd 0 _ rfl | exact rd 1 _ rfl)) rfl ?_;refine WL.val (V.load isAgg3 (ak rfl) (fun _=>by first | exact rd 0 _ rfl | exact rd 1 _ rfl)) rfl ?_;refine aj "0sb~d" (aX (fun Vy=> ?_) fun Vy=> ?_)
  ·have h1:=Vy;refine aj "ed" ?_;first
   | exact qR F rfl rfl cu ⟨by unfold orI;rw[if_pos h1],rfl⟩
   | (
    refine qR F rfl rfl cu ⟨?_,rfl⟩;unfold orI;rw[if_neg ay])
  ·have h1:=Vy;refine aj "iq~p~qUORed>" ?_;unfold orI;rw[if_neg ay];congr 1;omega
theorem wX:E8 164 qV:=⟨call164,fun K F x y=>by
 refine aC.en func164 ntmps164 ?_;refine aj "a&" fun b2=> ?_;refine aj "&" fun b3=> ?_;refine aj "t~TS0S1:2S3S4:5S7:8S9::n6" ?_;refine WL.t2 call167 rfl rfl (mI _ _) rfl ?_;refine aj "bn;" ?_;refine WL.t2 call167 rfl rfl (mI _ _) rfl ?_;refine aj "bn<" ?_;refine WL.buildSlice (E:=3) (cs:=[_,_]) (vs:=[(0,_),(1,_)]) ⟨ak rfl,ak rfl,trivial⟩ rfl (qC _ _) rfl (fun b17=> ?_);refine aj "bn=" ?_;refine WL.t1 call170 rfl (Wp (Seq.all rfl)) rfl ?_;exact aj "b~w>M~D$" trivial
 ⟩
theorem X3:E8 169 aaK:=⟨call169,fun K F x y=>by
 refine aC.en func169 ntmps169 ?_;refine aj "a&" fun b2=> ?_;refine aj "&" fun b3=> ?_;refine aj "t~TS0S1:2S3S4:5S7:8S9::n6" ?_;refine WL.t2 call167 rfl rfl (mI _ _) rfl ?_;refine aj "bn;" ?_;refine WL.t2 call167 rfl rfl (mI _ _) rfl ?_;refine aj "bn<" ?_;refine WL.buildSlice (E:=3) (cs:=[_,_]) (vs:=[(0,_),(1,_)]) ⟨ak rfl,ak rfl,trivial⟩ rfl (qC _ _) rfl (fun b17=> ?_);refine aj "bn=" ?_;refine WL.t1 call170 rfl (Wp (Seq.all rfl)) rfl ?_;exact aj "b~w>M~D$" trivial
 ⟩
theorem ab7:E8 166 KL:=⟨call166,fun K F x y=>by
 refine aC.en func166 ntmps166 ?_;refine aj "a&" fun b2=> ?_;refine aj "&" fun b3=> ?_;refine aj "x7p7p" ?_;refine WL.t2 call167 rfl rfl (mI _ _) rfl ?_;exact aj "d$" trivial
 ⟩
abbrev jZ(c:Fd→Fd→Int):Fd→Fd→Bool:=fun x y=>decide (c x y<0)
theorem Kv{f:Nat}:aC prog 265 #[.slice none 0 0,.i 0,.i 0,.func (.func f) #[] #[]] K F (fun v H'=>H'=F):=by
 refine aC.en func265 ntmps265 ?_;refine aj "e.gu" ?_;refine WC.rounds 1 (aj "rc5bOR" ?_);exact aG.normal (H':=F) (bI.none rfl) cu rfl
theorem DI{f m:Nat}{S:Value}{H2:List aA}(anZ:aC prog 265 #[S,.i 0,.i (m:Int),.func (.func f) #[] #[]] K F (fun v H'=>H'=H2))(hm:m<20) :
 aC prog 229 #[S,.i (m:Int),.func (.func f) #[] #[]] K F (fun v H'=>H'=H2):=by
 refine aC.en func229 ntmps229 ?_;refine aj "ajmtu" ?_;refine WC.rounds 1 (aj "rc~.bORezc" ?_);refine WL.c4 call265 rfl rfl rfl rfl (anZ) rfl ?_;rintro v H0 h0;subst h0;refine aj "bu" ?_;refine WC.rounds 1 (aj "rc5bOR" ?_);exact aG.normal (H':=H0) (bI.none rfl) cu rfl
theorem Ba{f:Nat}{c:Fd→Fd→Int}(hf:E8 f c){A:Option Addr}{m cap:Nat}{ys:List Fd}(hm:ys.length=m)(h20:m<20) :
 aC prog 168 #[.slice A m cap,.func (.func f) #[] #[]] K (bq (.slice A m cap) 237 5 m (dD ys)::F)
  (fun v H'=>∀w,Sat K w H'→Sat K w (bq (.slice A m cap) 237 5 m (dD (eT (jZ c) ys))::F)):=by
 cases A with
 | none =>
  refine aC.nQ (p:=m=0∧cap=0) (fun w hw=>⟨(bq.F7 hw).1,(bq.F7 hw).2.1⟩) (fun h0=> ?_);obtain⟨h1,h2⟩:=h0;subst h2;have hy:ys=[]:=eq_nil_of_length_eq_zero ay;subst hy;obtain rfl:m=0:=by omega
  have dJ:=DI (K:=K) (F:=bq (.slice none 0 0) 237 5 0 (dD [])::F) (f:=f) (m:=0) (S:= .slice none 0 0) Kv aK;refine aC.en func168 ntmps168 ?_;refine aj "Qoc" ?_;refine WL.c3 call229 rfl rfl rfl (dJ) rfl ?_;rintro v H0 h0;subst h0;refine WL.nil ?_;exact aG.normal (H':=bq (.slice none 0 0) 237 5 0 (dD [])::F) (bI.none rfl) cu cu
 | some a =>
  refine aC.nQ (p:=∃g,a=⟨g,0,none⟩) (fun w hw=>bq.addr hw) (fun ⟨g,hg⟩=> ?_);subst hg;refine aC.ex (fun w hw=>Sat.rY hw) (fun r hr=> ?_);obtain⟨r1,r2,r3,r4⟩:=hr;have dJ:=DI (Gw (K:=K) (F:=F) hf (b:=g) (m:=m) (cap:=cap) (ys:=ys) (r:=r) hm ay) h20;refine aC.en func168 ntmps168 ?_;refine aj "Qoc" ?_;refine WL.c3 call229 rfl rfl rfl (dJ) rfl ?_;rintro v H0 h0;subst h0;refine WL.nil ?_;refine aG.normal (H':=ah g 237 (dD (eT (jZ c) ys)++r)::F) (bI.none rfl) cu (fun w h=> ?_);have hfl:(dD (eT (jZ c) ys)).length=m*5:=by rw[gM,iO,hm]
  have ar0:(dD ys).length=m*5:=by rw[gM,hm]
  have h':=Sat.Nq (m:=m) (cap:=cap) (s:=5) h (by rw[length_append] at r1 ⊢;omega) r3 r4;rw[take_left' hfl] at h';exact h'
end
structure bR where
 A:Option Addr
 c:Nat
 l:List Fd
abbrev bR.v(x:bR):Value:= .slice x.A x.l.length x.c
def bR.row(x:bR):aA:=bq (.slice x.A x.l.length x.c) 237 5 x.l.length (dD x.l)
def nR(aV:Nat)(x:Fd):Bool:=x.whole&&decide (x.hd.aV=(aV:Int))
def jm(aJ:Nat)(fs:List Fd):List (List Fd):=(List.range aJ).map fun aV=>fs.filter (nR aV)
theorem Dk(aJ:Nat)(fs:List Fd):(jm aJ fs).length=aJ:=by simp[jm]
theorem Em{aJ:Nat}{fs:List Fd}{x:Fd}{aV:Nat}(hl:aV<aJ)(hx:x.whole=true)(zO:x.hd.aV=(aV:Int)):jm aJ (fs++[x])=(jm aJ fs).set aV (fs.filter (nR aV)++[x]):=by
 apply ext_getElem
 ·simp[jm]
 ·intro i h1 h2;rw[getElem_set];simp only[jm,getElem_map,getElem_range,filter_append];by_cases h:aV=i
  ·subst h;rw[if_pos rfl];congr 1;rw[filter_cons,if_pos (by unfold nR;rw[hx,zO];simp)];rfl
  ·rw[if_neg h,filter_cons,if_neg (by unfold nR;rw[hx,zO];simp;omega)];simp
theorem AY{aJ:Nat}{fs:List Fd}{x:Fd}(h:∀aV,aV<aJ→nR aV x=false):jm aJ (fs++[x])=jm aJ fs:=by simp_all [jm,map_congr_left,filter_append,filter_cons,if_neg,mem_range]
end Go.Proofs.YtcedojacbhnbiaaGreat
namespace Go.Sl
open Go Go.RowKit Go.BigFrame List Nat
abbrev Gj(bad:Value):List PanicEntry:=[{ v:=bad,recovered:=false }]
def qd(P:Program)(f:FuncId)(args:Array Value)(K:World)(H:List aA)(bad:Value)(post:Value→List aA→Prop)(Kc:List aA→Prop):Prop :=
 ∀ w,Sat K w H→Calls P f args w fun e w'=>∃H',Sat K w' H'∧((∃v,e= .returned v∧post v H')∨(e= .panicked (Gj bad)∧Kc H'))
theorem qd.mono{P:Program}{K:World}{f:FuncId}{args:Array Value}{H:List aA}{bad:Value}{post post':Value→List aA→Prop}{Kc aj4:List aA→Prop}(h:qd P f args K H bad post Kc)(hp:∀v H',post v H'→post' v H')(hq:∀H',Kc H'→aj4 H'):qd P f args K H bad post' aj4 :=
 fun w hw=>(h w hw).mono fun e w' ⟨H',h1,h2⟩=>⟨H',h1,h2.imp (fun ⟨v,a,b⟩=>⟨v,a,hp _ _ b⟩) (fun ⟨a,b⟩=>⟨a,hq _ b⟩)⟩
def abm(P:Program)(K:World)(n:Nat)(fn:Func)(bad:Value)(post:Value→List aA→Prop)(Kc:List aA→Prop):fG
 | Mo,.normal,e,H | Mo,.ret,e,H=>Mo.ds=[]∧∃v H',bI Mo P K n fn e H v∧(∀w,Sat K w H→Sat K w H')∧post v H'
 | Mo,.panic c,e,H=>Mo.ds=[]∧c=Gj bad∧∃H',(∀w,Sat K w H→Sat K w H')∧Kc H'
 | _,_,_,_=>False
theorem BD{fn:Func}{n:Nat}{vs:List Value}(hn:fn.ntmps=n)(hl:ble vs.length n=true):eB ⟨none,[]⟩ n (lH 0 vs) { tmps:=vs.toArray++Array.replicate (fn.ntmps-vs.toArray.size) undef,defers:=[] }:=by
 have GA:vs.length≤n:=by simpa using hl
 refine⟨rfl,by simp[hn];omega,fun t v hv=> ?_⟩;obtain⟨_,h2⟩:=nY vs 0 t v hv;simp only[Nat.sub_zero] at h2;have ht:t<vs.length:=by
  rcases Nat.lt_or_ge t vs.length with h | h
  ·exact h
  ·simp[getElem?_eq_none h] at h2
 rw[Array.getD_eq_getD_getElem?,Array.getElem?_append_left (by simpa using ht)];simp[h2]
section
variable{P:Program}{K:World}{n:Nat}{Q:fG}{e:Env}{H:List aA}{bad:Value}{post:Value→List aA→Prop}{Kc:List aA→Prop}
theorem aC.Er{f:FuncId}{fn:Func}{c:Code}{vs:List Value}(hf:P.funcs[f]? =some fn)(hb:fn.body=some c)(hn:fn.ntmps=n)(hl:ble vs.length n=true)
 (h:WC ⟨none,[]⟩ P K n c (abm P K n fn bad post Kc) (lH 0 vs) H):qd P f vs.toArray K H bad post Kc:=by
 intro w hw;refine calls_of_wp hf hb (wp_mono (h _ w (BD hn hl) hw) ?_);rintro x a w ⟨ds,e',H',h1,h2,h3⟩;cases x<;>first
  | (obtain⟨k0,v,oV,k1,k2,k3⟩:=h3;exact⟨h1.defers.trans k0,v,k1 a w h1 h2,oV,k2 w h2,.inl ⟨v,rfl,k3⟩⟩)
  | (obtain⟨k0,rfl,oV,k2,k3⟩:=h3;exact⟨h1.defers.trans k0,oV,k2 w h2,.inr ⟨rfl,k3⟩⟩)
  | exact h3.elim
theorem abm.panic{fn:Func}{H':List aA}{r:Option (Option Nat)}(hs:∀w,Sat K w H→Sat K w H')(hp:Kc H'):abm P K n fn bad post Kc ⟨r,[]⟩ (.panic (Gj bad)) e H:=⟨rfl,rfl,H',hs,hp⟩
theorem WL.abk{ds:List Deferred}{d:Nat}{f:FuncId}{op:Op}{ty:TypeId}{pos:String}{af:Array Edge}{ops:Array Oper}{rest:List Oper}{vs:List Value}(hr:∀a w,eB ⟨none,ds⟩ n e a→(execOp a.eval ⟨some d,op,ty,pos,af,none⟩).run P w= .ok (.enter f vs.toArray) w)
 (hF:qd P f vs.toArray K H bad post Kc) (hd:blt d n=true) (hp:∀H',Kc H'→Q ⟨none,ds⟩ (.panic (Gj bad)) e H') (h:∀v H',post v H'→WL ⟨none,ds⟩ P K n ops rest Q ((d,v)::e) H'):WL ⟨none,ds⟩ P K n ops (⟨some d,op,ty,pos,af,none⟩::rest) Q e H:=fun a w ha hw=>by
 refine kP rfl fun S hS=> ?_;show Oper.wp P _ a w S _;unfold Oper.wp;rw[hr a w ha,Oper.upon_enter];refine (hF w hw).mono ?_;rintro x w' ⟨H',h1,⟨v,rfl,h2⟩ | ⟨rfl,h2⟩⟩
 ·exact hS _ _ (h v H' h2 _ w' (ha.put d hd v) h1)
 ·exact⟨ds,e,H',ha,h1,hp H' h2⟩
theorem WL.jJ{ds:List Deferred}{d:Nat}{f:FuncId}{xs:List Operand}{vs:List Value}{ats:Array TypeId}{ty:TypeId}{pos:String}{af:Array Edge}{ops:Array Oper}{rest:List Oper}(hf:bT P f)(dP:Gh true e xs vs)
 (hF:qd P f vs.toArray K H bad post Kc) (hd:blt d n=true) (hp:∀H',Kc H'→Q ⟨none,ds⟩ (.panic (Gj bad)) e H') (h:∀v H',post v H'→WL ⟨none,ds⟩ P K n ops rest Q ((d,v)::e) H'):WL ⟨none,ds⟩ P K n ops (⟨some d,.call ⟨.value (.func f),xs.toArray,ats⟩,ty,pos,af,none⟩::rest) Q e H :=
 WL.abk (fun a w ha=>yF hf (dP.ev ha rfl)) hF hd hp h
theorem WL.agS{ds:List Deferred}{d:Nat}{f:FuncId}{y:Operand}{first captured:List Value}{xs:List Operand}{vs:List Value}{ats:Array TypeId}{ty:TypeId}{pos:String}{af:Array Edge}{ops:Array Oper}{rest:List Oper}(hf:bT P f)(hy:OV true e y (.func (.func f) first.toArray captured.toArray))(dP:Gh true e xs vs)
 (hF:qd P f (first++vs++captured).toArray K H bad post Kc) (hd:blt d n=true) (hp:∀H',Kc H'→Q ⟨none,ds⟩ (.panic (Gj bad)) e H') (h:∀v H',post v H'→WL ⟨none,ds⟩ P K n ops rest Q ((d,v)::e) H'):WL ⟨none,ds⟩ P K n ops (⟨some d,.call ⟨.value y,xs.toArray,ats⟩,ty,pos,af,none⟩::rest) Q e H :=
 WL.abk (fun a w ha=>uo hf (hy.ev rfl ha) (dP.ev ha rfl)) hF hd hp h
theorem WL.ahR{ds:List Deferred}{dst:Option Nat}{x:Operand}{t:TypeId}{v:Value}{ty:TypeId}{pos:String}{af:Array Edge}{ops:Array Oper}{rest:List Oper}(hx:OV true e x (.iface t v))
 (h:Q ⟨none,ds⟩ (.panic (Gj (.iface t v))) e H):WL ⟨none,ds⟩ P K n ops (⟨dst,.panic x,ty,pos,af,none⟩::rest) Q e H:=fun a w ha hw=>by
 refine kP rfl fun S hS=> ?_;show Oper.wp P _ a w S _;unfold Oper.wp;have h1:(execOp a.eval ⟨dst,.panic x,ty,pos,af,none⟩).run P w= .halt (.panic (.iface t v)) w:=by
  show ((do pure (Next.value (←Instr.panic (a.eval x)))):Sem Next).run P w=_;rw[hx.ev rfl ha];rfl
 rw[h1,Oper.upon_panic];exact⟨ds,e,H,ha,hw,h⟩
def ai6(P:Program)(f:FuncId)(args:Array Value)(K:World)(H:List aA)(bad:Value)(post:List aA→Prop):Prop :=
 ∀ w,Sat K w H→CallsD P f args (.panicking (Gj bad)) w fun e u' w'=>u'= .panicking [{ v:=bad,recovered:=true }]∧∃v H',e= .returned v∧Sat K w' H'∧post H'
def akI(P:Program)(K:World)(n:Nat)(fn:Func)(bad:Value)(post:Value→List aA→Prop):fG
 | Mo,.normal,e,H | Mo,.ret,e,H=>∃f cap,Mo.ds=[⟨.fn (.func f) cap,#[]⟩]∧bT P f∧∃pd,FC P f cap K H pd∧∀H',pd H'→∃v oV,bI Mo P K n fn e H' v∧(∀w,Sat K w H'→Sat K w oV)∧post v oV
 | Mo,.panic c,e,H=>c=Gj bad∧∃f cap,Mo.ds=[⟨.fn (.func f) cap,#[]⟩]∧bT P f∧∃pd,ai6 P f cap K H bad pd∧∀H',pd H'→∃v oV,bI Mo P K n fn e H' v∧(∀w,Sat K w H'→Sat K w oV)∧post v oV
 | _,_,_,_=>False
theorem aC.ahL{f:FuncId}{fn:Func}{c:Code}{vs:List Value}(hf:P.funcs[f]? =some fn)(hb:fn.body=some c)(hn:fn.ntmps=n)(hl:ble vs.length n=true)
 (h:WC ⟨none,[]⟩ P K n c (akI P K n fn bad post) (lH 0 vs) H):aC P f vs.toArray K H post:=by
 intro w hw;refine calls_of_wp_defers hf hb (wp_mono (h _ w (BD hn hl) hw) ?_);rintro x a w ⟨ds,e',H',h1,h2,h3⟩;have key:(∃f cap,ds=[⟨.fn (.func f) cap,#[]⟩]∧bT P f∧∃pd,FC P f cap K H' pd∧∀H2,pd H2→∃v oV,bI ⟨none,ds⟩ P K n fn e' H2 v∧(∀w,Sat K w H2→Sat K w oV)∧post v oV) →
  Leaves P fn a.tmps (fun e w'=>∃v H',e= .returned v∧Sat K w' H'∧post v H') a.defers .returning w:=by
  rintro⟨g,cap,k0,k1,pd,k2,k3⟩;rw[h1.defers.trans k0];refine leaves_cons (f:=g) (args:=cap) (by simp) (by show (callFunc g (#[]++cap)).run P w=_;rw[k1];simp) ?_;refine (k2 w h2).mono ?_;rintro e2 u' w' ⟨rfl,v,H2,rfl,k4,k5⟩;obtain⟨v2,H3,k6,k7,k8⟩:=k3 H2 k5;exact⟨v2,k6 a w' h1 k4,v2,H3,rfl,k7 w' k4,k8⟩
 cases x<;>first
  | exact key h3
  | skip
 case panic c =>
  obtain⟨rfl,g,cap,k0,k1,pd,k2,k3⟩:=h3;show Leaves P fn a.tmps _ a.defers (.panicking (Gj bad)) w;rw[h1.defers.trans k0];refine leaves_cons (f:=g) (args:=cap) (by simp) (by show (callFunc g (#[]++cap)).run P w=_;rw[k1];simp) ?_;refine (k2 w h2).mono ?_;rintro e2 u' w' ⟨rfl,v,H2,rfl,k4,k5⟩;obtain⟨v2,H3,k6,k7,k8⟩:=k3 H2 k5;exact⟨v2,k6 a w' h1 k4,v2,H3,rfl,k7 w' k4,k8⟩
 all_goals exact h3.elim
theorem abL{o:Oper}{a:Act}{next next':Act→World→Prop}{Q1 Q2:Exit→Act→World→Prop}(hn:∀a w,next a w→next' a w)(hq:∀e a w,Q1 e a w→Q2 e a w)(hl:¬LetsOut Q1)(r:Result Next)(h:o.upon P a next Q1 r):o.upon P a next' Q2 r:=by
 unfold Oper.upon at h ⊢;split at h<;>first
  | exact hn _ _ h
  | exact hq _ _ _ h
  | exact h.elim
  | exact Rows.mono h (fun _ _ he=>hn _ _ he)
  | (
   refine Calls.mono h (fun e w'' he=> ?_);cases e
   ·exact hn _ _ he
   ·exact hq _ _ _ he
   ·exact absurd he hl)
theorem Fb{ops:Array Oper}{Q1:Exit→Act→World→Prop}{Q2:Exit→Act→List Frame→World→Prop}{cs:List Frame}(hl:¬LetsOut Q1)(hq:∀e a w,Q1 e a w→Q2 e a cs w):∀(l:List Oper) (k:Nat),(∀j,l[j]? =ops[k+j]?)→∀(a:Act) (w:World),wpList P ops Q1 l a w→wpOpsS P ops Q2 (range' k l.length) a cs w
 | [],k,_,a,w,h=>hq _ _ _ h
 | o::l,k,hj,a,w,h=>by
  have h0:ops[k]? =some o:=by simpa using (hj 0).symm
  have ih:=Fb (Q2:=Q2) (cs:=cs) hl hq l (k+1) (fun j=>by have :=hj (j+1);simpa [Nat.add_assoc,Nat.add_comm 1 j] using this);rw[length_cons,range'_succ,wpOpsS,h0];unfold wpList at h;dsimp only;split
  ·rename_i hw;rw[if_pos hw] at h;rcases h with h | h
   ·unfold Oper.wp at h;split
    ·rename_i w' hr;rw[hr] at h;exact h.elim
    ·exact abL ih hq hl _ h
   ·exact absurd h.2 hl
  ·rename_i hw;rw[if_neg hw] at h;exact ih _ _ h
theorem KA{f:FuncId}{fn:Func}{id d:Nat}{ty:TypeId}{pos:String}{af:Array Edge}{l:List Oper}{c:Code}{vs:List Value}{u u':FrameMode}{v0:Value}{pd:List aA→Prop}(hf:P.funcs[f]? =some fn)(hb:fn.body=some (.seq (.region id (⟨some d,.call ⟨.builtin .recover,#[],#[]⟩,ty,pos,af,none⟩::l).toArray false) c))(hn:fn.ntmps=n)(hl:ble vs.length n=true)(hd:blt d n=true)
 (ahS:∀(c₀:Frame) cs,c₀.mode=u→recoverD (c₀::cs)=some (v0,{ c₀ with mode:=u' }::cs)∨(recoverD (c₀::cs)=none∧v0= .nilIface∧u'=u))
 (h:WL ⟨none,[]⟩ P K n (⟨some d,.call ⟨.builtin .recover,#[],#[]⟩,ty,pos,af,none⟩::l).toArray l (zW (fun Mo=>WC Mo P K n c (aG P K n fn fun v H'=>pd H')) (aG P K n fn fun v H'=>pd H')) ((d,v0)::lH 0 vs) H) :
 ∀ w,Sat K w H→CallsD P f vs.toArray u w fun e u2 w'=>u2=u'∧∃v H',e= .returned v∧Sat K w' H'∧pd H':=by
 intro w hw;refine callsD_of_wpS hf hb fun c₀ cs hu=> ?_;apply wpS_seq;apply wpS_region;have hs:(⟨some d,.call ⟨.builtin .recover,#[],#[]⟩,ty,pos,af,none⟩::l:List Oper).toArray.size=l.length+1:=by simp
 rw[hs,range_eq_range',range'_succ,wpOpsS];simp only[getElem?_toArray,getElem?_cons_zero,Region.wanted,if_true];have hr:∀(a:Act),(execOp a.eval ⟨some d,.call ⟨.builtin .recover,#[],#[]⟩,ty,pos,af,none⟩).run P w= .ok .recover w:=fun a=>by rw[execOp_builtin];rfl
 rw[hr];have GD:¬LetsOut (lift none K n (zW (fun Mo=>WC Mo P K n c (aG P K n fn fun v H'=>pd H')) (aG P K n fn fun v H'=>pd H'))):=by
  rintro⟨a,w,ds,e,H,_,_,h3⟩;exact h3
 have key:∀(cs1:List Frame),cs1= { c₀ with mode:=u' }::cs→wpOpsS P (⟨some d,.call ⟨.builtin .recover,#[],#[]⟩,ty,pos,af,none⟩::l).toArray (Exit.thenS (c.wpS P (bodyPostS P fn c₀ cs (fun e u2 w'=>u2=u'∧∃v H',e= .returned v∧Sat K w' H'∧pd H'))) (bodyPostS P fn c₀ cs (fun e u2 w'=>u2=u'∧∃v H',e= .returned v∧Sat K w' H'∧pd H'))) (range' 1 l.length) (({ tmps:=vs.toArray++Array.replicate (fn.ntmps-vs.toArray.size) undef,defers:=[] }:Act).put (some d) v0) cs1 w:=by
  rintro cs1 rfl;refine Fb GD ?_ l 1 (fun j=>by simp[Nat.add_comm 1 j]) _ _ (h _ w ((BD hn hl).put d hd v0) hw);rintro x a w ⟨ds,e',H',h1,h2,h3⟩;cases x
  case normal =>
   show c.wpS P _ a _ w;refine wpS_of_wp (wp_mono (h3 a w h1 h2) ?_);rintro x a w ⟨ds,e'',oV,k1,k2,k3⟩;cases x<;>first
    | (obtain⟨k0,v,H3,k4,k5,k6⟩:=k3;exact⟨k1.defers.trans k0,u',rfl,v,k4 a w k1 k2,rfl,v,H3,rfl,k5 w k2,k6⟩)
    | exact k3.elim
  case ret =>
   obtain⟨k0,v,H3,k4,k5,k6⟩:=h3;exact⟨h1.defers.trans k0,u',rfl,v,k4 a w h1 h2,rfl,v,H3,rfl,k5 w h2,k6⟩
  all_goals exact h3.elim
 rcases ahS c₀ cs hu with h1 | ⟨h1,rfl,rfl⟩
 ·rw[h1];exact key _ rfl
 ·rw[h1];exact key _ (by subst hu;rfl)
def NoP(Q:fG):fG
 | Mo,.panic c,e,H=>False
 | Mo,x,e,H=>Q Mo x e H
theorem WC.noP{Mo:Mode}{c:Code}(h:WC Mo P K n c (NoP Q) e H):WC Mo P K n c Q e H:=WC.mono h fun Mo x e H hh=>by
 cases x<;>first | exact hh | exact hh.elim
theorem qd.an1{f:FuncId}{args:Array Value}(h:qd P f args K H bad post Kc)(hp:∀H',¬Kc H'):aC P f args K H post:=fun w hw=>(h w hw).mono fun e w' ⟨H',h1,h2⟩=>by
 rcases h2 with ⟨v,a,b⟩ | ⟨_,b⟩
 ·exact⟨v,H',a,h1,b⟩
 ·exact absurd b (hp H')
theorem V.XG{Mo:Mode}{c:Bool}{dst:Option Tmp}{gd:Option (Nat×Bool)}{ty:TypeId}{pos:String}{af:Array Edge}{x:Operand}{T:Nat}{v u:Value}(hx:OV c e x v)(hI:∀w,(Instr.makeInterface T v).run P w= .ok u w):eX Mo P K n c e H ⟨dst,.makeInterface T x,ty,pos,af,gd⟩ u:=fun hc a w ha hw=>by
 show ((do pure (Next.value (←Instr.makeInterface T (a.eval x)))):Sem Next).run P w=_;rw[hx.ev hc ha];simp[hI w]
theorem V.typeAssert{Mo:Mode}{c b:Bool}{dst:Option Tmp}{gd:Option (Nat×Bool)}{ty:TypeId}{pos:String}{af:Array Edge}{x:Operand}{T S:Nat}{v u:Value}(hx:OV c e x v)(hI:∀w,(Instr.typeAssert v S T b).run P w= .ok u w):eX Mo P K n c e H ⟨dst,.typeAssert x S T b,ty,pos,af,gd⟩ u:=fun hc a w ha hw=>by
 show ((do pure (Next.value (←Instr.typeAssert (a.eval x) S T b))):Sem Next).run P w=_;rw[hx.ev hc ha];simp[hI w]
end
end Go.Sl
namespace Go.Proofs.YtcedojacbhnbiaaGreat
open Go.Sl Go.RowKit Tryz List Nat
def bR.sort(c:Fd→Fd→Int)(x:bR):bR:= { x with l:=eT (jZ c) x.l }
theorem bR.ahM(c:Fd→Fd→Int)(x:bR):(x.sort c).v=x.v:=by
 show Value.slice x.A (eT (jZ c) x.l).length x.c=_;rw[iO]
def fr0:bR:=⟨none,0,[]⟩
def pq(c:Fd→Fd→Int)(rs:List bR):Nat→List bR
 | 0=>rs
 | j+1=>(pq c rs j).set j ((rs.getD j fr0).sort c)
theorem qJ(c:Fd→Fd→Int)(rs:List bR):∀j,(pq c rs j).length=rs.length
 | 0=>rfl
 | j+1=>by rw[pq,length_set,qJ]
theorem zk(c:Fd→Fd→Int)(rs:List bR):∀j,j≤rs.length→∀i,(pq c rs j)[i]? =if i<j then (rs[i]?).map (bR.sort c) else rs[i]?
 | 0,_,i=>by simp[pq]
 | j+1,hj,i=>by
  rw[pq,getElem?_set,qJ,zk c rs j ay];by_cases h:j=i
  ·subst h;rw[if_pos rfl,if_pos ay,if_pos ay];simp[getD,show j<rs.length by omega]
  ·rw[if_neg h];by_cases h2:i<j
   ·rw[if_pos h2,if_pos ay]
   ·rw[if_neg h2,if_neg ay]
theorem aeg(c:Fd→Fd→Int)(rs:List bR)(j:Nat)(hj:j≤rs.length):(pq c rs j).map bR.v=rs.map bR.v:=by
 apply ext_getElem?;intro i;rw[getElem?_map,getElem?_map,zk c rs j hj];split
 ·rw[Option.map_map];congr 1;funext x;exact bR.ahM c x
 ·rfl
theorem aeL(c:Fd→Fd→Int)(rs:List bR):(pq c rs rs.length).map bR.l=(rs.map bR.l).map (eT (jZ c)):=by
 apply ext_getElem?;intro i;rw[getElem?_map,getElem?_map,getElem?_map,zk c rs _ (Nat.le_refl _)];by_cases h:i<rs.length
 ·rw[if_pos h,Option.map_map,Option.map_map];rfl
 ·rw[if_neg h,getElem?_eq_none ay];rfl
theorem mh(l:List Fd)(x:Fd):dD (l++[x])=dD l++x.cells:=by simp[dD]
theorem Dr{K:World}{F:List aA}{A:Option Addr}{n:Nat}{fs:List Fd}(hs:Seq K F A n 5 (dD fs)){k:Nat}{x:Fd}(hx:fs[k]? =some x){j:Nat}{v:Value}(hj:x.cells[j]? =some v):Rd K F (A.map (·.add (k*5+j))) v :=
 hs.rd _ _ (J7 (s:=5) Fd.len fs k j x v hx hj)
section
variable{K:World}{F:List aA}
def UQ(f:Nat)(c:Fd→Fd→Int)(ys:List Fd):Prop:=∀(K:World) (F:List aA) (A:Option Addr) (cap:Nat),aC prog 168 #[.slice A ys.length cap,.func (.func f) #[] #[]] K (bq (.slice A ys.length cap) 237 5 ys.length (dD ys)::F)
 (fun v H'=>∀w,Sat K w H'→Sat K w (bq (.slice A ys.length cap) 237 5 ys.length (dD (eT (jZ c) ys))::F))
theorem Am{f:Nat}{c:Fd→Fd→Int}(hf:E8 f c){aJ n cap:Nat}{A:Option Addr}{fs:List Fd}(hl:1≤aJ∧aJ≤64)(hs:Seq K F A n 5 (dD fs))(hn:fs.length=n)(h20:n<1000)(Vs:∀aV,aV<aJ→UQ f c (fs.filter (nR aV))) :
 aC prog 163 #[.i (aJ:Int),.slice A n cap,.func (.func f) #[] #[]] K F
  (fun v H'=>∃bo:Nat,∃rs:List bR,rs.length=aJ∧rs.map bR.l=(jm aJ fs).map (eT (jZ c))∧v= .tuple #[.slice (some ⟨bo,0,none⟩) aJ aJ,.i 0]∧H'=ah bo 170 (rs.map bR.v)::bN (rs.map bR.row)::F):=by
 refine aC.en func163 ntmps163 ?_;refine aj "amf5cY~lJb~1Z" ?_;refine WL.sK (m:=aJ) underlying238 aky (ak rfl) (ak rfl) rfl rfl ay rfl rfl rfl (fun bo=> ?_);refine aj "foP" ?_;refine WC.loop (σ:=Nat×List bR) (fun s=>[(0,.i (aJ:Int)),(2,.func (.func f) #[] #[]),(8,.slice (some ⟨bo,0,none⟩) aJ aJ),(22,.slice A n cap),(23,.i (n:Int)),(24,.i (s.1:Int))]) (fun s=>ah bo 170 (s.2.map bR.v)::bN (s.2.map bR.row)::F) (fun s=>s.1≤n∧s.2.length=aJ∧s.2.map bR.l=jm aJ (fs.take s.1)) (fun s=>n-s.1) (0,replicate aJ fr0) ⟨zero_le _,length_replicate,by
  rw[map_replicate];apply ext_getElem
  ·simp[jm]
  ·intro i h1 h2;simp[jm,fr0]⟩ bM (fun w h=>by
  dsimp only;rw[map_replicate,map_replicate];have key:∀m,∀H,Sat K w H→Sat K w (replicate m fr0.row++H):=fun m=>by
   induction m with
   | zero=>intro H h;exact h
   | succ m ih=>intro H h;exact Sat.iG (ih H h) _ _
  have h1:Sat K w (replicate aJ fr0.row++(ah bo 170 (replicate aJ fr0.v)::F)):=key aJ _ h;exact (Sat.all h1).p1) ?_
 rintro⟨k,rs⟩ ⟨hk,nW,wV⟩;dsimp only at hk nW wV ⊢;refine aj "UX" (aX (fun aR=> ?_) fun aR=> ?_)
 ·obtain⟨x,hx⟩:∃x,fs[k]? =some x:=⟨_,getElem?_eq_getElem ay⟩;have hel:∀(j:Nat) v,x.cells[j]? =some v→Rd K F (A.map (·.add (k*5+j))) v:=fun j v hj=>Dr hs hx hj;have AP:fs.take (k+1)=fs.take k++[x]:=by rw[take_add_one,hx];rfl
  have Pn:(k:Int).toNat=k:=ay;refine aj "Ha" ?_;refine WL.val (V.aI (v':=sp A (k*5)) (V.eD Aa (ak rfl) (ak rfl) (fun hc=>by omega) (fun hc=>by rw[Pn];repeat (first | exact hel 0 _ rfl | apply Rd.up))) (fun _=>by rw[Pn])) rfl ?_;refine WL.val (V.wH (vs:=x.cells) ⟨isAgg237,sizeOf237⟩ (ak rfl) rfl aK (fun _ j v hj=>by repeat (first | exact hel j v hj | apply Rd.up))) rfl ?_;refine aj "A" fun b10=> ?_;refine aj "KT7pxpc8~LVc88~~CVk" (aX (fun bB=> ?_) fun bB=> ?_)
  ·simp only[He] at bB;have h2:=bB;obtain⟨lb,WY⟩:∃lb:Nat,x.hd.aV=(lb:Int):=⟨x.hd.aV.toNat,by omega⟩;have hll:lb<aJ:=ay;obtain⟨r,hr⟩:∃r,r=rs[lb]'ay:=⟨_,rfl⟩;have Te:rs[lb]? =some r:=by rw[hr];exact getElem?_eq_getElem ay
   have Zx:r.l=(fs.take k).filter (nR lb):=by
    have h3:(rs.map bR.l)[lb]? =some r.l:=by rw[getElem?_map,Te];rfl
    rw[wV] at h3;simp only[jm,getElem?_map,getElem?_range hll,Option.map_some] at h3;injection h3 with h3
    exact h3.symm
   have SF:r.l.length≤1000:=by rw[Zx];exact Nat.le_trans (length_filter_le _ _) (by rw[length_take];omega)
   have ac3:(rs.map bR.row)[lb]'(by rw[length_map];omega)=r.row:=by rw[getElem_map,hr]
   have hvg:(rs.map bR.v)[0+x.hd.aV.toNat*1]? =some r.v:=by rw[WY,show 0+((lb:Nat):Int).toNat*1=lb by omega,getElem?_map,Te];rfl
   refine WC.sub (H':=bq (.slice r.A r.l.length r.c) 237 5 r.l.length (dD r.l)::ah bo 170 (rs.map bR.v)::bN ((rs.map bR.row).eraseIdx lb)::ah b10 237 x.cells::F) (Sub.refl _) (fun w h=>by
    have h4:=Sat.Gc (k:=lb) (by rw[length_map];omega) (h.aY 3 [2,1,0] rfl);rw[ac3] at h4;exact h4.aY 4 [0,2,1,3] rfl) ?_
   refine WC.fE (bN ((rs.map bR.row).eraseIdx lb)::ah b10 237 x.cells::F) (by kernel_rfl) ?_;refine aj "l0l1l2l3[4~~D6" ?_;refine WA.two (i:=5) (j:=7) gy (by kernel_rfl) rfl rfl ?_ ?_
   ·refine WL.val (V.load isAgg170 (ak rfl) (fun _=>by repeat (first | exact Rd.here hvg | apply Rd.up))) rfl ?_;refine aj "bn7" ?_;refine WL.buildSlice (E:=237) (cs:=[_,_,_,_,_]) (vs:=[(0,_)]) ⟨ak rfl,trivial⟩ rfl (Bq _ _ _ _ _) rfl (fun b49=> ?_);refine aj "bn8|" ?_;refine WL.append (m:=r.l.length) (q:=1) (news:=x.cells) underlying170 abU (ak rfl) (ak rfl) (Seq.all rfl) (fun u hu=>by simpa using all_eq_true.1 (EC x) u hu) ay rfl rfl (fun A5 c5 Z5 uf=> ?_);refine aj "b[9n:" ?_;refine WL.store (cs:=[_]) sizeOf170 (ak rfl) (ak rfl) rfl rfl rfl (dw.up (dw.up (dw.at_ (by rw[length_map];omega)))) ?_;refine aj "bM6" ?_;first
    | (
     refine⟨(k+1,rs.set lb ⟨A5,c5,r.l++[x]⟩),⟨by show k+1≤n;omega,by show (rs.set _ _).length=aJ;rw[length_set];exact nW, ?_⟩,(by show n-(k+1)<n-k;omega),.cons rfl (.cons rfl (.cons rfl (.cons rfl (.cons rfl (.cons (look_eq rfl (by simp)) (.nil _)))))),fun w h=> ?_⟩
     ·show (rs.set lb _).map bR.l=_;rw[AP,Em hll h2.1.1 WY,map_set,wV,←Zx]
     ·have h5:=h.aY 5 [0,3,2] rfl;have e1:bq (.slice A5 (r.l.length+1) c5) 237 5 (r.l.length+1) (dD r.l++x.cells)=bR.row ⟨A5,c5,r.l++[x]⟩:=by
       unfold bR.row;rw[mh,length_append];rfl
      rw[e1] at h5;have h6:=Sat.KR (l:=rs.map bR.row) (k:=lb) (by rw[length_map];omega) h5;have e2:(rs.map bR.v).set (0+x.hd.aV.toNat*1) (.slice A5 (r.l.length+1) c5)=(rs.set lb ⟨A5,c5,r.l++[x]⟩).map bR.v:=by
       rw[WY,show 0+((lb:Nat):Int).toNat*1=lb by omega,map_set];show _=(rs.map bR.v).set lb (.slice A5 (r.l++[x]).length c5);rw[length_append];rfl
      rw[e2,←map_set] at h6;exact h6.p1)
    | (
     refine⟨(k+1,rs),⟨by show k+1≤n;omega,nW, ?_⟩,(by show n-(k+1)<n-k;omega),.cons rfl (.cons rfl (.cons rfl (.cons rfl (.cons rfl (.cons (look_eq rfl (by simp)) (.nil _)))))),fun w h=>h.drop 1⟩;show rs.map bR.l=_;rw[AP,AY QS,wV])
   ·refine WL.buildSlice (E:=237) (cs:=[_,_,_,_,_]) (vs:=[(0,_)]) ⟨ak rfl,trivial⟩ rfl (Bq _ _ _ _ _) rfl (fun b49=> ?_);refine aj "bn5" ?_;refine WL.val (V.load isAgg170 (ak rfl) (fun _=>by repeat (first | exact Rd.here hvg | apply Rd.up))) rfl ?_;refine aj "bn8|" ?_;refine WL.append (m:=r.l.length) (q:=1) (news:=x.cells) underlying170 abU (ak rfl) (ak rfl) (Seq.all rfl) (fun u hu=>by simpa using all_eq_true.1 (EC x) u hu) ay rfl rfl (fun A5 c5 Z5 uf=> ?_);refine aj "b[9n:" ?_;refine WL.store (cs:=[_]) sizeOf170 (ak rfl) (ak rfl) rfl rfl rfl (dw.up (dw.up (dw.at_ (by rw[length_map];omega)))) ?_;refine aj "bM6" ?_;first
    | (
     refine⟨(k+1,rs.set lb ⟨A5,c5,r.l++[x]⟩),⟨by show k+1≤n;omega,by show (rs.set _ _).length=aJ;rw[length_set];exact nW, ?_⟩,(by show n-(k+1)<n-k;omega),.cons rfl (.cons rfl (.cons rfl (.cons rfl (.cons rfl (.cons (look_eq rfl (by simp)) (.nil _)))))),fun w h=> ?_⟩
     ·show (rs.set lb _).map bR.l=_;rw[AP,Em hll h2.1.1 WY,map_set,wV,←Zx]
     ·have h5:=h.aY 5 [0,3,2] rfl;have e1:bq (.slice A5 (r.l.length+1) c5) 237 5 (r.l.length+1) (dD r.l++x.cells)=bR.row ⟨A5,c5,r.l++[x]⟩:=by
       unfold bR.row;rw[mh,length_append];rfl
      rw[e1] at h5;have h6:=Sat.KR (l:=rs.map bR.row) (k:=lb) (by rw[length_map];omega) h5;have e2:(rs.map bR.v).set (0+x.hd.aV.toNat*1) (.slice A5 (r.l.length+1) c5)=(rs.set lb ⟨A5,c5,r.l++[x]⟩).map bR.v:=by
       rw[WY,show 0+((lb:Nat):Int).toNat*1=lb by omega,map_set];show _=(rs.map bR.v).set lb (.slice A5 (r.l++[x]).length c5);rw[length_append];rfl
      rw[e2,←map_set] at h6;exact h6.p1)
    | (
     refine⟨(k+1,rs),⟨by show k+1≤n;omega,nW, ?_⟩,(by show n-(k+1)<n-k;omega),.cons rfl (.cons rfl (.cons rfl (.cons rfl (.cons rfl (.cons (look_eq rfl (by simp)) (.nil _)))))),fun w h=>h.drop 1⟩;show rs.map bR.l=_;rw[AP,AY QS,wV])
  ·simp only[He] at bB;have h2:=bB;have QS:∀aV,aV<aJ→nR aV x=false:=fun aV hl2=>by
    unfold nR;rcases h2 with (h | h) | h
    ·rw[h];rfl
    ·rw[decide_eq_false (show ¬x.hd.aV=(aV:Int) by omega),Bool.and_false]
    ·rw[decide_eq_false (show ¬x.hd.aV=(aV:Int) by omega),Bool.and_false]
   refine aj "i6" ?_;first
   | (
    refine⟨(k+1,rs.set lb ⟨A5,c5,r.l++[x]⟩),⟨by show k+1≤n;omega,by show (rs.set _ _).length=aJ;rw[length_set];exact nW, ?_⟩,(by show n-(k+1)<n-k;omega),.cons rfl (.cons rfl (.cons rfl (.cons rfl (.cons rfl (.cons (look_eq rfl (by simp)) (.nil _)))))),fun w h=> ?_⟩
    ·show (rs.set lb _).map bR.l=_;rw[AP,Em hll h2.1.1 WY,map_set,wV,←Zx]
    ·have h5:=h.aY 5 [0,3,2] rfl;have e1:bq (.slice A5 (r.l.length+1) c5) 237 5 (r.l.length+1) (dD r.l++x.cells)=bR.row ⟨A5,c5,r.l++[x]⟩:=by
      unfold bR.row;rw[mh,length_append];rfl
     rw[e1] at h5;have h6:=Sat.KR (l:=rs.map bR.row) (k:=lb) (by rw[length_map];omega) h5;have e2:(rs.map bR.v).set (0+x.hd.aV.toNat*1) (.slice A5 (r.l.length+1) c5)=(rs.set lb ⟨A5,c5,r.l++[x]⟩).map bR.v:=by
      rw[WY,show 0+((lb:Nat):Int).toNat*1=lb by omega,map_set];show _=(rs.map bR.v).set lb (.slice A5 (r.l++[x]).length c5);rw[length_append];rfl
     rw[e2,←map_set] at h6;exact h6.p1)
   | (
    refine⟨(k+1,rs),⟨by show k+1≤n;omega,nW, ?_⟩,(by show n-(k+1)<n-k;omega),.cons rfl (.cons rfl (.cons rfl (.cons rfl (.cons rfl (.cons (look_eq rfl (by simp)) (.nil _)))))),fun w h=>h.drop 1⟩;show rs.map bR.l=_;rw[AP,AY QS,wV])
 ·refine aj "WN" ?_;obtain rfl:k=n:=by omega
  rw[take_of_length_le ay] at wV;refine aj "hoP" ?_;refine WC.loop (σ:=Nat) (fun j=>[(2,.func (.func f) #[] #[]),(8,.slice (some ⟨bo,0,none⟩) aJ aJ),(53,.slice (some ⟨bo,0,none⟩) aJ aJ),(54,.i (aJ:Int)),(55,.i (j:Int))]) (fun j=>ah bo 170 (rs.map bR.v)::bN ((pq c rs j).map bR.row)::F) (fun j=>j≤aJ) (fun j=>aJ-j) 0 (zero_le _) bM cu ?_;rintro j hj;refine aj "UX" (aX (fun eF=> ?_) fun eF=> ?_)
  ·have zU:j<aJ:=ay;obtain⟨r,hr⟩:∃r,r=rs[j]'ay:=⟨_,rfl⟩;have Te:rs[j]? =some r:=by rw[hr];exact getElem?_eq_getElem ay
   have rQ:=qJ c rs j;have hrj:(pq c rs j)[j]? =some r:=by rw[zk c rs j ay,if_neg (Nat.lt_irrefl _)];exact Te
   have ac3:((pq c rs j).map bR.row)[j]'(by rw[length_map];omega)=r.row:=by
    rw[getElem_map];congr 1;rw[getElem?_eq_getElem ay] at hrj;injection hrj
   have hvg:(rs.map bR.v)[0+((j:Nat):Int).toNat*1]? =some r.v:=by rw[show 0+((j:Nat):Int).toNat*1=j by omega,getElem?_map,Te];rfl
   have SF:UQ f c r.l:=by
    have h3:(rs.map bR.l)[j]? =some r.l:=by rw[getElem?_map,Te];rfl
    rw[wV] at h3;simp only[jm,getElem?_map,getElem?_range zU,Option.map_some] at h3;injection h3 with h3
    rw[←h3];exact Vs j zU
   refine aj "Ha~v" ?_;refine WL.val (V.load isAgg170 (ak rfl) (fun _=>Rd.here hvg)) rfl ?_;refine aj "g" ?_;refine WC.sub (H':=bq (.slice r.A r.l.length r.c) 237 5 r.l.length (dD r.l)::bN (((pq c rs j).map bR.row).eraseIdx j)::ah bo 170 (rs.map bR.v)::F) (Sub.refl _) (fun w h=>by
    have h4:=Sat.Gc (k:=j) (by rw[length_map];omega) h.p1;rw[ac3] at h4;exact h4) ?_
   refine aj "Q" ?_;refine WL.c2 call168 rfl rfl (SF _ _ _ _) rfl ?_;rintro v0 H0 h0;refine aj "b6" ?_;refine⟨j+1,zU,(by show aJ-(j+1)<aJ-j;omega),.cons rfl bM,fun w h=> ?_⟩;have h5:=h0 w h;have e1:bq (.slice r.A r.l.length r.c) 237 5 r.l.length (dD (eT (jZ c) r.l))=(r.sort c).row:=by
    unfold bR.row bR.sort;rw[iO]
   rw[e1] at h5;have h6:=Sat.KR (l:=(pq c rs j).map bR.row) (k:=j) (by rw[length_map];omega) h5;have e3:rs.getD j fr0=r:=by simp[getD,Te]
   rw[←map_set] at h6;dsimp only;rw[pq,e3];exact h6.p1
  ·refine aj "ReD" ?_;obtain rfl:j=aJ:=by omega
   refine aG.ret (H':=ah bo 170 ((pq c rs j).map bR.v)::bN ((pq c rs j).map bR.row)::F) (bI.eY rfl rfl rfl) (fun w h=>by rw[aeg c rs j ay];exact h) ⟨bo,pq c rs j,by rw[qJ,nW], ?_,rfl,rfl⟩;have h7:=aeL c rs;rw[nW] at h7;rw[h7,wV]
theorem Od{f:Nat}{c:Fd→Fd→Int}(hf:E8 f c){aJ n cap:Nat}{A:Option Addr}{fs:List Fd}(hl:1≤aJ∧aJ≤64)(hs:Seq K F A n 5 (dD fs))(hn:fs.length=n)(h20:n<20) :
 aC prog 163 #[.i (aJ:Int),.slice A n cap,.func (.func f) #[] #[]] K F
  (fun v H'=>∃bo:Nat,∃rs:List bR,rs.length=aJ∧rs.map bR.l=(jm aJ fs).map (eT (jZ c))∧v= .tuple #[.slice (some ⟨bo,0,none⟩) aJ aJ,.i 0]∧H'=ah bo 170 (rs.map bR.v)::bN (rs.map bR.row)::F) :=
 Am hf hl hs hn ay (fun aV _ _ _ _ _=>Ba hf rfl (Nat.lt_of_le_of_lt (length_filter_le _ _) ay))
end
theorem um{a b n:Nat}(ha:a<2^n)(hb:b*2^n<4611686018427387904)(ha2:a<4611686018427387904):bitsOf .or .i64 (a:Int) ((b*2^n:Nat):Int)=((a+b*2^n:Nat):Int):=by
 have h1:a+b*2^n<9223372036854775808:=ay;unfold bitsOf;dsimp only;rw[iN,iN,BitVec.toNat_or,BitVec.toNat_ofNat,BitVec.toNat_ofNat];have e1:a%2^IntKind.i64.bits=a:=mod_eq_of_lt (by show a<2^64;omega);have e2:b*2^n%2^IntKind.i64.bits=b*2^n:=mod_eq_of_lt (by show b*2^n<2^64;omega);rw[e1,e2];have e3:a ||| b*2^n=a+b*2^n:=by
  have :=two_pow_add_eq_or_of_lt ha b;rw[Nat.mul_comm b,Nat.or_comm,←this,Nat.add_comm]
 rw[e3];exact wrap_i64 ay
theorem yX{x n:Nat}(hn:n≤24)(hx:x<256):IntKind.i64.wrap ((x:Int)*2^(min (n:Int).toNat IntKind.i64.bits))=((x*2^n:Nat):Int):=by
 have h1:min (n:Int).toNat IntKind.i64.bits=n:=by rw[Int.toNat_natCast];exact Nat.min_eq_left (by show n≤64;omega)
 have h2:x*2^n≤255*2^24:=Nat.mul_le_mul ay (Nat.pow_le_pow_right aK hn);rw[h1,show (x:Int)*2^n=((x*2^n:Nat):Int) by rw[Int.natCast_mul,Int.natCast_pow];rfl];exact wrap_i64 ay
theorem uP{g:bL}{d:List Nat}{h:Hd}(hg:g.aU)(hp:jA g d=some h):d.length=g.room.toNat∧h.may g=true∧d=jX g h:=by
 unfold jA at hp;split at hp
 ·rename_i h1;injection hp with hp
  subst hp;simp only[Bool.and_eq_true,decide_eq_true_eq] at h1;exact⟨by rw[←h1.2,qz hg],h1.1,h1.2.symm⟩
 ·cases hp
section
variable{g:bL}{K:World}{F:List aA}
theorem BJ(hg:g.aU)(h:Hd)(hn:h.len≤1099511627776)(hl:0≤h.aV)(hk:0≤h.num) :
 aC prog 123 #[g.v,h.v] K F (fun v H'=>(h.may g=true∧∃A' c',v= .tuple #[.slice A' g.room.toNat c',.i 0]∧H'=bq (.slice A' g.room.toNat c') 5 1 g.room.toNat (av .u8 (jX g h))::F) ∨
  (h.may g=false∧v= .tuple #[.slice none 0 0,.i 1]∧H'=F)):=by
 have hr:=bL.jW hg;refine aC.en func123 ntmps123 ?_;refine aj "a&" fun b2=> ?_;refine aj "~~0" fun b3=> ?_;refine aj "mtaG~~u" ?_;refine WL.t2 call189 rfl rfl (aaE hg h hn) rfl ?_;refine aj "*k" (aX (fun aN=> ?_) fun aN=> ?_)
 ·have h0:=aN;simp only[Bool.not_eq_true',Bool.not_eq_false'] at h0;refine aj "aD" ?_;exact aG.ret (H':=F) (bI.eY rfl rfl rfl) (fun w h=>h.drop 2) (.inr ⟨h0,rfl,rfl⟩)
 ·have h0:=aN;simp only[Bool.not_eq_true',Bool.not_eq_false'] at h0;have J5:=h0;unfold Hd.may bL.fits at J5;simp only[Bool.and_eq_true,decide_eq_true_eq] at J5;refine aj "iaG" ?_;refine WL.t1 call122 rfl (l6 hg) rfl ?_;refine aj "Cx" ?_;refine WL.buildSlice (E:=5) (cs:=[_,_,_,_]) (vs:=[(0,_),(1,_),(2,_),(3,_)]) ⟨ak rfl,ak rfl,ak rfl,ak rfl,trivial⟩ rfl (gK _ _ _ _) rfl (fun b18=> ?_);refine aj "~~_ppp" ?_;refine WL.buildSlice (E:=3) (cs:=[_,_,_]) (vs:=[(0,_),(1,_),(2,_)]) ⟨ak rfl,ak rfl,ak rfl,trivial⟩ rfl (I8 _ _ _) rfl (fun b26=> ?_);refine WL.c2 call190 rfl rfl (abz (cs:=[.int .u8 99,.int .u8 97,.int .u8 115,.int .u8 101]) (by repeat (first | exact Seq.akW rfl | apply Seq.up)) (Seq.all rfl)) rfl ?_;rintro _ _ ⟨A1,c1,rfl,rfl⟩;refine aj "0(" ?_;refine WL.GR (m:=16) (q:=g.room.toNat-16) underlying34 underlying3 zo rfl rfl (ak rfl) (ak rfl) ay ay ay rfl (fun A2 c2 Pq bB=> ?_);refine aj "D" ?_;have e1:16+(g.room.toNat-16)=g.room.toNat:=ay;refine aG.ret (H':=bq (.slice A2 g.room.toNat c2) 5 1 g.room.toNat (av .u8 (jX g h))::F) (bI.eY rfl (look_eq rfl (by rw[e1])) rfl) (fun w hw=> ?_) (.inl ⟨h0,A2,c2,rfl,rfl⟩);have h':=hw.aY 5 [0] rfl;rw[e1,Ey hl,Ey J5.1.1.1.1.1,Ey hk] at h';unfold jX;rw[dA,dA,dA,dA,d9];exact h'
theorem mE{A:Option Addr}{m cap b i:Nat}{d:List Nat}(hs:Seq K F A m 1 (av .u8 d))(h8:aB 256 d)(hb:Rd K F (some ⟨b,0,none⟩) (.slice A m cap))(hi:i+3<m)(hm:m≤1000000) :
 aL prog 157 #[.i (i:Int),ptr b 0] K F (.i (Bl d i)):=by
 have hl:d.length=m:=by simpa [av] using hs.len
 obtain⟨x0,e0⟩:∃x,x=d.getD i 0:=⟨_,rfl⟩;obtain⟨x1,e1⟩:∃x,x=d.getD (i+1) 0:=⟨_,rfl⟩;obtain⟨x2,e2⟩:∃x,x=d.getD (i+2) 0:=⟨_,rfl⟩;obtain⟨x3,e3⟩:∃x,x=d.getD (i+3) 0:=⟨_,rfl⟩;have b0:x0<256:=by rw[e0];exact h8.at_ aK _
 have b1:x1<256:=by rw[e1];exact h8.at_ aK _
 have b2:x2<256:=by rw[e2];exact h8.at_ aK _
 have b3:x3<256:=by rw[e3];exact h8.at_ aK _
 have rd:∀(k:Nat) (j:Int) x,j=(i+k:Nat)→k≤3→x=d.getD (i+k) 0→Rd K F (A.map (·.add (j.toNat*1))) (.int .u8 (x:Int)):=fun k j x hj hk hx=>by
  rw[hj,hx,Int.toNat_natCast];exact hs.jv ay
 have r0:=rd 0 (i:Int) x0 ay ay e0;have r1:=rd 1 ((i:Int)+1) x1 ay ay e1;have r2:=rd 2 ((i:Int)+2) x2 ay ay e2;have r3:=rd 3 ((i:Int)+3) x3 ay ay e3;have O4:Bl d i=((x0+x1*2^8+x2*2^16+x3*2^24:Nat):Int):=by unfold Bl;rw[←e0,←e1,←e2,←e3];omega
 rw[O4];refine aC.en func157 ntmps157 ?_;refine aj "at~k" ?_;refine WQ.val (V.load isAgg34 (ak rfl) (fun _=>hb)) rfl ?_;refine aj "+" ?_;refine WQ.val (V.eD eu (ak rfl) (ak rfl) (fun hc=>by omega) (fun hc=>r0)) rfl ?_;refine WQ.val (V.load isAgg5 (ak rfl) (fun hc=>r0)) rfl ?_;refine aj "~>" ?_;refine WQ.val (V.load isAgg34 (ak rfl) (fun _=>hb)) rfl ?_;refine aj "+~~m" ?_;refine WQ.val (V.eD eu (ak rfl) (ak rfl) (fun hc=>by omega) (fun hc=>r1)) rfl ?_;refine WQ.val (V.load isAgg5 (ak rfl) (fun hc=>r1)) rfl ?_;refine aj "~>" ?_;refine WQ.val (V.aI (v':= .i ((x1*2^8:Nat):Int)) (V.shl (ak rfl) (ak rfl) ay) (fun _=>congrArg _ (yX (n:=8) aK b1))) rfl ?_;refine WQ.val (V.aI (v':= .i ((x0+x1*2^8:Nat):Int)) (V.or (ak rfl) (ak rfl)) (fun _=>congrArg _ (um (n:=8) ay ay ay))) rfl ?_;refine WQ.val (V.load isAgg34 (ak rfl) (fun _=>hb)) rfl ?_;refine aj "+~~m" ?_;refine WQ.val (V.eD eu (ak rfl) (ak rfl) (fun hc=>by omega) (fun hc=>r2)) rfl ?_;refine WQ.val (V.load isAgg5 (ak rfl) (fun hc=>r2)) rfl ?_;refine aj "~>" ?_;refine WQ.val (V.aI (v':= .i ((x2*2^16:Nat):Int)) (V.shl (ak rfl) (ak rfl) ay) (fun _=>congrArg _ (yX (n:=16) aK b2))) rfl ?_;refine WQ.val (V.aI (v':= .i ((x0+x1*2^8+x2*2^16:Nat):Int)) (V.or (ak rfl) (ak rfl)) (fun _=>congrArg _ (um (n:=16) ay ay ay))) rfl ?_;refine WQ.val (V.load isAgg34 (ak rfl) (fun _=>hb)) rfl ?_;refine aj "+~~m" ?_;refine WQ.val (V.eD eu (ak rfl) (ak rfl) (fun hc=>by omega) (fun hc=>r3)) rfl ?_;refine WQ.val (V.load isAgg5 (ak rfl) (fun hc=>r3)) rfl ?_;refine aj "~>" ?_;refine WQ.val (V.aI (v':= .i ((x3*2^24:Nat):Int)) (V.shl (ak rfl) (ak rfl) ay) (fun _=>congrArg _ (yX (n:=24) aK b3))) rfl ?_;refine WQ.val (V.aI (v':= .i ((x0+x1*2^8+x2*2^16+x3*2^24:Nat):Int)) (V.or (ak rfl) (ak rfl)) (fun _=>congrArg _ (um (n:=24) ay ay ay))) rfl ?_;exact aj "~m~g~D$" trivial
theorem SG{A B:Option Addr}{m q cap cap':Nat}{d e:List Nat}(hs:Seq K F A m 1 (av .u8 d))(hq:Seq K F B q 1 (av .u8 e))(hd:aB 256 d)(he:aB 256 e) :
 aL prog 158 #[.slice A m cap,.slice B q cap'] K F (.bool (decide (d=e))):=by
 refine aC.en func158 ntmps158 ?_;refine aj "aj" ?_;refine WL.val (V.ug (xs:=bF d) underlying34 underlying5 underlying9 (ak rfl) (fun _=>by rw[←mO];exact hs)) rfl ?_;refine WL.mv rfl rfl ?_;refine WL.val (V.ug (xs:=bF e) underlying34 underlying5 underlying9 (ak rfl) (fun _=>by rw[←mO];exact hq)) rfl ?_;refine WL.val (V.aji (ak rfl) (ak rfl)) rfl (aj "d>" ?_);rw[OW (kR hd) (kR he)];congr 1;apply decide_eq_decide.2;exact⟨fun h=>by rw[←om d,h,om],fun h=>by rw[h]⟩
def gT(g:bL)(d:List Nat):Hd:=(jA g d).getD ⟨0,0,0⟩
def iX(g:bL)(d:List Nat):Int:=match jA g d with | some _=>0 | none=>if d.length=g.room.toNat then 4 else 1
theorem Ih{A:Option Addr}{m cap:Nat}{d:List Nat}(hg:g.aU)(hs:Seq K F A m 1 (av .u8 d))(h8:aB 256 d)(hm:m≤1000000) :
 aL prog 91 #[g.v,.slice A m cap] K F (.tuple #[(gT g d).v,.i (iX g d)]):=by
 have hl:d.length=m:=by simpa [av] using hs.len
 have hr:=bL.jW hg;by_cases hlen:(m:Int)=g.room
 rotate_left
 ·have hn:jA g d=none:=by
   cases hp:jA g d with
   | none=>rfl
   | some h=>have :=(uP hg hp).1;omega
  have e1:gT g d=⟨0,0,0⟩:=by unfold gT;rw[hn];rfl
  have e2:iX g d=1:=by unfold iX;rw[hn];exact if_neg ay
  rw[e1,e2];refine aC.en func91 ntmps91 ?_;refine aj "a&" fun b2=> ?_;refine aj "~h" fun b3=> ?_;refine aj "A" fun b4=> ?_;refine aj "xG" ?_;refine WL.t1 call122 rfl (l6 hg) rfl ?_;refine aj "Cfsc~~|~HY~*Jb" ?_;refine WC.NC rfl ((by simp;omega)) ?_;refine aj "a]~;d" ?_;exact aG.ret (H':=F) (bI.two rfl (R1.nG (vs:=[_,_,_]) rfl ⟨isAgg157,sizeOf157⟩ rfl aeN) (R1.tmp rfl)) (fun w h=>h.drop 3) ⟨rfl,rfl⟩
 obtain⟨h,hh⟩:∃h,h=D8 d:=⟨_,rfl⟩;have db:∀i,0≤Bl d i∧Bl d i<4294967296:=fun i=>by
  have x0:=h8.at_ aK i;have x1:=h8.at_ aK (i+1);have x2:=h8.at_ aK (i+2);have x3:=h8.at_ aK (i+3);unfold Bl;omega
 have hb:h=⟨Bl d 4,Bl d 8,Bl d 12⟩:=hh;have h0l:0≤h.aV:=by rw[hb];exact (db 4).1
 have h0k:0≤h.num:=by rw[hb];exact (db 12).1
 have h0n:h.len≤1099511627776:=by rw[hb];have :=(db 8).2;show Bl d 8≤_;omega
 cases Pj:h.may g with
 | false =>
  have hn:jA g d=none:=by unfold jA;rw[←hh,Pj];rfl
  have e1:gT g d=⟨0,0,0⟩:=by unfold gT;rw[hn];rfl
  have e2:iX g d=4:=by unfold iX;rw[hn];exact if_pos ay
  rw[e1,e2];have J6:∀(K:World) (F:List aA),aL prog 123 #[g.v,h.v] K F (.tuple #[.slice none 0 0,.i 1]):=fun K F=>(BJ hg h h0n h0l h0k).mono (fun v H' hx=>by
   rcases hx with ⟨h1,_⟩ | ⟨_,h2,h3⟩
   ·rw[Pj] at h1;cases h1
   ·exact⟨h2,h3⟩)
  rw[hb] at J6;refine aC.en func91 ntmps91 ?_;refine aj "a&" fun b2=> ?_;refine aj "~h" fun b3=> ?_;refine aj "A" fun b4=> ?_;refine aj "xG" ?_;refine WL.t1 call122 rfl (l6 hg) rfl ?_;refine aj "Cfsc~~|~HY~*Jb~1ia~3j" ?_;refine WL.nC (first:=[]) (vs:=[_]) (captured:=[ptr b3 0]) call157 (ak rfl) ⟨ak rfl,trivial⟩ (mE (i:=4) (by repeat (first | exact hs | apply Seq.up)) h8 nS ay hm) rfl ?_;rintro _ _ ⟨rfl,rfl⟩;refine WL.mv rfl rfl ?_;refine WL.nC (first:=[]) (vs:=[_]) (captured:=[ptr b3 0]) call157 (ak rfl) ⟨ak rfl,trivial⟩ (mE (i:=8) (by repeat (first | exact hs | apply Seq.up)) h8 nS ay hm) rfl ?_;rintro _ _ ⟨rfl,rfl⟩;refine WL.mv rfl rfl ?_;refine WL.nC (first:=[]) (vs:=[_]) (captured:=[ptr b3 0]) call157 (ak rfl) ⟨ak rfl,trivial⟩ (mE (i:=12) (by repeat (first | exact hs | apply Seq.up)) h8 nS ay hm) rfl ?_;rintro _ _ ⟨rfl,rfl⟩;refine WL.val (V.build (vs:=[(0,_),(1,_),(2,_)]) ⟨ak rfl,ak rfl,ak rfl,trivial⟩ rfl (vJ _ _ _)) rfl ?_;refine aj "A" fun b9=> ?_;refine aj "~;BaG~~u" ?_;refine WL.t2 call123 rfl rfl (J6 _ _) rfl ?_;refine aj "Cjsc" ?_;refine WL.Dh (oj:=_) rfl rfl rfl rfl rfl (fun d hd=>by injection hd with hd;subst hd;rfl) ?_;refine WL.Dh (oj:=_) rfl rfl rfl rfl rfl (fun d hd=>by injection hd with hd;subst hd;rfl) ?_;refine WL.Dh (oj:=_) rfl rfl rfl rfl rfl (fun d hd=>by injection hd with hd;subst hd;rfl) ?_;refine WL.Dh (oj:=_) rfl rfl rfl rfl rfl (fun d hd=>by injection hd with hd;subst hd;rfl) ?_;refine WL.val (V.afz (ak rfl) (ak rfl)) rfl (aj "b2a]~;d" ?_);exact aG.ret (H':=F) (bI.two rfl (R1.nG (vs:=[_,_,_]) rfl ⟨isAgg157,sizeOf157⟩ rfl aeN) (R1.tmp rfl)) (fun w h=>h.drop 4) ⟨rfl,rfl⟩
 | true =>
  have J6:∀(K:World) (F:List aA),aC prog 123 #[g.v,h.v] K F (fun v H'=>∃A' c',v= .tuple #[.slice A' g.room.toNat c',.i 0]∧H'=bq (.slice A' g.room.toNat c') 5 1 g.room.toNat (av .u8 (jX g h))::F):=fun K F=>(BJ hg h h0n h0l h0k).mono (fun v H' hx=>by
   rcases hx with ⟨_,h2⟩ | ⟨h1,_⟩
   ·exact h2
   ·rw[Pj] at h1;cases h1)
  have hpf:jA g d=if jX g h=d then some h else none:=by
   unfold jA;rw[←hh,Pj,Bool.true_and];by_cases he:jX g h=d
   ·rw[decide_eq_true he,if_pos rfl,if_pos he]
   ·rw[decide_eq_false he,if_neg Bool.false_ne_true,if_neg he]
  have BQ:=qz hg h;have hb8:=yu g h;obtain⟨hB,hhB⟩:∃hB,hB=jX g h:=⟨_,rfl⟩;rw[←hhB] at BQ hb8 hpf J6;rw[hb] at J6;refine aC.en func91 ntmps91 ?_;refine aj "a&" fun b2=> ?_;refine aj "~h" fun b3=> ?_;refine aj "A" fun b4=> ?_;refine aj "xG" ?_;refine WL.t1 call122 rfl (l6 hg) rfl ?_;refine aj "Cfsc~~|~HY~*Jb~1ia~3j" ?_;refine WL.nC (first:=[]) (vs:=[_]) (captured:=[ptr b3 0]) call157 (ak rfl) ⟨ak rfl,trivial⟩ (mE (i:=4) (by repeat (first | exact hs | apply Seq.up)) h8 nS ay hm) rfl ?_;rintro _ _ ⟨rfl,rfl⟩;refine WL.mv rfl rfl ?_;refine WL.nC (first:=[]) (vs:=[_]) (captured:=[ptr b3 0]) call157 (ak rfl) ⟨ak rfl,trivial⟩ (mE (i:=8) (by repeat (first | exact hs | apply Seq.up)) h8 nS ay hm) rfl ?_;rintro _ _ ⟨rfl,rfl⟩;refine WL.mv rfl rfl ?_;refine WL.nC (first:=[]) (vs:=[_]) (captured:=[ptr b3 0]) call157 (ak rfl) ⟨ak rfl,trivial⟩ (mE (i:=12) (by repeat (first | exact hs | apply Seq.up)) h8 nS ay hm) rfl ?_;rintro _ _ ⟨rfl,rfl⟩;refine WL.val (V.build (vs:=[(0,_),(1,_),(2,_)]) ⟨ak rfl,ak rfl,ak rfl,trivial⟩ rfl (vJ _ _ _)) rfl ?_;refine aj "A" fun b9=> ?_;refine aj "~;BaG~~u" ?_;refine WL.c2 call123 rfl rfl (J6 _ _) rfl ?_;rintro _ _ ⟨A6,c6,rfl,rfl⟩;refine aj "Cjsc~Cc~C^~C" ?_;refine WL.t2 call158 rfl rfl (SG (d:=hB) (e:=d) (by repeat (first | exact bq.seq (by rw[au,BQ,Nat.mul_one]) | apply Seq.up)) (by repeat (first | exact hs | apply Seq.up)) hb8 h8) rfl ?_;refine aj "~C*" ?_;refine WL.val (V.BL (ak rfl) (ak rfl)) rfl ?_;refine aj "k" (aX (fun aR=> ?_) fun aR=> ?_)
  ·have h1:=aR;simp at h1;have e1:gT g d=⟨0,0,0⟩:=by unfold gT;rw[hpf,if_neg h1];rfl
   have e2:iX g d=4:=by unfold iX;rw[hpf,if_neg h1];exact if_pos ay
   refine aj "a]~;d" ?_;rw[e1,e2];exact aG.ret (H':=F) (bI.two rfl (R1.nG (vs:=[_,_,_]) rfl ⟨isAgg157,sizeOf157⟩ rfl aeN) (R1.tmp rfl)) (fun w h=>h.aY 5 [] rfl) ⟨rfl,rfl⟩
  ·have h1:=aR;simp at h1;have e1:gT g d=h:=by unfold gT;rw[hpf,if_pos h1];rfl
   have e2:iX g d=0:=by unfold iX;rw[hpf,if_pos h1]
   refine aj "ia~~u~;d" ?_;rw[e1,e2,hb];exact aG.ret (H':=F) (bI.two rfl (R1.nG (vs:=[_,_,_]) rfl ⟨isAgg157,sizeOf157⟩ rfl aeN) (R1.tmp rfl)) (fun w h=>h.aY 5 [] rfl) ⟨rfl,rfl⟩
end
namespace aD
def ku(S:aD)(b:Int):Option Fd :=
 if (S.bX b 0).err≠0 then none
 else match jA S.g (S.bX b 0).d with
  | none=>none
  | some h=>some ⟨b,h,(S.ny b (1+S.g.bO h.len)).1⟩
def dU(S:aD):List Fd:=S.iF.filterMap S.ku
def oW(S:aD):Int:=(S.ny 0 0).2
theorem rD(S:aD):∀k x,x∈S.fK k→0≤x∧x<(k:Int)∧S.up=true∧S.bad x=false
 | 0,x,h=>by simp[fK] at h
 | k+1,x,h=>by
  rw[fK] at h;split at h
  ·rename_i hg;rcases mem_append.1 h with h | h
   ·have :=rD S k x h;exact⟨this.1,by omega,this.2.2⟩
   ·have :=mem_singleton.1 h;subst this;simp only[Bool.and_eq_true,Bool.not_eq_true'] at hg;exact⟨by omega,by omega,hg⟩
  ·have :=rD S k x h;exact⟨this.1,by omega,this.2.2⟩
end aD
theorem Db:∀(l:List (Option (LL×Nat))) (d:List Nat) (n:Nat),aB 256 d→(∀o∈l,∀p k,o=some (p,k)→aB 256 p.1)→aB 256 (jT l d n).d
 | [],d,n,h,_=>h
 | none::l,d,n,h,_=>fun x hx=>by simp[jT] at hx
 |
  some (p,k)::l,d,n,h,hl=>by
  rw[jT];exact Db l _ _ (h.append (hl _ (.head _) p k rfl)) (fun o ho=>hl o (.tail _ ho))
theorem Cm{t:Nat}{c:List Nat}{L:Nat}{p:LL}(h:aB 256 p.1):∀k,aB 256 (dx t c L p k).1.1
 | 0=>h
 | k+1=>by
  have ih:=Cm (c:=c) (L:=L) (t:=t) h k;rw[dx];split
  ·show aB 256 (lS t _ k).1;unfold lS;split
   ·exact mK ih _
   ·exact ih
  ·exact ih
theorem U8{t:Nat}{d m:List Nat}(h:aB 256 d){p:LL}{k:Nat}(hd:rW t d m=some (p,k)):aB 256 p.1:=by grind [rW,Cm]
theorem P6{t S B:Nat}{raw:List Nat}(h:aB 256 raw):aB 256 (fB t S B raw).d:=by
 unfold fB;split
 ·intro x hx;simp at hx
 ·refine Db _ _ _ (fun x hx=>by simp at hx) (fun o ho p k hp=> ?_);obtain⟨j,_,rfl⟩:=mem_map.1 ho;unfold BG at hp;exact U8 (aB.take (aB.drop h)) hp
theorem X4{t S B:Nat}{raw:List Nat}(ht:t≤8)(hS:S≤8)(hB:B≤512):(fB t S B raw).d.length≤S*B:=by
 unfold fB;split
 ·exact zero_le _
 ·have key:∀(l:List (Option (LL×Nat))) (d:List Nat) (n:Nat),(∀o∈l,∀p k,o=some (p,k)→p.1.length≤B)→(jT l d n).d.length≤d.length+l.length*B:=fun l=>by
   induction l with
   | nil=>intro d n _;show d.length≤_;omega
   | cons o l ih =>
    intro d n h;cases o with
    | none=>exact zero_le _
    | some r =>
     obtain⟨p,k⟩:=r;rw[jT];have h1:=ih (d++p.1) (max n k) (fun o ho=>h o (.tail _ ho));have h2:=h _ (.head _) p k rfl;rw[length_append] at h1;rw[length_cons,succ_mul];omega
  have :=key ((List.range S).map (BG t B (B+aM t) raw)) [] 0 (fun o ho p k hp=>by
   obtain⟨j,_,rfl⟩:=mem_map.1 ho;unfold BG at hp;have h1:(CG B (B+aM t) raw j).length≤B:=by unfold CG;rw[length_take];omega
   have h2:=(V9 t (CG B (B+aM t) raw j) (RI B (B+aM t) raw j) ay ht).1;rw[hp] at h2;exact Nat.le_trans h2 h1)
  rw[length_map,length_range] at this
  simpa using this
theorem Cw.Ok.rZ{C:Cw}(hC:C.Ok)(b p:Int):aB 256 (C.aF.bX b p).d∧(C.aF.bX b p).d.length≤4096:=by
 have hg:=hC.aU;unfold bL.aU at hg;unfold aD.bX;split
 ·exact⟨fun x hx=>by simp at hx,zero_le _⟩
 ·refine⟨P6 (hC.vX b p).2.1, ?_⟩;have h1:=X4 (t:=C.aF.g.fl.toNat) (S:=C.aF.g.se.toNat) (B:=C.aF.g.sb.toNat) (raw:=C.aF.jH b p) (by show C.g.fl.toNat≤8;omega) (by show C.g.se.toNat≤8;omega) (by show C.g.sb.toNat≤512;omega);have h2:C.aF.g.se.toNat*C.aF.g.sb.toNat≤8*512:=Nat.mul_le_mul (by show C.g.se.toNat≤8;omega) (by show C.g.sb.toNat≤512;omega);exact Nat.le_trans h1 h2
section
variable{bc bd:Nat}{C:Cw}{g:bL}{K:World}{F:List aA}
theorem PS(hC:C.Ok)(hg:C.g=g)(h12:g.bl≤19)(he:C.aF.oW=0):aC prog 99 #[ptr bd 0] K (C.A bc::dH bd bc g::F)
 (fun v H'=>∃A' c',v= .tuple #[.slice A' C.aF.dU.length c',.i 0]∧H'=C.A bc::dH bd bc g::bq (.slice A' C.aF.dU.length c') 237 5 C.aF.dU.length (dD C.aF.dU)::F):=by
 have zX:g.aU:=by rw[←hg];exact hC.aU
 have wS:=zX;unfold bL.aU at wS;obtain⟨gd,SX⟩:∃gd,gd=C.aF.iF:=⟨_,rfl⟩;have hgl:gd.length≤19:=by
  have :=aD.jN C.aF C.aF.g.bl.toNat;have h2:C.aF.g.bl.toNat≤19:=by rw[show C.aF.g=C.g from rfl,hg];omega
  rw[SX];unfold aD.iF;omega
 have alu:C.aF.dU=gd.filterMap C.aF.ku:=by rw[SX];rfl
 refine aC.en func99 ntmps99 ?_;refine aj "amf~abOZ" ?_;refine WL.t1 call100 rfl (kC) rfl ?_;refine aj "A" fun b4=> ?_;refine aj "Kbr~~b" ?_;refine WL.c3 call126 rfl rfl rfl (vV hC hg 0 0 aK) rfl ?_;rintro _ _ ⟨rfl,rfl⟩;refine aj "Cjsb" ?_;refine WC.jq rfl ((by simp;exact he)) ?_;refine aj "iaf" ?_;refine WL.c1 call118 rfl (Fg hC hg) rfl ?_;rintro _ _ ⟨Ag,cg,rfl,rfl⟩;rw[←SX];refine aj "oP" ?_;refine WC.loop (σ:=Nat×Option Addr×Nat) (fun s=>[(0,ptr bd 0),(4,ptr b4 0),(7,.slice s.2.1 (((gd.take s.1).filterMap C.aF.ku).length) s.2.2),(31,.slice Ag gd.length cg),(32,.i (gd.length:Int)),(33,.i (s.1:Int))]) (fun s=>C.A bc::dH bd bc g::bq (.slice s.2.1 (((gd.take s.1).filterMap C.aF.ku).length) s.2.2) 237 5 (((gd.take s.1).filterMap C.aF.ku).length) (dD ((gd.take s.1).filterMap C.aF.ku))::bq (.slice Ag gd.length cg) 3 1 gd.length (ints .i64 gd)::ah b4 23 [.i g.bl,.i g.pg,.i g.se,.i g.sb,.i g.fl]::F) (fun s=>s.1≤gd.length) (fun s=>gd.length-s.1) (0,none,0) (zero_le _) bM (fun w h=>(Sat.iG h 237 5).aY 5 [2,3,0,1,4] rfl) ?_;rintro⟨k,Ao,co⟩ hk;dsimp only at hk ⊢;obtain⟨fs,hfs⟩:∃fs,fs=(gd.take k).filterMap C.aF.ku:=⟨_,rfl⟩;have hfl:fs.length≤19:=by rw[hfs];exact Nat.le_trans (length_filterMap_le _ _) (by rw[length_take];omega)
 rw[←hfs];refine aj "UX" (aX (fun bB=> ?_) fun bB=> ?_)
 ·have hkg:k<gd.length:=ay;obtain⟨b,hb⟩:∃b,b=gd.getD k 0:=⟨_,rfl⟩;have AP:gd.take (k+1)=gd.take k++[b]:=by rw[take_add_one,getElem?_eq_getElem hkg,hb];simp[getD,hkg]
  have Kj:(gd.take (k+1)).filterMap C.aF.ku=fs++(C.aF.ku b).toList:=by rw[AP,filterMap_append,←hfs];cases hsb:C.aF.ku b<;>simp[hsb]
  have Te:∀ {X:List aA},Rd K (bq (.slice Ag gd.length cg) 3 1 gd.length (ints .i64 gd)::X) (Ag.map (·.add ((k:Int).toNat*1))) (.i b):=fun {X}=>by
   have h1:Seq K (bq (.slice Ag gd.length cg) 3 1 gd.length (ints .i64 gd)::X) Ag gd.length 1 (ints .i64 gd):=bq.seq (by rw[bY,Nat.mul_one]);have h2:=Seq.jk h1 (j:=(k:Int)) ay;rw[hb]
   rwa [show (k:Int).toNat=k by omega] at h2 ⊢
  have hbm:=aD.rD C.aF C.aF.g.bl.toNat b (by show b∈C.aF.iF;rw[←SX,hb];simp only[getD,getElem?_eq_getElem hkg];exact getElem_mem _);refine aj "Ha" ?_;refine WL.val (V.eD fZ (ak rfl) (ak rfl) (fun hc=>by omega) (fun hc=>by repeat (first | exact Te | apply Rd.up))) rfl ?_;refine WL.val (V.load isAgg3 (ak rfl) (fun hc=>by repeat (first | exact Te | apply Rd.up))) rfl ?_;refine aj "0" ?_;refine WL.c3 call90 rfl rfl rfl (xV hC hg b 0) rfl ?_;rintro _ _ ⟨Ad,cd,rfl,rfl⟩;obtain⟨G,hG⟩:∃G,G=C.aF.bX b 0:=⟨_,rfl⟩;have hGf:=hC.rZ b 0;have hsb:C.aF.ku b=if G.err≠0 then none else match jA g G.d with
   | none=>none
   | some h=>some ⟨b,h,(C.aF.ny b (1+g.bO h.len)).1⟩:=by unfold aD.ku;rw[←hG,show C.aF.g=g from hg]
  rw[←hG] at hGf ⊢;refine aj "~~b!~Mmmfsb~d" (aX (fun eF=> ?_) fun eF=> ?_)
  ·have h3:=eF;rw[if_pos h3] at hsb;rw[hsb] at Kj;refine aj "R6" ?_;first
   | (
    refine⟨(k+1,A5,c5),hkg,(by show gd.length-(k+1)<gd.length-k;omega),.cons rfl (.cons rfl (.cons (look_eq rfl (by dsimp only;rw[Kj,length_append];rfl)) (.cons rfl (.cons rfl (.cons (look_eq rfl (by simp)) (.nil _)))))),fun w h=> ?_⟩;dsimp only;rw[Kj,length_append,Option.toList_some,mh];exact h.aY 8 [2,3,0,6,7] rfl)
   | (
    refine⟨(k+1,Ao,co),hkg,(by show gd.length-(k+1)<gd.length-k;omega),.cons rfl (.cons rfl (.cons (look_eq rfl (by dsimp only;rw[Kj];simp)) (.cons rfl (.cons rfl (.cons (look_eq rfl (by simp)) (.nil _)))))),fun w h=> ?_⟩;dsimp only;rw[Kj,Option.toList_none,append_nil];first
     | exact h.aY 6 [0,1,3,4,5] rfl
     | exact h.aY 7 [1,2,4,5,6] rfl)
  ·have h3:=eF;rw[if_neg (fun h=>h ay)] at hsb;obtain⟨pe,ZW⟩:∃pe,pe=iX g G.d:=⟨_,rfl⟩;obtain⟨ph,hph⟩:∃ph,ph=gT g G.d:=⟨_,rfl⟩;have rP:(pe≠0∧C.aF.ku b=none)∨(pe=0∧ph.may g=true∧C.aF.ku b=some ⟨b,ph,(C.aF.ny b (1+g.bO ph.len)).1⟩):=by
    unfold iX at ZW;unfold gT at hph;cases hp:jA g G.d with
    | none =>
     rw[hp] at hsb ZW;exact .inl ⟨by rw[ZW];dsimp only;split<;>decide,hsb⟩
    | some h =>
     rw[hp] at hsb ZW hph;have anE:ph=h:=hph;subst anE;exact .inr ⟨ZW,(uP zX hp).2.1,hsb⟩
   refine aj "iaGc" ?_;refine WL.t2 call91 rfl rfl (aL.eq (v':= .tuple #[ph.v,.i pe]) (Ih (d:=G.d) zX (by repeat (first | exact bq.seq (by rw[au,Nat.mul_one]) | apply Seq.up)) hGf.1 ay) (by rw[hph,ZW])) rfl ?_;refine aj "!A" fun b13=> ?_;refine aj "~;fsb~d" (aX (fun mZ=> ?_) fun mZ=> ?_)
   ·have h4:=mZ;rcases rP with ⟨_,Zl⟩ | ⟨h5,_⟩
    rotate_left
    ·exact absurd h5 h4
    rw[Zl] at Kj;refine aj "R6" ?_;first
    | (
     refine⟨(k+1,A5,c5),hkg,(by show gd.length-(k+1)<gd.length-k;omega),.cons rfl (.cons rfl (.cons (look_eq rfl (by dsimp only;rw[Kj,length_append];rfl)) (.cons rfl (.cons rfl (.cons (look_eq rfl (by simp)) (.nil _)))))),fun w h=> ?_⟩;dsimp only;rw[Kj,length_append,Option.toList_some,mh];exact h.aY 8 [2,3,0,6,7] rfl)
    | (
     refine⟨(k+1,Ao,co),hkg,(by show gd.length-(k+1)<gd.length-k;omega),.cons rfl (.cons rfl (.cons (look_eq rfl (by dsimp only;rw[Kj];simp)) (.cons rfl (.cons rfl (.cons (look_eq rfl (by simp)) (.nil _)))))),fun w h=> ?_⟩;dsimp only;rw[Kj,Option.toList_none,append_nil];first
      | exact h.aY 6 [0,1,3,4,5] rfl
      | exact h.aY 7 [1,2,4,5,6] rfl)
   ·have h4:=mZ;rcases rP with ⟨h5,_⟩ | ⟨_,Pj,Pg⟩
    ·exact absurd ay h5
    rw[Pg] at Kj;have J5:=Pj;unfold Hd.may at J5;simp only[Bool.and_eq_true,decide_eq_true_eq] at J5;have JW:=J5.1.1.1.1;have hfb:=JW;unfold bL.fits at hfb;simp only[Bool.and_eq_true,decide_eq_true_eq] at hfb;have BX:=bL.tO zX;have SF:=bL.jW zX;have Xf:0≤g.bO ph.len∧g.bO ph.len≤1000000:=by
     unfold bL.bO;exact⟨Int.ediv_nonneg ay ay,Int.le_trans (Int.ediv_le_self _ ay) ay⟩
    refine aj "iaGp" ?_;refine WL.t2 call92 rfl rfl (aL.eq (v':= .tuple #[.i (g.bO ph.len),.i 0]) (BN zX ay) (by rw[JW];rfl)) rfl ?_;refine aj "Cjz.~~b" ?_;refine WL.c3 call126 rfl rfl rfl (vV hC hg b (1+g.bO ph.len) ay) rfl ?_;rintro _ _ ⟨rfl,rfl⟩;refine aj "CgQ~~uc" ?_;refine WL.val (V.build (vs:=[(0,_),(1,_),(2,_)]) ⟨ak rfl,ak rfl,ak rfl,trivial⟩ rfl (OC _ _ _ _ _)) rfl ?_;refine WL.buildSlice (E:=237) (cs:=[_,_,_,_,_]) (vs:=[(0,_)]) ⟨ak rfl,trivial⟩ rfl (Bq _ _ _ _ _) rfl (fun b74=> ?_);refine aj "~~S" ?_;refine WL.append (m:=fs.length) (q:=1) (news:=Fd.cells ⟨b,ph,(C.aF.ny b (1+g.bO ph.len)).1⟩) underlying170 abU (ak rfl) (ak rfl) (Seq.all rfl) (fun u hu=>by simpa using all_eq_true.1 (EC _) u hu) ay rfl rfl (fun A5 c5 Z5 uf=> ?_);refine aj "g6" ?_;first
    | (
     refine⟨(k+1,A5,c5),hkg,(by show gd.length-(k+1)<gd.length-k;omega),.cons rfl (.cons rfl (.cons (look_eq rfl (by dsimp only;rw[Kj,length_append];rfl)) (.cons rfl (.cons rfl (.cons (look_eq rfl (by simp)) (.nil _)))))),fun w h=> ?_⟩;dsimp only;rw[Kj,length_append,Option.toList_some,mh];exact h.aY 8 [2,3,0,6,7] rfl)
    | (
     refine⟨(k+1,Ao,co),hkg,(by show gd.length-(k+1)<gd.length-k;omega),.cons rfl (.cons rfl (.cons (look_eq rfl (by dsimp only;rw[Kj];simp)) (.cons rfl (.cons rfl (.cons (look_eq rfl (by simp)) (.nil _)))))),fun w h=> ?_⟩;dsimp only;rw[Kj,Option.toList_none,append_nil];first
      | exact h.aY 6 [0,1,3,4,5] rfl
      | exact h.aY 7 [1,2,4,5,6] rfl)
 ·refine aj "ReD" ?_;obtain rfl:k=gd.length:=by omega
  have ac5:fs=C.aF.dU:=by rw[hfs,take_of_length_le (Nat.le_refl _),alu]
  rw[←ac5];exact aG.ret (H':=C.A bc::dH bd bc g::bq (.slice Ao fs.length co) 237 5 fs.length (dD fs)::F) (bI.eY rfl rfl rfl) (fun w h=>h.aY 5 [0,1,2] rfl) ⟨Ao,co,rfl,rfl⟩
end
def xQ(c:Fd→Fd→Int)(fs:List Fd):Nat→Fd
 | 0=>fs.getD 0 J4
 | i+1=>if 0<c (fs.getD (i+1) J4) (xQ c fs i) then fs.getD (i+1) J4 else xQ c fs i
def wK(l:List Fd):Int:=match l.getLast? with | none=> -1 | some x=>x.block
def lF(aJ:Nat)(fs:List Fd):List Int:=(jm aJ fs).map fun l=>wK (eT (jZ qV) l)
def qg(fs:List Fd):Int:=if fs.length=0 then 1 else (xQ KL fs (fs.length-1)).hd.num+1
def rE(aJ:Nat)(fs:List Fd):List (List Int):=(jm aJ fs).map fun l=>(eT (jZ aaK) (eT (jZ qV) l).dropLast).map Fd.block
theorem nE(aJ:Nat)(fs:List Fd):(lF aJ fs).length=aJ:=by grind [lF,length_map,Dk]
theorem tq(aJ:Nat)(fs:List Fd):(rE aJ fs).length=aJ:=by grind [rE,length_map,Dk]
structure bV where
 A:Option Addr
 c:Nat
 l:List Int
abbrev bV.v(x:bV):Value:= .slice x.A x.l.length x.c
def bV.row(x:bV):aA:=bq (.slice x.A x.l.length x.c) 3 1 x.l.length (ints .i64 x.l)
def ir0:bV:=⟨none,0,[]⟩
theorem Rd.LJ{K:World}{l H:List aA}{A:aA}{p:Option Addr}{v:Value}(hA:A∈l)(h:Rd K [A] p v):Rd K (bN l::H) p v:=fun w hw=>h w (hw.am1 hA)
theorem bR.rd{K:World}{r:bR}{i j:Nat}{x:Fd}{v:Value}(hi:r.l[i]? =some x)(hj:x.cells[j]? =some v):Rd K [r.row] (r.A.map (·.add (i*5+j))) v:=by
 have h:Seq K [r.row] r.A r.l.length 5 (dD r.l):=bq.seq (gM _);exact Dr h hi hj
section
variable{K:World}{F:List aA}
theorem Xt{f:Nat}{c:Fd→Fd→Int}(hf:E8 f c){A:Option Addr}{n cap:Nat}{fs:List Fd}(hs:Seq K F A n 5 (dD fs))(hn:fs.length=n)(h0:0<n)(hn2:n≤1000000) :
 aL prog 165 #[.slice A n cap,.func (.func f) #[] #[]] K F (xQ c fs (n-1)).v:=by
 have hel:∀ {X:List aA} (k:Nat),k<n→(∀w,Sat K w X→Sat K w F)→∀(j:Nat) v,(fs.getD k J4).cells[j]? =some v→Rd K X (A.map (·.add (k*5+j))) v:=fun k hk hX j v hj=>by
  have hx:fs[k]? =some (fs.getD k J4):=by simp[getD,show k<fs.length by omega]
  exact Dr (hs.sat hX) hx hj
 have nP:∀ {X:aA} {Y:List aA},(∀w,Sat K w Y→Sat K w F)→∀w,Sat K w (X::Y)→Sat K w F:=fun h w hw=>h w hw.tail;refine aC.en func165 ntmps165 ?_;refine aj "aA" fun b4=> ?_;refine aj "bro5b" ?_;refine WC.jq rfl ((decide_eq_false ay)) (aj "Z" ?_);refine WL.val (V.aI (v':=sp A (0*5)) (V.eD Aa (ak rfl) (ak rfl) (fun hc=>by omega) (fun hc=>by rw[show ((0:Int)).toNat=0 from rfl];exact hel 0 h0 (by repeat (first | exact cu | apply nP)) 0 _ rfl)) (fun _=>rfl)) rfl ?_;refine WL.val (V.wH (vs:=(fs.getD 0 J4).cells) ⟨isAgg237,sizeOf237⟩ (ak rfl) rfl aK (fun _ j v hj=>by exact hel 0 h0 (by repeat (first | exact cu | apply nP)) j v hj)) rfl ?_;refine aj "A" fun b5=> ?_;refine aj "KBagu" ?_;refine WC.loop (σ:=Nat) (fun i=>[(0,.slice A n cap),(1,.func (.func f) #[] #[]),(4,ptr b4 0),(5,ptr b5 0),(6,.i ((i+1:Nat):Int))]) (fun i=>ah b5 237 (xQ c fs i).cells::ah b4 237 [.i 0,.i 0,.i 0,.i 0,.bool false]::F) (fun i=>i<n) (fun i=>n-i) 0 h0 bM cu ?_;rintro i hi;obtain⟨m,hm⟩:∃m,m=xQ c fs i:=⟨_,rfl⟩;rw[←hm];refine aj "rco5bX" (aX (fun aR=> ?_) fun aR=> ?_)
 ·have hi1:i+1<n:=ay;obtain⟨x,hx⟩:∃x,x=fs.getD (i+1) J4:=⟨_,rfl⟩;have Pn:(((i+1:Nat):Int)).toNat=i+1:=ay;have hxe:∀ {X:List aA},(∀w,Sat K w X→Sat K w F)→∀(j:Nat) v,x.cells[j]? =some v→Rd K X (A.map (·.add ((i+1)*5+j))) v:=fun hX j v hj=>hel (i+1) hi1 hX j v (by rw[←hx];exact hj);have dJ:xQ c fs (i+1)=if 0<c x m then x else m:=by rw[xQ,←hx,←hm]
  refine aj "HN~k+++" ?_;refine WQ.val (V.aI (v':=sp A ((i+1)*5)) (V.eD Aa (ak rfl) (ak rfl) (fun hc=>by omega) (fun hc=>by rw[Pn];exact hxe (by repeat (first | exact cu | apply nP)) 0 _ rfl)) (fun _=>by rw[Pn])) rfl ?_;refine WQ.val (V.wH (vs:=x.cells) ⟨isAgg237,sizeOf237⟩ (ak rfl) rfl aK (fun _ j v hj=>by exact hxe (by repeat (first | exact cu | apply nP)) j v hj)) rfl ?_;refine aj "~~w" ?_;refine WQ.nC (first:=[]) (vs:=[_,_]) (captured:=[]) hf.1 (ak rfl) ⟨ak rfl,ak rfl,trivial⟩ (hf.2 _ _ x m) rfl ?_;refine aj "~~a~gX" (aX (fun bB=> ?_) fun bB=> ?_)
  ·have h2:=bB;rw[if_pos h2] at dJ;refine aj "Q" ?_;refine WL.val (V.aI (v':=sp A ((i+1)*5)) (V.eD Aa (ak rfl) (ak rfl) (fun hc=>by omega) (fun hc=>by rw[Pn];exact hxe (by repeat (first | exact cu | apply nP)) 0 _ rfl)) (fun _=>by rw[Pn])) rfl ?_;refine WL.val (V.wH (vs:=x.cells) ⟨isAgg237,sizeOf237⟩ (ak rfl) rfl aK (fun _ j v hj=>by exact hxe (by repeat (first | exact cu | apply nP)) j v hj)) rfl ?_;refine WL.store (cs:=x.cells) sizeOf237 (ak rfl) (ak rfl) rfl rfl rfl (by repeat (first | exact dw.here (cs':=[_,_,_,_,_]) rfl rfl | apply dw.up)) ?_;refine aj "bh.4" ?_;refine⟨i+1,hi1,(by show n-(i+1)<n-i;omega),.cons rfl bM,fun w h=> ?_⟩;dsimp only;rw[dJ];exact h
  ·have h2:=bB;rw[if_neg ay] at dJ;refine aj "ih.4" ?_;refine⟨i+1,hi1,(by show n-(i+1)<n-i;omega),.cons rfl bM,fun w h=> ?_⟩;dsimp only;rw[dJ];exact h
 ·refine aj "RaG~Q3" ?_;obtain rfl:i=n-1:=by omega
  rw[←hm];exact aG.normal (H':=F) (bI.one rfl (R1.nG (vs:=[_,_,_,_,_]) rfl ⟨isAgg237,sizeOf237⟩ rfl Bn)) (fun w h=>h.drop 2) ⟨rfl,rfl⟩
theorem Oa{aJ n cap:Nat}{A:Option Addr}{fs:List Fd}(hl:1≤aJ∧aJ≤64)(hs:Seq K F A n 5 (dD fs))(hn:fs.length=n)(h20:n<1000)(Vs:∀aV,aV<aJ→UQ 164 qV (fs.filter (nR aV)))(Nh:∀x∈fs,x.hd.num≤1000000001∧0≤x.hd.num) :
 aC prog 101 #[.i (aJ:Int),.slice A n cap] K F
  (fun v H'=>∃A' c',v= .tuple #[.slice A' aJ c',.i (qg fs),.i 0]∧H'=bq (.slice A' aJ c') 3 1 aJ (ints .i64 (lF aJ fs))::F):=by
 obtain⟨pk,hpk⟩:∃pk,pk=lF aJ fs:=⟨_,rfl⟩;have nu:pk.length=aJ:=by rw[hpk];exact nE _ _
 refine aC.en func101 ntmps101 ?_;refine aj "amm0" ?_;refine WL.c3 call163 rfl rfl rfl (Am wX hl hs hn h20 Vs) rfl ?_;rintro _ _ ⟨bo,rs,nW,wV,rfl,rfl⟩;have hpr:∀j r,rs[j]? =some r→pk.getD j 0=wK r.l∧j<aJ:=fun j r hj=>by
  have h1:(rs.map bR.l)[j]? =some r.l:=by rw[getElem?_map,hj];rfl
  have zU:j<aJ:=by rw[←nW];exact (List.getElem?_eq_some_iff.1 hj).1
  refine⟨?_,zU⟩;rw[wV] at h1;simp only[getElem?_map,jm,getElem?_range zU,Option.map_some] at h1;injection h1 with h1
  rw[hpk];unfold lF;simp only[getD,getElem?_map,jm,getElem?_range zU,Option.map_some,Option.getD_some];rw[h1]
 refine aj "CfsbOiafoP" ?_;refine WC.loop (σ:=Nat×Option Addr×Nat) (fun s=>[(1,.slice A n cap),(9,.slice s.2.1 s.1 s.2.2),(22,.slice (some ⟨bo,0,none⟩) aJ aJ),(23,.i (aJ:Int)),(24,.i (s.1:Int))]) (fun s=>bq (.slice s.2.1 s.1 s.2.2) 3 1 s.1 (ints .i64 (pk.take s.1))::ah bo 170 (rs.map bR.v)::bN (rs.map bR.row)::F) (fun s=>s.1≤aJ) (fun s=>aJ-s.1) (0,none,0) (zero_le _) bM (fun w h=>Sat.iG h _ _) ?_;rintro⟨j,Ao,co⟩ hj;dsimp only at hj ⊢;refine aj "UX" (aX (fun aR=> ?_) fun aR=> ?_)
 ·have zU:j<aJ:=ay;obtain⟨r,hr⟩:∃r,rs[j]? =some r:=⟨_,getElem?_eq_getElem ay⟩;have hvg:(rs.map bR.v)[0+((j:Nat):Int).toNat*1]? =some r.v:=by rw[show 0+((j:Nat):Int).toNat*1=j by omega,getElem?_map,hr];rfl
  have wD:r.row∈rs.map bR.row:=mem_map.2 ⟨r,mem_of_getElem? hr,rfl⟩;have AP:pk.take (j+1)=pk.take j++[wK r.l]:=by rw[take_add_one,getElem?_eq_getElem ay,←(hpr j r hr).1];simp[getD,show j<pk.length by omega]
  refine aj "Ha~v" ?_;refine WL.val (V.load isAgg170 (ak rfl) (fun _=>by repeat (first | exact Rd.here hvg | apply Rd.up))) rfl ?_;refine aj "jo%bX" (aX (fun bB=> ?_) fun bB=> ?_)
  ·have h2:=bB;have MR:wK r.l= -1:=by
    have :r.l=[]:=eq_nil_of_length_eq_zero ay;unfold wK;rw[this];rfl
   refine aj "h" ?_;refine WL.buildSlice (E:=3) (cs:=[_]) (vs:=[(0,_)]) ⟨ak rfl,trivial⟩ rfl (eO _) rfl (fun b32=> ?_);refine aj "|" ?_;refine WL.append (m:=j) (q:=1) (news:=[.i (-1)]) underlying124 Td (ak rfl) (ak rfl) (Seq.all rfl) (by intro u hu;rw[mem_singleton.1 hu];rfl) ay rfl rfl (fun A5 c5 Z5 uf=> ?_);refine aj "g6" ?_;refine⟨(j+1,A5,c5),zU,(by show aJ-(j+1)<aJ-j;omega),.cons rfl bM,fun w h=> ?_⟩;dsimp only;rw[AP,MR,eP];exact h.aY 2 [0] rfl
  ·have h2:=bB;obtain⟨x,hx⟩:∃x,r.l[r.l.length-1]? =some x:=⟨_,getElem?_eq_getElem ay⟩;have MR:wK r.l=x.block:=by unfold wK;rw[getLast?_eq_getElem?,hx]
   have hrx:∀(i:Nat) v,x.cells[i]? =some v→∀ {X:List aA},Rd K (bN (rs.map bR.row)::X) (r.A.map (·.add ((r.l.length-1)*5+i))) v:=fun i v hi X=>Rd.LJ wD (bR.rd hx hi);have hri:((r.l.length:Int)-1).toNat=r.l.length-1:=ay;have am7:r.l.length≤1000000:=by
    have h3:(rs.map bR.l)[j]? =some r.l:=by rw[getElem?_map,hr];rfl
    rw[wV] at h3;simp only[jm,getElem?_map,getElem?_range zU,Option.map_some] at h3;injection h3 with h3
    rw[←h3,iO];exact Nat.le_trans (length_filter_le _ _) ay
   refine aj "hzo(" ?_;refine WL.val (V.aI (v':=sp r.A ((r.l.length-1)*5)) (V.eD Aa (ak rfl) (ak rfl) (fun hc=>by omega) (fun hc=>by rw[hri];repeat (first | exact hrx 0 _ rfl | apply Rd.up))) (fun _=>by rw[hri])) rfl ?_;refine WL.val (V.Tq (k':=(r.l.length-1)*5) Wm (ak rfl) (fun _=>by repeat (first | exact hrx 0 _ rfl | apply Rd.up))) rfl ?_;refine WL.val (V.load isAgg3 (ak rfl) (fun _=>by repeat (first | exact hrx 0 _ rfl | apply Rd.up))) rfl ?_;refine WL.buildSlice (E:=3) (cs:=[_]) (vs:=[(0,_)]) ⟨ak rfl,trivial⟩ rfl (eO _) rfl (fun b42=> ?_);refine aj "|" ?_;refine WL.append (m:=j) (q:=1) (news:=[.i x.block]) underlying124 Td (ak rfl) (ak rfl) (Seq.all rfl) (by intro u hu;rw[mem_singleton.1 hu];rfl) ay rfl rfl (fun A5 c5 Z5 uf=> ?_);refine aj "g6" ?_;refine⟨(j+1,A5,c5),zU,(by show aJ-(j+1)<aJ-j;omega),.cons rfl bM,fun w h=> ?_⟩;dsimp only;rw[AP,MR,eP];exact h.aY 2 [0] rfl
 ·refine aj "WN" ?_;obtain rfl:j=aJ:=by omega
  rw[take_of_length_le ay,hpk];refine WC.sub (Sub.refl _) (fun w h=>h.aY 3 [0] rfl) ?_;refine aj "ho%bX" (aX (fun eF=> ?_) fun eF=> ?_)
  ·have h3:=eF;have ZL:qg fs=1:=by unfold qg;rw[if_pos ay]
   refine aj "emD" ?_;rw[ZL];exact aG.ret (H':=bq (.slice Ao j co) 3 1 j (ints .i64 (lF j fs))::F) (bI.zR rfl rfl rfl rfl) cu ⟨Ao,co,rfl,rfl⟩
  ·have h3:=eF;have ZL:qg fs=(xQ KL fs (n-1)).hd.num+1:=by unfold qg;rw[if_neg ay,hn]
   have wD:∀k,k<n→xQ KL fs k∈fs:=fun k=>by
    induction k with
    | zero=>intro hk;show fs.getD 0 J4∈fs;simp only[getD,getElem?_eq_getElem (show 0<fs.length by omega)];exact getElem_mem _
    | succ k ih =>
     intro hk;rw[xQ];split
     ·simp only[getD,getElem?_eq_getElem (show k+1<fs.length by omega)];exact getElem_mem _
     ·exact ih ay
   have J5:=Nh _ (wD (n-1) ay);refine aj "Z" ?_;refine WL.t2 call165 rfl rfl (Xt ab7 (by repeat (first | exact hs | apply Seq.up)) hn ay ay) rfl ?_;refine aj "A" fun b12=> ?_;refine aj "KB~k+~y~y~G~~m~m~m~m~g~D" ?_;rw[ZL];exact aG.ret (H':=bq (.slice Ao j co) 3 1 j (ints .i64 (lF j fs))::F) (bI.zR rfl rfl rfl rfl) (fun w h=>h.drop 1) ⟨Ao,co,rfl,rfl⟩
theorem PU{aJ n cap:Nat}{A:Option Addr}{fs:List Fd}(hl:1≤aJ∧aJ≤64)(hs:Seq K F A n 5 (dD fs))(hn:fs.length=n)(h20:n<20)(Nh:∀x∈fs,x.hd.num≤1000000001∧0≤x.hd.num) :
 aC prog 101 #[.i (aJ:Int),.slice A n cap] K F
  (fun v H'=>∃A' c',v= .tuple #[.slice A' aJ c',.i (qg fs),.i 0]∧H'=bq (.slice A' aJ c') 3 1 aJ (ints .i64 (lF aJ fs))::F) :=
 Oa hl hs hn ay (fun aV _ _ _ _ _=>Ba wX rfl (Nat.lt_of_le_of_lt (length_filter_le _ _) ay)) Nh
end
end Go.Proofs.YtcedojacbhnbiaaGreat
