import Derived.Test.YtcedojacbhnbiaaGreatP7
import Derived.Scope
set_option linter.unusedSimpArgs false
set_option linter.unusedVariables false
set_option maxHeartbeats 2000000
set_option maxRecDepth 20000
namespace Go.Proofs.YtcedojacbhnbiaaGreat
open Go.Sl Go.RowKit Tryz List Nat
section
variable{bs bd bc:Nat}{g:bL}{T:cZ}{C:Cw}{K:World}{F:List aA}
end
theorem QG{S:aD}(hg:S.g.aU)(hu:S.up=true):S.oW=0:=by
 unfold bL.aU at hg;have e1:¬((0:Int)<0∨S.g.bl≤0∨(0:Int)<0∨S.g.pg≤0∨(decide ((0:Int)≤0)&&decide (0≤S.g.pg))=false):=by
  simp;omega
 have e2:S.ahead 0 0 (decide ((0:Int)≤0)&&decide (0≤S.g.pg))=if S.bad 0=true then 73 else 0:=by
  unfold aD.ahead;rw[if_neg (by rw[hu];decide),if_neg e1]
 unfold aD.oW aD.ny;rw[e2];cases S.bad 0<;>rfl
section
variable{K:World}{F:List aA}
end
namespace aD
theorem qM{S:aD}(h:S.left=0):S.aZ=S:=by
 unfold aZ cut;rw[h];obtain⟨a,b,c,d,e,f,g,up,l,k⟩:=S;dsimp only at h;subst h;simp
theorem Ns{S:aD}{b p:Int}(h:0≤b∧b<S.g.bl∧0≤p∧p<S.g.pg):S.pG b p=true:=by
 unfold pG block;simp;omega
theorem CS{S:aD}{b:Int}(h:0≤b∧b<S.g.bl):S.block b=true:=by
 unfold block;simp;omega
theorem yD{S:aD}{b p:Int}(hu:S.up=true)(h:0≤b∧b<S.g.bl∧0≤p∧p<S.g.pg)(hm:S.marked b=false):S.ahead b p true=0:=by simp_all [ahead,bad,if_neg,Bool.and_false]
section
variable{S:aD}{b p:Int}{d:List Nat}
theorem abP(hg:S.g.aU)(h8:aB 256 d)(hl:d.length=S.room):((bF (fF S.g d)).length:Int)=S.raw:=by
 have hN:=wZ.of (bl:=S.g.bl) (pg:=S.g.pg) (by rw[←kS hg];exact hg);unfold fF bF;rw[length_map,vU hN.t h8 hl];exact (bL.vw hg).symm
theorem Rb(hu:S.up=true)(h:0≤b∧b<S.g.bl∧0≤p∧p<S.g.pg)(hm:S.marked b=false)(hl:d.length=S.room):S.dL b p d=done b (S.program b p (bF (fF S.g d))):=by
 have e:decide (d.length=S.room)=true:=decide_eq_true hl;unfold dL;rw[e,if_neg (by rw[yD hu h hm];decide)]
theorem Lb{xs:List Nat}(hp:S.aW (b,p)=some (bF xs))(hw:S.bK (b,p)=none):S.jH b p=xs:=by
 unfold jH reads;rw[hp,hw];exact om xs
theorem TY(hg:S.g.aU)(hu:S.up=true)(h:0≤b∧b<S.g.bl∧0≤p∧p<S.g.pg)(hm:S.marked b=false)(h8:aB 256 d)(hl:d.length=S.room)(hp:S.aW (b,p)=some (bF (fF S.g d)))(hw:S.bK (b,p)=none) :
 S.bX b p=⟨0,d,0⟩:=by
 have hN:=wZ.of (bl:=S.g.bl) (pg:=S.g.pg) (by rw[←kS hg];exact hg);unfold bX;rw[if_neg (by rw[yD hu h hm];decide),Lb hp hw];unfold fF;rw[YE hN.t h8 hl];rfl
theorem YZ{t S n:Nat}{raw:List Nat}(h:raw.getD (S*n) 0=255):gL t S n raw=60∨gL t S n raw=61:=by
 unfold gL;rw[h,if_neg aK,if_neg (fun h=>h rfl)];split
 ·exact .inl rfl
 ·exact .inr rfl
end
end aD
theorem WC.scope{ds:List Deferred}{P:Program}{K:World}{n:Nat}{c:Code}{Q:fG}{e:Env}{H:List aA}(hQ:∀M l e H,Q M (.goto l) e H→False)(h:WC ⟨none,ds⟩ P K n c Q e H):WC ⟨none,ds⟩ P K n (.scope c) Q e H:=fun a w ha hw =>
 wp_scope_straight (wp_mono (h a w ha hw) (fun x a w hx=>by
  cases x<;>first | exact hx | (obtain⟨_,_,_,_,_,h3⟩:=hx;exact hQ _ _ _ _ h3)))
def abj(slot seg:Int):Bool:=(decide (slot=0)||decide (slot=1))&&decide (-1≤seg)&&decide (seg≤3)
def uF(slot seg:Int):Int×Int:=if abj slot seg then (2+5*slot+seg,0) else (0,1)
theorem xA(slot seg:Int)(K:World)(F:List aA):aL prog 23 #[.i slot,.i seg] K F (.tuple #[.i (uF slot seg).1,.i (uF slot seg).2]):=by
 obtain⟨X,hX⟩:∃X,X=uF slot seg:=⟨_,rfl⟩;rw[←hX];unfold uF abj at hX;refine aC.en func23 ntmps23 ?_;refine aj "amfsc8~~~fVcY~_JcY~~~qJk" (aX (fun aN=> ?_) fun aN=> ?_)
 ·simp only[Bool.or_eq_true,Bool.or_eq_false_iff,He,Bool.not_eq_true',Bool.not_eq_false'] at aN;rw[if_neg (by simp;omega)] at hX;refine aj "aD" ?_;subst hX;exact aG.ret (H':=F) (bI.eY rfl rfl rfl) gy ⟨rfl,rfl⟩
 ·simp only[Bool.or_eq_true,Bool.or_eq_false_iff,He,Bool.not_eq_true',Bool.not_eq_false'] at aN;rw[if_pos (by simp;omega)] at hX;refine aj "Z~I..c.D" ?_;subst hX;refine aG.ret (H':=F) (bI.eY rfl rfl rfl) gy ⟨?_,rfl⟩;dsimp only;rw[show (1+slot*5+1+seg:Int)=2+5*slot+seg by omega]
def ni(S:aD)(T:St):bP×Int×St :=
 if (eG S T 0).1.err=70 then (bP.zero,70,(eG S T 0).2)
 else if (eG S T 0).1.err=0∧(bP.parse (bF (eG S T 0).1.d)).2=0 then ((bP.parse (bF (eG S T 0).1.d)).1,0,(eG S T 0).2)
 else (bP.zero,0,(eG S T 0).2)
theorem Cw.Ok.yx{C:Cw}(hC:C.Ok)(b:Int)(n0:Nat):∀k,aB 256 (iC C.aF b n0 k).d
 | 0=>fun y hy=>by cases hy
 | k+1=>by
  rw[iC];split
  ·exact hC.yx b n0 k
  ·split
   ·exact fun y hy=>by cases hy
   ·exact (hC.yx b n0 k).append (hC.rZ _ _).1
theorem Cw.Ok.yJ{C:Cw}(hC:C.Ok)(T:St)(aV:Int):aB 256 (eG C.aF T aV).1.d:=by
 unfold eG;repeat (split;exact fun y hy=>by cases hy)
 exact (hC.yx _ _ _).take
section
variable{bs bd bc:Nat}{g:bL}{T:cZ}{C:Cw}{K:World}{F:List aA}
theorem Qp:aL prog 24 #[.pointer none] K F (.tuple #[bP.zero.v,.i 3]):=by
 refine aC.en func24 ntmps24 ?_;refine aj "aA" fun b2=> ?_;refine aj "tue~ag2a]Kd" ?_;exact aG.ret (H':=F) (FR rfl rfl ⟨isAgg58,sizeOf58⟩ rfl) gy ⟨rfl,rfl⟩
theorem qW(hC:C.Ok)(hg:C.g=g)(hT:T.Ok g)(hl:11≤(T.stands.length:Int)):aC prog 24 #[ptr bs 0] K (C.A bc::dH bd bc g::T.A bs bd g::F)
 (fun v H'=>∃T':cZ,T'.Ok g∧T'.aF=(ni C.aF T.aF).2.2∧v= .tuple #[(ni C.aF T.aF).1.v,.i (ni C.aF T.aF).2.1]∧H'=C.A bc::dH bd bc g::T'.A bs bd g::F):=by
 obtain⟨X,hX⟩:∃X,X=ni C.aF T.aF:=⟨_,rfl⟩;rw[←hX];unfold ni at hX;have pY:=hC.yJ T.aF 0;refine aC.en func24 ntmps24 ?_;refine aj "aA" fun b2=> ?_;refine aj "tue~agOe" ?_;refine WL.sub (Sub.refl _) (fun w h=>h.aY 4 [3,1,2,0] rfl) ?_;refine WL.c1 call87 rfl (TP) rfl ?_;rintro _ _ ⟨rfl,rfl⟩;refine WL.sub (Sub.refl _) (fun w h=>h.aY 4 [1,2,0,3] rfl) ?_;refine aj "5g~1Z" ?_;refine WL.c2 call26 rfl rfl (vN hC hg hT 0) rfl ?_;rintro _ _ ⟨A1,c1,T1,lU,t1,rfl,rfl⟩;obtain⟨R,hR⟩:∃R,R=eG C.aF T.aF 0:=⟨_,rfl⟩;rw[←hR] at t1 hX pY ⊢;refine aj "!~Mmmf%k" (aX (fun bB=> ?_) fun bB=> ?_)
 ·simp only[lX] at bB;have h2:=bB;rw[if_pos h2] at hX;refine aj "a]cKd" ?_;subst hX;refine aG.ret (H':=C.A bc::dH bd bc g::T1.A bs bd g::F) (FR rfl rfl ⟨isAgg58,sizeOf58⟩ rfl) (fun w h=>h.aY 5 [1,2,3] rfl) ⟨T1,lU,t1,by rw[h2];rfl,rfl⟩
 ·simp only[lX] at bB;have h2:=bB;rw[if_neg h2] at hX;refine aj "ir" ?_;refine WL.t1 call88 rfl (PN (xs:=bF R.1.d) (kR pY) _ _ (by rw[←mO];exact bq.seq (by rw[au,Nat.mul_one]))) rfl ?_;refine aj "!A" fun b7=> ?_;refine aj "Kj%c8~EVk" (aX (fun eF=> ?_) fun eF=> ?_)
  ·simp only[lX] at eF;have h3:=eF;rw[if_pos h3] at hX;refine aj "aGKd" ?_;subst hX;refine aG.ret (H':=C.A bc::dH bd bc g::T1.A bs bd g::F) (FR rfl rfl ⟨isAgg58,sizeOf58⟩ rfl) (fun w h=>h.aY 6 [2,3,4] rfl) ⟨T1,lU,t1,rfl,rfl⟩
  ·simp only[lX] at eF;have h3:=eF;rw[if_neg ay] at hX;refine aj "ia" ?_;refine WL.call (vs:=[]) call89 trivial (RP _ _) rfl ?_;rintro _ H0 ⟨rfl,h0⟩;subst H0;refine aj "Kd" ?_;subst hX;refine aG.ret (H':=C.A bc::dH bd bc g::T1.A bs bd g::F) (FR rfl rfl ⟨isAgg58,sizeOf58⟩ rfl) (fun w h=>h.aY 6 [2,3,4] rfl) ⟨T1,lU,t1,rfl,rfl⟩
end
abbrev adT(e:Int):Value:= .agg #[.i 0,.i 0,.i 0,.slice none 0 0,.i e]
theorem Oy{s:bP}(ho:s.order=[])(K:World)(F:List aA):aC prog 67 #[s.v] K F (fun v H'=>∃A cap,v= .tuple #[.slice A 0 cap,.i s.Wy]∧H'=bq (.slice A 0 cap) 3 1 0 []::F):=by
 have h:=Fy s K F;rw[ho] at h;exact h
section
variable{bs bd bc:Nat}{g:bL}{T:cZ}{C:Cw}{K:World}{F:List aA}{A:Option Addr}{m cap:Nat}
theorem TV(hC:C.Ok)(hg:C.g=g)(hT:T.Ok g)(hl:11≤(T.stands.length:Int))(ho:(ni C.aF T.aF).1.order=[])(aQ:Int):aC prog 17 #[ptr bs 0,.slice A m cap,.i aQ] K (C.A bc::dH bd bc g::T.A bs bd g::F)
 (fun v H'=>∃T':cZ,T'.Ok g∧T'.aF=(ni C.aF T.aF).2.2∧v=adT (if (ni C.aF T.aF).2.1≠0 then (ni C.aF T.aF).2.1 else 240)∧H'=C.A bc::dH bd bc g::T'.A bs bd g::F):=by
 obtain⟨X,hX⟩:∃X,X=ni C.aF T.aF:=⟨_,rfl⟩;rw[←hX] at ho ⊢;refine aC.en func17 ntmps17 ?_;refine aj "aA" fun b6=> ?_;refine WL.nil ?_;refine WC.scope (fun _ _ _ _ h=>h) ?_;refine aj "e~5" ?_;refine WL.c1 call24 rfl (qW hC hg hT hl) rfl ?_;rintro _ _ ⟨T1,lU,t1,rfl,rfl⟩;rw[←hX] at t1 ⊢;refine aj "!A" fun b7=> ?_;refine aj "Kfsk" (aX (fun aN=> ?_) fun aN=> ?_)
 ·simp only[lX] at aN;have h0:=aN;refine aj "e" ?_;refine WL.val (V.build (vs:=[(4,_)]) ⟨ak rfl,trivial⟩ rfl (uX _)) rfl (aj "K3" ?_);exact aG.ret (H':=C.A bc::dH bd bc g::T1.A bs bd g::F) (bI.one rfl (R1.nG (vs:=[_,_,_,_,_]) rfl ⟨isAgg37,sizeOf37⟩ rfl Bn)) (fun w h=>h.aY 5 [1,2,3] rfl) ⟨T1,lU,t1,by rw[if_pos h0],rfl⟩
 ·simp only[lX] at aN;have h0:=aN;refine aj "iaG" ?_;refine WL.c1 call67 rfl (Oy ho _ _) rfl ?_;rintro _ _ ⟨A1,c1,rfl,rfl⟩;refine aj "Ct" ?_;refine WC.label (aj "roP" ?_);refine WC.rounds 1 (aj "UORa" ?_);refine WL.val (V.build (vs:=[(4,_)]) ⟨ak rfl,trivial⟩ rfl (uX _)) rfl (aj "K3" ?_);exact aG.ret (H':=C.A bc::dH bd bc g::T1.A bs bd g::F) (bI.one rfl (R1.nG (vs:=[_,_,_,_,_]) rfl ⟨isAgg37,sizeOf37⟩ rfl Bn)) (fun w h=>h.aY 6 [2,3,4] rfl) ⟨T1,lU,t1,by rw[if_neg ay],rfl⟩
end
def KG(slot sec err:Int):Bool:=decide (err=0)&&(decide (slot=0)||decide (slot=1))&&decide (0≤sec)&&decide (sec≤64)
abbrev dF(s:bP):List Nat:=gX s.bytes
def uE(S:aD)(T:St)(slot sec err:Int):aD×St×Int :=
 if KG slot sec err=false then (S,T,1)
 else if (ni S T).2.1≠0 then (S,(ni S T).2.2,(ni S T).2.1)
 else if (bg S (ni S T).2.2 0 (dF ((ni S T).1.jh slot).1)).2.2≠0 then bg S (ni S T).2.2 0 (dF ((ni S T).1.jh slot).1)
 else if (bg S (ni S T).2.2 0 (dF ((ni S T).1.jh slot).1)).1.yT<sec then (((bg S (ni S T).2.2 0 (dF ((ni S T).1.jh slot).1)).1.pR sec).1,(bg S (ni S T).2.2 0 (dF ((ni S T).1.jh slot).1)).2.1,((bg S (ni S T).2.2 0 (dF ((ni S T).1.jh slot).1)).1.pR sec).2)
 else ((bg S (ni S T).2.2 0 (dF ((ni S T).1.jh slot).1)).1,(bg S (ni S T).2.2 0 (dF ((ni S T).1.jh slot).1)).2.1,0)
theorem QC(S:aD)(T:St)(aV:Int):(eG S T aV).2.dN=T.dN∧(eG S T aV).2.stands=T.stands:=by
 unfold eG;repeat (first | exact⟨rfl,rfl⟩ | split)
theorem Y5(S:aD)(T:St):(ni S T).2.2.dN=T.dN∧(ni S T).2.2.stands=T.stands:=by grind [QC,ni]
theorem ab0(S:aD)(T:St):(ni S T).1.ok=true:=by
 unfold ni;split
 ·rfl
 ·split
  ·rename_i h;have h2:=h.2;unfold bP.parse at h2 ⊢;split at h2
   ·rename_i h3;rw[if_pos h3];unfold bP.iF at h3;simp only[Bool.and_eq_true] at h3;exact h3.1.2
   ·cases h2
  ·rfl
theorem Jy{s:bP}(hs:s.ok=true){slot:Int}(h:slot=0∨slot=1):(s.jh slot).1.ok=true:=by
 have h1:=bP.ou hs;unfold bP.jh;rw[if_neg (by unfold bP.Ws;rw[hs];rcases h with rfl | rfl<;>decide)];rcases h with rfl | rfl
 all_goals
  simp[bP.put,bP.ok];omega
section
variable{bs bd bc:Nat}{g:bL}{T:cZ}{C:Cw}{K:World}{F:List aA}{lw:Value}
theorem Le(hC:C.Ok)(hg:C.g=g)(hT:T.Ok g){x:bP}(hx:x.ok=true)(uR:∀l∈T.aF.dN,l.length≤1000000):aC prog 69 #[ptr bs 0,x.v] K (C.A bc::dH bd bc g::T.A bs bd g::F)
 (fun v H'=>∃(C':Cw) (T':cZ),C'.Ok∧C'.g=g∧T'.Ok g∧C'.aF=(bg C.aF T.aF 0 (dF x)).1∧T'.aF=(bg C.aF T.aF 0 (dF x)).2.1∧v= .i (bg C.aF T.aF 0 (dF x)).2.2∧H'=C'.A bc::dH bd bc g::T'.A bs bd g::F):=by
 have hb:=bP.qO hx;have hl9:(dF x).length=9:=by unfold dF;rw[jO,bP.kQ hx]
 obtain⟨X,hX⟩:∃X,X=bg C.aF T.aF 0 (dF x):=⟨_,rfl⟩;rw[←hX];refine aC.en func69 ntmps69 ?_;refine aj "a&" fun b3=> ?_;refine aj "xG" ?_;refine WL.c1 call131 rfl (FH x _ _) rfl ?_;rintro _ _ (⟨_,bb,rfl,rfl⟩ | ⟨Ce,rfl,rfl⟩)
 rotate_left
 ·rw[hx] at Ce;cases Ce
 refine aj "CfsbOZc" ?_;refine WL.sub (Sub.refl _) (fun w h=>h.aY 5 [2,3,4,0] rfl) ?_;refine WL.c3 call16 rfl rfl rfl (vH hC hg hT (aV:=0) (d:=dF x) (by rw[show av .u8 (dF x)=ints .u8 x.bytes by unfold dF;rw[su hb]];exact Seq.allI (bP.kQ hx)) (nI hb) aK aK uR) rfl ?_;rintro _ _ ⟨C1,T1,Me,g1,lU,s1,t1,rfl,rfl⟩;rw[←hX] at s1 t1 ⊢;refine aj "d" ?_;exact qR (C1.A bc::dH bd bc g::T1.A bs bd g::F) rfl rfl (fun w h=>h.aY 4 [0,1,2] rfl) ⟨C1,T1,Me,g1,lU,s1,t1,rfl,rfl⟩
theorem agM(S:aD)(n:Int):(S.pR n).1.g=S.g:=by unfold aD.pR aD.all;repeat (first | exact rfl | split)
theorem M5(hC:C.Ok)(hg:C.g=g)(hT:T.Ok g)(hl:11≤(T.stands.length:Int))(uR:∀l∈T.aF.dN,l.length≤1000000)(slot en sec err:Int):aC prog 28 #[ptr bs 0,ptr bc 0,.agg #[.i slot,.i en,.i sec,lw,.i err]] K (C.A bc::dH bd bc g::T.A bs bd g::F)
 (fun v H'=>∃(C':Cw) (T':cZ),C'.Ok∧C'.g=g∧T'.Ok g∧C'.aF=(uE C.aF T.aF slot sec err).1∧T'.aF=(uE C.aF T.aF slot sec err).2.1∧v= .i (uE C.aF T.aF slot sec err).2.2∧H'=C'.A bc::dH bd bc g::T'.A bs bd g::F):=by
 obtain⟨X,hX⟩:∃X,X=uE C.aF T.aF slot sec err:=⟨_,rfl⟩;rw[←hX];unfold uE at hX;refine aC.en func28 ntmps28 ?_;refine aj "a&" fun b5=> ?_;refine aj "f~acY~~VJbO)apsc~e~b~~v~~j~~s~~t~~`~~kJc~e~b~_Jc~e~b~lJk" (aX (fun aR=> ?_) fun aR=> ?_)
 ·have h1:=aR;have hk:KG slot sec err=false:=by unfold KG;simp at h1 ⊢;omega
  rw[if_pos hk] at hX;refine aj "I" ?_;subst hX;exact qR (C.A bc::dH bd bc g::T.A bs bd g::F) rfl rfl (fun w h=>h.aY 4 [1,2,3] rfl) ⟨C,T,hC,hg,hT,rfl,rfl,rfl,rfl⟩
 ·have h1:=aR;have hk:KG slot sec err=true:=by unfold KG;simp at h1 ⊢;omega
  rw[if_neg (by rw[hk];decide)] at hX;have rQ:(slot=0∨slot=1)∧0≤sec∧sec≤64:=by unfold KG at hk;simp at hk;omega
  refine aj "Z~5" ?_;refine WL.c1 call24 rfl (qW hC hg hT hl) rfl ?_;rintro _ _ ⟨T1,lU,t1,rfl,rfl⟩;obtain⟨X1,hX1⟩:∃X1,X1=ni C.aF T.aF:=⟨_,rfl⟩;have oK:=ab0 C.aF T.aF;have dJ:=(Y5 C.aF T.aF).1;rw[←hX1] at t1 hX oK dJ ⊢;refine aj "!A" fun b7=> ?_;refine aj "Kfsk" (aX (fun bB=> ?_) fun bB=> ?_)
  ·simp only[lX] at bB;have h2:=bB;rw[if_pos h2] at hX;refine aj "ed" ?_;subst hX;exact qR (C.A bc::dH bd bc g::T1.A bs bd g::F) rfl rfl (fun w h=>h.aY 5 [1,2,3] rfl) ⟨C,T1,hC,hg,lU,rfl,t1,rfl,rfl⟩
  ·simp only[lX] at bB;have h2:=bB;rw[if_neg ay] at hX;refine aj "iaGp" ?_;refine WL.t2 call94 rfl rfl (KC X1.1 slot _ _) rfl ?_;refine aj "!KbrG" ?_;refine WL.sub (Sub.refl _) (fun w h=>h.aY 5 [1,2,3,0,4] rfl) ?_;refine WL.c2 call69 rfl rfl (Le hC hg lU (Jy oK rQ.1) (by rw[t1,dJ];exact uR)) rfl ?_;rintro _ _ ⟨C2,T2,AQ,g2,wP,s2,t2,rfl,rfl⟩;obtain⟨X2,hX2⟩:∃X2,X2=bg C.aF T1.aF 0 (dF (X1.1.jh slot).1):=⟨_,rfl⟩;rw[←t1,←hX2] at hX;rw[←hX2] at s2 t2 ⊢;refine aj "jsk" (aX (fun eF=> ?_) fun eF=> ?_)
   ·simp only[lX] at eF;have h3:=eF;rw[if_pos h3] at hX;refine aj "ed" ?_;subst hX;exact qR (C2.A bc::dH bd bc g::T2.A bs bd g::F) rfl rfl (fun w h=>h.aY 5 [0,1,2] rfl) ⟨C2,T2,AQ,g2,wP,s2,t2,rfl,rfl⟩
   ·simp only[lX] at eF;have h3:=eF;rw[if_neg ay] at hX;refine aj ")N~k~y~G+" ?_;refine WQ.call (vs:=[_]) call27 ⟨ak rfl,trivial⟩ (EP (C:=C2)) rfl ?_;refine aj "~~a~gE" (aX (fun mZ=> ?_) fun mZ=> ?_)
    ·simp only[lX] at mZ;have h4:=mZ;rw[s2] at h4;rw[if_pos ay] at hX;refine aj "ep" ?_;refine WL.c2 call95 rfl rfl (Xz AQ sec) rfl ?_;rintro _ _ ⟨C3,Tv,rfl,s3,rfl⟩;have g3:C3.g=g:=by rw[show C3.g=C3.aF.g from rfl,s3];rw[agM];exact g2
     rw[s2];refine aj "d" ?_;subst hX;exact qR (C3.A bc::dH bd bc g::T2.A bs bd g::F) rfl rfl (fun w h=>h.aY 5 [0,1,2] rfl) ⟨C3,T2,Tv,g3,wP,by rw[s3,s2],t2,rfl,rfl⟩
    ·simp only[lX] at mZ;have h4:=mZ;rw[s2] at h4;rw[if_neg ay] at hX;refine aj "iI" ?_;subst hX;exact qR (C2.A bc::dH bd bc g::T2.A bs bd g::F) rfl rfl (fun w h=>h.aY 5 [0,1,2] rfl) ⟨C2,T2,AQ,g2,wP,s2,t2,rfl,rfl⟩
end
end Go.Proofs.YtcedojacbhnbiaaGreat
namespace Go.Proofs.YtcedojacbhnbiaaGreat
--BEGIN
theorem KH(a b:Nat):a ^^^ (a ^^^ b)=b:=by grind
theorem xB{a b:Nat}(h:a ^^^ b=0):a=b:=by grind [KH]
theorem y7{f g:Nat→Nat}(hf:∀a b,a<8192→b<8192→f (a ^^^ b)=f a ^^^ f b)(hg:∀a b,a<8192→b<8192→g (a ^^^ b)=g a ^^^ g b)
 (h:∀i,i<13→f (2^i)=g (2^i)):∀a,a<8192→f a=g a:=by
 have h0:∀ {k:Nat→Nat},(∀a b,a<8192→b<8192→k (a ^^^ b)=k a ^^^ k b)→k 0=0:=fun {k} hk=>by
  have :=hk 0 0 (by decide) (by decide);rw[Nat.xor_self,Nat.xor_self] at this;exact this
 have key:∀n,n≤13→∀a,a<2^n→f a=g a:=by
  intro n
  induction n with
  | zero =>
   intro _ a ha;obtain rfl:a=0:=by omega
   rw[h0 hf,h0 hg]
  | succ n ih =>
   intro hn a ha;by_cases hb:a<2^n
   ·exact ih (by omega) a hb
   ·have hp:(2:Nat)^(n+1)≤2^13:=Nat.pow_le_pow_right (by decide) hn;have Pt:(2:Nat)^n≤2^12:=Nat.pow_le_pow_right (by decide) (by omega);have e:a=2^n ^^^ (a-2^n):=by
     obtain⟨c,hc⟩:∃c,a=2^n+c:=⟨a-2^n,by omega⟩;have bB:c<2^n:=by rw[Nat.pow_succ] at ha;omega
     rw[hc,Nat.add_sub_cancel_left];apply Nat.eq_of_testBit_eq;intro i;rw[Nat.testBit_xor,Nat.testBit_two_pow];by_cases hi:n=i
     ·subst hi;rw[Nat.testBit_two_pow_add_eq,Nat.testBit_lt_two_pow bB];simp
     ·rcases Nat.lt_or_ge i n with h1 | h1
      ·rw[Nat.testBit_two_pow_add_gt h1];simp[hi]
      ·have h2:2^(n+1)≤2^i:=Nat.pow_le_pow_right (by decide) (by omega);rw[Nat.testBit_lt_two_pow (by omega),Nat.testBit_lt_two_pow (by omega)];simp[hi]
    have h1:(2:Nat)^n<8192:=by omega
    have h2:a-2^n<8192:=by omega
    rw[e,hf _ _ h1 h2,hg _ _ h1 h2,h n (by omega),ih (by omega) (a-2^n) (by rw[Nat.pow_succ] at ha;omega)]
 exact key 13 (Nat.le_refl _)
def Gn:Nat→Nat→Nat→Nat
 | 0,_,_=>0
 | k+1,a,b=>(if b.testBit 0 then a else 0) ^^^ Gn k (red (2*a)) (b/2)
theorem MB:∀(k o a b:Nat),oZ k o a b=o ^^^ Gn k a b
 | 0,o,a,b=>by rw[oZ,Gn,Nat.xor_zero]
 | k+1,o,a,b=>by
  have hz:∀(k a:Nat),Gn k a 0=0:=by
   intro k
   induction k with
   | zero=>intro a;rfl
   | succ k ih=>intro a;rw[Gn,Nat.zero_testBit,Nat.zero_div,ih];simp
  rw[oZ,Gn,Nat.testBit_zero];by_cases hb:b=0
  ·subst hb;rw[if_pos rfl,Nat.zero_div,hz];simp
  ·rw[if_neg hb,MB k];by_cases h:b%2=1
   ·rw[if_pos h,decide_eq_true h,if_pos rfl,Nat.xor_assoc]
   ·rw[if_neg h,decide_eq_false h,if_neg Bool.false_ne_true,Nat.zero_xor]
theorem Q5:∀(k a b c:Nat),Gn k a (b ^^^ c)=Gn k a b ^^^ Gn k a c
 | 0,_,_,_=>(Nat.xor_self 0).symm
 | k+1,a,b,c=>by
  have h1:(b ^^^ c)/2=(b/2) ^^^ (c/2):=by
   have :=Nat.shiftRight_xor_distrib (a:=b) (b:=c) (i:=1)
   simpa [Nat.shiftRight_eq_div_pow] using this
  rw[Gn,Gn,Gn,h1,Q5 k,Yj,Nat.testBit_xor];congr 1;cases b.testBit 0<;>cases c.testBit 0<;>simp
theorem dz(a b c:Nat):bA a (b ^^^ c)=bA a b ^^^ bA a c:=by grind [bA,MB,Q5]
theorem fJ(a:Nat):bA a 0=0:=by
 have h:=dz a 0 0
 rwa [Nat.xor_self,Nat.xor_self] at h
theorem abq:((List.range 13).all fun i=>(List.range 13).all fun j=>Nat.beq (bA (2^i) (2^j)) (bA (2^j) (2^i)))=true:=by kernel_rfl
theorem Ye:((List.range 13).all fun i=>(List.range 13).all fun j=>(List.range 13).all fun k=>Nat.beq (bA (bA (2^i) (2^j)) (2^k)) (bA (2^i) (bA (2^j) (2^k))))=true:=by kernel_rfl
theorem VT{i:Nat}(h:i<13):2^i<8192:=by
 have :(2:Nat)^i≤2^12:=Nat.pow_le_pow_right (by decide) (by omega);omega
theorem iL{a b:Nat}(ha:a<8192)(hb:b<8192):bA a b=bA b a:=by
 refine y7 (f:=fun a=>bA a b) (g:=fun a=>bA b a) (fun x y hx hy=>fC b hx hy) (fun x y _ _=>dz b x y) (fun i hi=> ?_) a ha;refine y7 (f:=fun b=>bA (2^i) b) (g:=fun b=>bA b (2^i)) (fun x y _ _=>dz _ x y) (fun x y hx hy=>fC _ hx hy) (fun j hj=> ?_) b hb;exact Nat.eq_of_beq_eq_true (List.all_eq_true.1 (List.all_eq_true.1 abq i (List.mem_range.2 hi)) j (List.mem_range.2 hj))
theorem dG{a b c:Nat}(ha:a<8192)(hb:b<8192)(hc:c<8192):bA (bA a b) c=bA a (bA b c):=by
 refine y7 (f:=fun a=>bA (bA a b) c) (g:=fun a=>bA a (bA b c)) (fun x y hx hy=>by rw[fC b hx hy,fC c (bD hx) (bD hy)]) (fun x y hx hy=>fC _ hx hy) (fun i hi=> ?_) a ha;refine y7 (f:=fun b=>bA (bA (2^i) b) c) (g:=fun b=>bA (2^i) (bA b c)) (fun x y hx hy=>by rw[dz,fC c (bD (VT hi)) (bD (VT hi))]) (fun x y hx hy=>by rw[fC c hx hy,dz]) (fun j hj=> ?_) b hb;refine y7 (f:=fun c=>bA (bA (2^i) (2^j)) c) (g:=fun c=>bA (2^i) (bA (2^j) c)) (fun x y hx hy=>dz _ _ _) (fun x y hx hy=>by rw[dz,dz]) (fun k hk=> ?_) c hc;exact Nat.eq_of_beq_eq_true (List.all_eq_true.1 (List.all_eq_true.1 (List.all_eq_true.1 Ye i (List.mem_range.2 hi)) j (List.mem_range.2 hj)) k (List.mem_range.2 hk))
theorem gF{a:Nat}:bA a 1=a:=by
 unfold bA;rw[oZ,if_neg (by decide),if_pos (by decide),Nat.zero_xor];rfl
theorem uz{a:Nat}(h:a<8192):bA 1 a=a:=by rw[iL (by decide) h,gF]
def npow(a:Nat):Nat→Nat
 | 0=>1
 | n+1=>bA (npow a n) a
theorem bU{a:Nat}:∀n,npow a n<8192
 | 0=>(by decide:1<8192)
 | n+1=>bD (bU n)
theorem kF{a:Nat}(h:a<8192)(m:Nat):∀n,npow a (m+n)=bA (npow a m) (npow a n)
 | 0=>gF.symm
 | n+1=>by rw[←Nat.add_assoc,npow,kF h m n,npow,dG (bU _) (bU _) h]
theorem wY{a:Nat}(h:a<8192):npow a 1=a:=by rw[npow,npow,uz h]
theorem tZ{a:Nat}(h:a<8192)(m:Nat):∀n,npow a (m*n)=npow (npow a m) n
 | 0=>rfl
 | n+1=>by rw[Nat.mul_succ,kF h,tZ h m n,npow]
theorem Ry{a:Nat}(h:a<8192):npow a 2=bA a a:=by rw[npow,wY h]
theorem AU:∀(k o a n:Nat),n<2^k→o<8192→a<8192→Ab k o a n=bA o (npow a n)
 | 0,o,a,n,hn,ho,ha=>by
  obtain rfl:n=0:=by omega
  rw[Ab,npow,gF]
 | k+1,o,a,n,hn,ho,ha=>by
  rw[Ab];by_cases h:n=0
  ·subst h;rw[if_pos rfl,npow,gF]
  ·rw[if_neg h];have hn2:n/2<2^k:=by rw[Nat.pow_succ] at hn;omega
   have h2:npow (bA a a) (n/2)=npow a (2*(n/2)):=by rw[tZ ha,Ry ha]
   by_cases h1:n%2=1
   ·rw[if_pos h1,AU k _ _ _ hn2 (bD ho) (bD ha),h2,dG ho ha (bU _)];congr 1;have h3:n=1+2*(n/2):=by omega
    have h4:=kF ha 1 (2*(n/2));rw[←h3,wY ha] at h4;exact h4.symm
   ·rw[if_neg h1,AU k _ _ _ hn2 ho (bD ha),h2];have h3:n=2*(n/2):=by omega
    rw[←h3]
theorem El{a n:Nat}(ha:a<8192)(hn:n<8192):QM a n=npow a n:=by grind [QM,AU,uz,bU]
theorem ahJ{a b:Nat}(ha:a<8192)(hb:b<8192):bA (a ^^^ b) (a ^^^ b)=bA a a ^^^ bA b b:=by grind [dz,fC,iL]
def I9:Nat→Nat→Nat
 | 0,a=>a
 | n+1,a=>I9 n (bA a a)
theorem RH:∀n a b,a<8192→b<8192→I9 n (a ^^^ b)=I9 n a ^^^ I9 n b
 | 0,_,_,_,_=>rfl
 | n+1,a,b,ha,hb=>by rw[I9,I9,I9,ahJ ha hb];exact RH n _ _ (bD ha) (bD hb)
theorem Ll:∀n a,a<8192→I9 n a=npow a (2^n)
 | 0,a,h=>(wY h).symm
 | n+1,a,h=>by rw[I9,Ll n _ (bD h),←Ry h,←tZ h,Nat.pow_succ,Nat.mul_comm]
theorem adX:((List.range 13).all fun i=>Nat.beq (I9 13 (2^i)) (2^i))=true:=by kernel_rfl
theorem L6{a:Nat}(h:a<8192):npow a 8192=a:=by
 have h1:=Ll 13 a h;have h2:=y7 (f:=I9 13) (g:=fun a=>a) (fun x y hx hy=>RH 13 x y hx hy) (fun x y _ _=>rfl) (fun i hi=>Nat.eq_of_beq_eq_true (List.all_eq_true.1 adX i (List.mem_range.2 hi))) a h;rw[h2] at h1;exact h1.symm
theorem aeb:((List.range 8192).all fun e=> !(Nat.beq (bA e e) e)||Nat.ble e 1)=true:=by kernel_rfl
theorem Eo{a:Nat}(h:a<8192)(h0:a≠0):npow a 8191=1:=by
 have h1:bA (npow a 8191) (npow a 8191)=npow a 8191:=by
  have e:npow a (8191+8191)=npow a 8191:=by
   rw[show 8191+8191=8192+8190 from rfl,kF h,L6 h];have e2:=kF h 1 8190;rw[wY h] at e2;exact e2.symm
  rw[kF h] at e;exact e
 have h2:=List.all_eq_true.1 aeb (npow a 8191) (List.mem_range.2 (bU _));rw[h1,show Nat.beq (npow a 8191) (npow a 8191)=true from Nat.beq_refl _,Bool.not_true,Bool.false_or] at h2;have h3:=Nat.le_of_ble_eq_true h2;rcases Nat.lt_or_ge (npow a 8191) 1 with h4 | h4
 ·exfalso;apply h0;have e:=L6 h;rw[show 8192=8191+1 from rfl,kF h,show npow a 8191=0 by omega,dZ] at e;exact e.symm
 ·omega
theorem QU{a:Nat}(h:a<8192)(h0:a≠0):bA a (OH a)=1:=by
 have e:=kF h 1 8190;rw[wY h,show 1+8190=8191 from rfl,Eo h h0] at e;unfold OH;rw[El h (by decide)];exact e.symm
theorem CW{a:Nat}(h:a<8192):OH a<8192:=OE h
theorem zL{a b:Nat}(ha:a<8192)(hb:b<8192)(h:bA a b=0):a=0∨b=0:=by
 by_cases h0:a=0
 ·exact .inl h0
 ·right;have h1:=QU ha h0;have h2:bA (bA a (OH a)) b=0:=by
   rw[dG ha (CW ha) hb,iL (CW ha) hb,←dG ha hb (CW ha),h,dZ]
  rw[h1,uz hb] at h2;exact h2
--END
--BEGIN
def oL(f:Nat→Nat):List Nat→Nat
 | []=>0
 | e::E=>f e ^^^ oL f E
theorem uU{f g:Nat→Nat}:∀ {E:List Nat},(∀e∈E,f e=g e)→oL f E=oL g E
 | [],_=>rfl
 | e::E,h=>by rw[oL,oL,h e (.head _),uU fun x hx=>h x (.tail _ hx)]
theorem Io(f g:Nat→Nat):∀E:List Nat,oL (fun e=>f e ^^^ g e) E=oL f E ^^^ oL g E
 | []=>(Nat.xor_self 0).symm
 | e::E=>by rw[oL,oL,oL,Io f g E,Yj]
theorem Dc(a:Nat)(f:Nat→Nat):∀E:List Nat,bA a (oL f E)=oL (fun e=>bA a (f e)) E
 | []=>fJ a
 | e::E=>by rw[oL,oL,dz,Dc a f E]
theorem Es{f:Nat→Nat}:∀ {E:List Nat},(∀e∈E,f e=0)→oL f E=0
 | [],_=>rfl
 | e::E,h=>by rw[oL,h e (.head _),Es fun x hx=>h x (.tail _ hx)];rfl
theorem Jb{a b c:Nat}(ha:a<8192)(hb:b<8192)(hc:c<8192):bA (bA a b) c=bA (bA a c) b:=by grind [dG,iL]
theorem GX{a:Nat}(h:a<8192)(h0:a≠0):∀n,npow a n≠0
 | 0=>(by decide:(1:Nat)≠0)
 | n+1=>fun hz=>by
  rcases zL (bU n) h hz with h1 | h1
  ·exact GX h h0 n h1
  ·exact h0 h1
theorem aav:∀(E:List Nat) (X Y:Nat→Nat),(∀e∈E,X e<8192∧X e≠0∧Y e<8192)→E.Pairwise (fun a b=>X a≠X b)→∀j0,
 (∀j,j0≤j→j<j0+E.length→oL (fun e=>bA (Y e) (npow (X e) j)) E=0)→∀e∈E,Y e=0
 | [],_,_,_,_,_,_,e,he=>by cases he
 | x::E,X,Y,hX,hp,j0,hs,e,he=>by
  have hx:=hX x (.head _);have hE:∀e∈E,X e<8192∧X e≠0∧Y e<8192:=fun e he=>hX e (.tail _ he);have hpx:=List.pairwise_cons.1 hp;have key:=aav E X (fun e=>bA (Y e) (X e ^^^ X x)) (fun e he=>⟨(hE e he).1,(hE e he).2.1,bD (hE e he).2.2⟩) hpx.2 j0 (fun j h1 h2=>by
   have e1:=hs j h1 (by rw[List.length_cons];omega);have e2:=hs (j+1) (by omega) (by rw[List.length_cons];omega);have e3:bA (X x) (oL (fun e=>bA (Y e) (npow (X e) j)) (x::E))=0:=by rw[e1,fJ]
   rw[Dc] at e3;have e4:oL (fun e=>bA (Y e) (npow (X e) (j+1)) ^^^ bA (X x) (bA (Y e) (npow (X e) j))) (x::E)=0:=by rw[Io,e2,e3];rfl
   have e5:∀e∈x::E,(bA (Y e) (npow (X e) (j+1)) ^^^ bA (X x) (bA (Y e) (npow (X e) j)))=bA (bA (Y e) (X e ^^^ X x)) (npow (X e) j):=fun e he=>by
    obtain⟨k1,k2,k3⟩:=hX e he;rw[dz,fC _ (bD k3) (bD k3),npow,iL hx.1 (bD k3),Jb k3 (bU _) hx.1,Jb k3 k1 (bU _),dG k3 (bU _) k1]
   rw[uU e5,oL,Nat.xor_self,fJ,dZ,Nat.zero_xor] at e4;exact e4)
  have hY:∀e∈E,Y e=0:=fun e he=>by
   obtain⟨k1,k2,k3⟩:=hE e he;rcases zL k3 (fA (k:=13) k1 hx.1) (key e he) with h | h
   ·exact h
   ·exact absurd (xB h).symm (hpx.1 e he)
  rcases List.mem_cons.1 he with rfl | he
  ·have e1:=hs j0 (Nat.le_refl _) (by rw[List.length_cons];omega);rw[oL,Es (fun e he=>by rw[hY e he,dZ]),Nat.xor_zero] at e1;rcases zL hx.2.2 (bU _) e1 with h | h
   ·exact h
   ·exact absurd h (GX hx.1 hx.2.1 _)
  ·exact hY e he
def pv:List Nat→Nat→Nat
 | [],_=>0
 | c::l,x=>c ^^^ bA (pv l x) x
def quo(a:Nat):List Nat→List Nat
 | []=>[]
 | [_]=>[]
 | _::d::l=>pv (d::l) a::quo a (d::l)
theorem Jr(a:Nat):∀l:List Nat,(quo a l).length=l.length-1
 | []=>rfl
 | [_]=>rfl
 | _::d::l=>by rw[quo,List.length_cons,Jr a (d::l)];simp
theorem ME{x:Nat}:∀ {l:List Nat},(∀c∈l,c<8192)→pv l x<8192
 | [],_=>(by decide:0<8192)
 | c::l,h=>fA (k:=13) (h c (.head _)) (bD (ME fun y hy=>h y (.tail _ hy)))
theorem zy{a:Nat}:∀ {l:List Nat},(∀c∈l,c<8192)→∀c∈quo a l,c<8192
 | [],_,c,hc=>by cases hc
 | [_],_,c,hc=>by cases hc
 | _::d::l,h,c,hc=>by
  rw[quo] at hc;rcases List.mem_cons.1 hc with rfl | hc
  ·exact ME fun y hy=>h y (.tail _ hy)
  ·exact zy (fun y hy=>h y (.tail _ hy)) c hc
theorem Uy{a x:Nat}(ha:a<8192)(hx:x<8192):∀ {l:List Nat},(∀c∈l,c<8192)→pv l x=pv l a ^^^ bA (pv (quo a l) x) (x ^^^ a)
 | [],_=>by show 0=0 ^^^ bA 0 _;rw[dZ];rfl
 | [c],_=>by show c ^^^ bA 0 x=(c ^^^ bA 0 a) ^^^ bA 0 _;rw[dZ,dZ,dZ];simp
 | c::d::l,h=>by
  have h':∀y∈d::l,y<8192:=fun y hy=>h y (.tail _ hy);have ih:=Uy ha hx h';have l1:=ME (x:=x) h';have l2:=ME (x:=a) h';have l3:=ME (x:=x) (zy (a:=a) h');have hxa:x ^^^ a<8192:=fA (k:=13) hx ha;show c ^^^ bA (pv (d::l) x) x=(c ^^^ bA (pv (d::l) a) a) ^^^ bA (pv (d::l) a ^^^ bA (pv (quo a (d::l)) x) x) (x ^^^ a);rw[fC _ l2 (bD l3),dz (pv (d::l) a),Jb l3 hx hxa,ih,fC _ l2 (bD l3)];rw[Nat.xor_assoc];congr 1;rw[←Nat.xor_assoc,←Nat.xor_assoc,Nat.xor_comm (bA (pv (d::l) a) a),Nat.xor_assoc (bA (pv (d::l) a) x),Nat.xor_self,Nat.xor_zero]
theorem QL:∀(R l:List Nat),l.length=R.length→(∀c∈l,c<8192)→(∀r∈R,r<8192∧pv l r=0)→R.Pairwise (· ≠ ·)→∀x,x<8192→pv l x=0
 | [],[],_,_,_,_,_,_=>rfl
 | a::R,l,hl,hs,hr,hp,x,hx=>by
  have ha:=hr a (.head _);have hpx:=List.pairwise_cons.1 hp;have key:=QL R (quo a l) (by rw[Jr,hl];simp) (zy hs) (fun r hr'=>by
   have h1:=hr r (.tail _ hr');refine⟨h1.1, ?_⟩;have h2:=Uy ha.1 h1.1 hs;rw[h1.2,ha.2,Nat.zero_xor] at h2;rcases zL (ME (zy hs)) (fA (k:=13) h1.1 ha.1) h2.symm with h3 | h3
   ·exact h3
   ·exact absurd (xB h3).symm (hpx.1 r hr')) hpx.2 x hx
  rw[Uy ha.1 hx hs,ha.2,key,dZ];rfl
def pe(c:Nat→Nat)(x:Nat):Nat→Nat
 | 0=>0
 | k+1=>pe c x k ^^^ bA (c k) (npow x k)
theorem Qs{c:Nat→Nat}{x:Nat}(hc:∀i,c i<8192):∀k,pe c x k<8192
 | 0=>(by decide:0<8192)
 | k+1=>fA (k:=13) (Qs hc k) (bD (hc k))
theorem Jt{c:Nat→Nat}{x:Nat}(hx:x<8192)(hc:∀i,c i<8192):∀k,pe c x (k+1)=c 0 ^^^ bA (pe (fun i=>c (i+1)) x k) x
 | 0=>by rw[pe,pe,pe,npow,gF,dZ,Nat.zero_xor,Nat.xor_zero]
 | k+1=>by
  rw[pe,Jt hx hc k,pe,fC _ (Qs (fun i=>hc (i+1)) k) (bD (hc (k+1))),npow,←dG (hc _) (bU _) hx,Nat.xor_assoc]
theorem abY{x:Nat}(hx:x<8192):∀k (c:Nat→Nat),(∀i,c i<8192)→pe c x k=pv ((List.range k).map c) x
 | 0,_,_=>rfl
 | k+1,c,hc=>by
  rw[Jt hx hc k,abY hx k _ (fun i=>hc (i+1)),List.range_succ_eq_map,List.map_cons,pv,List.map_map];rfl
theorem aaN{c:Nat→Nat}(hc:∀i,c i<8192)(R:List Nat)(hr:∀r∈R,r<8192∧pe c r R.length=0)(hp:R.Pairwise (· ≠ ·))(h0:0<R.length):c 0=0:=by
 have h:=QL R ((List.range R.length).map c) (by simp) (fun x hx=>by obtain⟨i,_,rfl⟩:=List.mem_map.1 hx;exact hc i) (fun r h1=>⟨(hr r h1).1,by rw[←abY (hr r h1).1 _ c hc];exact (hr r h1).2⟩) hp 0 (by decide);rw[←abY (by decide) _ c hc] at h;obtain⟨k,hk⟩:∃k,R.length=k+1:=⟨R.length-1,by omega⟩;rw[hk,Jt (by decide) hc,fJ,Nat.xor_zero] at h;exact h
def yw(c:Nat→Nat)(x:Nat):Nat→Nat
 | 0=>c 0
 | k+1=>bA (yw c x k) x ^^^ c (k+1)
theorem Wq{c:Nat→Nat}{x:Nat}(hc:∀i,c i<8192):∀k,yw c x k<8192
 | 0=>hc 0
 | k+1=>fA (k:=13) (bD (Wq hc k)) (hc (k+1))
theorem afy{c:Nat→Nat}{x y:Nat}(hx:x<8192)(hy:y<8192)(hxy:bA x y=1)(hc:∀i,c i<8192):∀k,yw c x k=bA (pe c y (k+1)) (npow x k)
 | 0=>by rw[yw,pe,pe,npow,npow,gF,gF,Nat.zero_xor]
 | k+1=>by
  have hp:∀n,bA (npow x n) (npow y n)=1:=by
   intro n
   induction n with
   | zero=>exact gF
   | succ n ih =>
    rw[npow,npow,dG (bU _) hx (bD (bU _)),←dG hx (bU _) hy,iL hx (bU _),dG (bU _) hx hy,hxy,gF];exact ih
  show bA (yw c x k) x ^^^ c (k+1)=bA (pe c y (k+1) ^^^ bA (c (k+1)) (npow y (k+1))) (npow x (k+1));rw[afy hx hy hxy hc k,fC _ (Qs hc _) (bD (hc _)),dG (hc _) (bU _) (bU _),iL (bU (a:=y) _) (bU _),hp,gF,dG (Qs hc _) (bU _) hx];rfl
theorem P8{c:List Nat}{x:Nat}(hx:x<8192)(hc:∀i,c.getD i 0<8192):∀k v,v<8192→Av c x k v=bA v (npow x k) ^^^ pe (fun i=>c.getD i 0) x k
 | 0,v,hv=>by rw[Av,npow,gF,pe,Nat.xor_zero]
 | k+1,v,hv=>by
  rw[Av,P8 hx hc k _ (fA (k:=13) (bD hv) (hc k)),fC _ (bD hv) (hc k),pe,Nat.xor_assoc,Nat.xor_comm (pe _ _ _),npow,dG hv hx (bU _),iL hx (bU _)]
--END
--BEGIN
def kH(c s:Nat→Nat)(j:Nat):Nat→Nat
 | 0=>bA (c 0) (s j)
 | k+1=>kH c s j k ^^^ bA (c (k+1)) (s (j-(k+1)))
abbrev cv(c s:Nat→Nat)(j:Nat):Nat:=kH c s j j
theorem MH{c s:Nat→Nat}{j m:Nat}(h:∀i,m<i→c i=0):∀k,kH c s j (m+k)=kH c s j m
 | 0=>rfl
 | k+1=>by rw[←Nat.add_assoc,kH,MH h k,h _ (by omega),dZ,Nat.xor_zero]
theorem AZ{c s:Nat→Nat}{j m n:Nat}(h:∀i,m<i→c i=0)(hn:m≤n):kH c s j n=kH c s j m:=by grind [MH,Nat.add_sub_cancel']
theorem PD{c b s:Nat→Nat}{j:Nat}(hc:∀i,c i<8192)(hb:∀i,b i<8192):∀k,kH (fun i=>c i ^^^ b i) s j k=kH c s j k ^^^ kH b s j k
 | 0=>fC _ (hc 0) (hb 0)
 | k+1=>by rw[kH,kH,kH,PD hc hb k,fC _ (hc _) (hb _),Yj]
theorem LH{c s:Nat→Nat}{j:Nat}:∀k,(∀i,i≤k→c i=0)→kH c s j k=0
 | 0,h=>by rw[kH,h 0 (Nat.le_refl _),dZ]
 | k+1,h=>by rw[kH,LH k (fun i hi=>h i (by omega)),h _ (Nat.le_refl _),dZ];rfl
def jC(b:Nat→Nat)(q sh:Nat)(i:Nat):Nat:=if sh≤i then bA q (b (i-sh)) else 0
theorem Ya{b:Nat→Nat}{q sh:Nat}(hq:q<8192)(i:Nat):jC b q sh i<8192:=by grind [jC,bD]
theorem QI{b s:Nat→Nat}{q sh j:Nat}(hq:q<8192)(hb:∀i,b i<8192)(hs:∀i,s i<8192)(hj:sh≤j):∀k,kH (jC b q sh) s j (sh+k)=bA q (kH b s (j-sh) k)
 | 0=>by
  have h1:kH (jC b q sh) s j sh=bA (bA q (b 0)) (s (j-sh)):=by
   cases sh with
   | zero=>rfl
   | succ n =>
    rw[kH,LH n (fun i hi=>by unfold jC;rw[if_neg (by omega)]),Nat.zero_xor];unfold jC;rw[if_pos (Nat.le_refl _),Nat.sub_self]
  rw[Nat.add_zero,h1,kH,dG hq (hb 0) (hs _)]
 | k+1=>by
  rw[←Nat.add_assoc,kH,QI hq hb hs hj k,kH,dz];congr 1;rw[show jC b q sh (sh+k+1)=bA q (b (k+1)) by unfold jC;rw[if_pos (by omega)];congr 2;omega,dG hq (hb _) (hs _),show j-(sh+k+1)=j-sh-(k+1) by omega]
theorem ag7{b s:Nat→Nat}{q sh j:Nat}(hq:q<8192)(hb:∀i,b i<8192)(hs:∀i,s i<8192)(hj:sh≤j):cv (jC b q sh) s j=bA q (cv b s (j-sh)):=by grind [QI,Nat.add_sub_cancel']
abbrev co(l:List Nat)(i:Nat):Nat:=l.getD i 0
theorem zu{l:List Nat}{i:Nat}(h:l.length≤i):co l i=0:=by grind
theorem Qd{s c:List Nat}{n:Nat}(h0:co c 0=1)(hs:∀i,co s i<8192):∀k,yC s c n k=kH (co c) (co s) n k
 | 0=>by rw[yC,kH,h0,uz (hs n)]
 | k+1=>by rw[yC,kH,Qd h0 hs k]
theorem Qx{c b:List Nat}{q sh:Nat}:∀k,k+sh≤c.length→k≤b.length→∀i,co (oQ c b q sh k) i=if i<k+sh then co c i ^^^ jC (co b) q sh i else co c i
 | 0,_,_,i=>by
  rw[oQ];split
  ·unfold jC;rw[if_neg (by omega),Nat.xor_zero]
  ·rfl
 | k+1,h1,h2,i=>by
  have ih:=Qx (c:=c) (b:=b) (q:=q) (sh:=sh) k (by omega) (by omega);rw[oQ];show ((oQ c b q sh k).set (k+sh) _).getD i 0=_;rw[yH];by_cases h:k+sh=i
  ·subst h;rw[if_pos ⟨rfl,by rw[qp];omega⟩,if_pos (by omega)];have e:=ih (k+sh);rw[if_neg (by omega)] at e;rw[show (oQ c b q sh k).getD (k+sh) 0=co c (k+sh) from e];unfold jC;rw[if_pos (by omega),Nat.add_sub_cancel]
  ·rw[if_neg (fun hh=>h hh.1)];have e:=ih i;show co (oQ c b q sh k) i=_;rw[e];by_cases h3:i<k+sh
   ·rw[if_pos h3,if_pos (by omega)]
   ·rw[if_neg h3,if_neg (by omega)]
theorem agT{x:BM}{d:Nat}(i:Nat):co (Ph x d) i=co x.c i ^^^ jC (co x.b) (bA d (OH x.last)) x.shift i:=by
 unfold Ph;rw[Qx _ (by rw[wz];omega) (Nat.le_refl _)];have he:co (o8 x) i=co x.c i:=by
  unfold o8;by_cases h:i<x.c.length
  ·unfold co;simp[List.getD,List.getElem?_append_left h]
  ·rw[zu (l:=x.c) (by omega)];unfold co;rw[List.getD,List.getElem?_append_right (by omega),List.getElem?_replicate];split<;>rfl
 rw[he];split
 ·rfl
 ·unfold jC;split
  ·rw[show co x.b (i-x.shift)=0 from zu (by omega),fJ,Nat.xor_zero]
  ·rw[Nat.xor_zero]
structure BM.Inv(s:List Nat)(v n:Nat)(x:BM):Prop where
 ok:x.Ok n
 c0:co x.c 0=1
 cd:∀i,x.length<i→co x.c i=0
 gen:∀j,x.length≤j→j<n→cv (co x.c) (co s) j=0
 sh:1≤x.shift
 le:x.length≤v
 Po:(x.length=0∧x.b=[1]∧x.last=1∧x.shift=n+1)∨∃p lb,p+x.shift=n∧lb+x.length=p+1∧1≤x.length∧(∀i,lb<i→co x.b i=0)∧(∀j,lb≤j→j<p→cv (co x.b) (co s) j=0)∧cv (co x.b) (co s) p=x.last
theorem BM.Inv.d{s:List Nat}{v n:Nat}{x:BM}(h:x.Inv s v n)(hs:aB 8192 s):Kh s n x=cv (co x.c) (co s) n:=by
 unfold Kh;rw[Qd h.c0 (fun i=>hs.at_ (by decide) i)];have h1:=h.ok.l;have h2:=h.ok.c1;refine (AZ (fun i hi=> ?_) (by omega)).symm;rcases Nat.lt_or_ge i x.c.length with h3 | h3
 ·exact h.cd i (by omega)
 ·exact zu h3
theorem BM.Inv.next{s:List Nat}{v n:Nat}{x:BM}(h:x.Inv s v n)(hs:aB 8192 s)(hd:Kh s n x≠0){l:Nat}(hl:x.length≤l)(hl2:n+1-x.length≤l) :
 co (Ph x (Kh s n x)) 0=1∧(∀i,l<i→co (Ph x (Kh s n x)) i=0)∧∀j,l≤j→j<n+1→cv (co (Ph x (Kh s n x))) (co s) j=0:=by
 have Gg:Kh s n x<8192:=xM hs h.ok.cs _;obtain⟨q,hq⟩:∃q,q=bA (Kh s n x) (OH x.last):=⟨_,rfl⟩;have Vr:q<8192:=by rw[hq];exact bD Gg
 have hco:∀i,co (Ph x (Kh s n x)) i=co x.c i ^^^ jC (co x.b) q x.shift i:=fun i=>by rw[hq];exact agT i
 have Pk:∀i,co x.c i<8192:=fun i=>h.ok.cs.at_ (by decide) i;have hb8:∀i,co x.b i<8192:=fun i=>h.ok.bs.at_ (by decide) i;have hs8:∀i,co s i<8192:=fun i=>hs.at_ (by decide) i;have hsh:=h.sh;have ZQ:=h.ok.l;have hcv:∀j,cv (co (Ph x (Kh s n x))) (co s) j=cv (co x.c) (co s) j ^^^ cv (jC (co x.b) q x.shift) (co s) j:=fun j=>by
  rw[show co (Ph x (Kh s n x))=fun i=>co x.c i ^^^ jC (co x.b) q x.shift i from funext hco];exact PD Pk (Ya Vr) j
 have Hf:bA q x.last=Kh s n x:=by
  rw[hq,dG Gg (CW h.ok.la) h.ok.la,iL (CW h.ok.la) h.ok.la,QU h.ok.la h.ok.l0,gF]
 refine⟨?_, ?_, ?_⟩
 ·rw[hco,h.c0];unfold jC;rw[if_neg (by omega),Nat.xor_zero]
 ·intro i hi;rw[hco,h.cd i (by omega),Nat.zero_xor];unfold jC;split
  ·rcases h.Po with ⟨k1,k2,k3,k4⟩ | ⟨p,lb,k1,k2,k3,k4,k5,k6⟩
   ·rw[zu (l:=x.b) (by rw[k2];simp;omega),fJ]
   ·rw[k4 _ (by omega),fJ]
  ·rfl
 ·intro j ZU hj2;rw[hcv];rcases h.Po with ⟨k1,k2,k3,k4⟩ | ⟨p,lb,k1,k2,k3,k4,k5,k6⟩
  ·omega
  ·rw[ag7 Vr hb8 hs8 (by omega)];by_cases Gy:j=n
   ·subst Gy;rw[show j-x.shift=p by omega,k6,Hf,h.d hs,Nat.xor_self]
   ·rw[h.gen j (by omega) (by omega),k5 _ (by omega) (by omega),fJ];rfl
structure Ua(s:List Nat)(E:List Nat)(X:Nat→Nat):Prop where
 x:∀e∈E,X e<8192∧X e≠0
 p:E.Pairwise (fun a b=>X a≠X b)
 s:∀j,j<s.length→co s j=oL (fun e=>npow (X e) (j+1)) E
theorem Ua.cv{s E:List Nat}{X:Nat→Nat}(h:Ua s E X){c:Nat→Nat}(hc:∀i,c i<8192){j:Nat}(hj:j<s.length):∀l,l≤j→kH c (co s) j l=oL (fun e=>bA (yw c (X e) l) (npow (X e) (j+1-l))) E
 | 0,_=>by rw[kH,h.s j hj,Dc];rfl
 | l+1,hl=>by
  rw[kH,h.cv hc hj l (by omega),h.s _ (by omega),Dc,←Io];refine uU (fun e he=> ?_);obtain⟨k1,k2⟩:=h.x e he;rw[yw,fC _ (bD (Wq hc l)) (hc _),show j+1-l=j-l+1 by omega,show j-(l+1)+1=j-l by omega,show j+1-(l+1)=j-l by omega,npow,iL (bU _) k1,←dG (Wq hc l) k1 (bU _)]
theorem Ua.weights{s E:List Nat}{X:Nat→Nat}(h:Ua s E X){c:Nat→Nat}(hc:∀i,c i<8192){l:Nat}(hd:∀i,l<i→c i=0)(aof:∀j,l≤j→j<l+E.length→Proofs.YtcedojacbhnbiaaGreat.cv c (co s) j=0)(hl:l+E.length≤s.length) :
 ∀ e∈E,yw c (X e) l=0:=by
 refine aav E X (fun e=>yw c (X e) l) (fun e he=>⟨(h.x e he).1,(h.x e he).2,Wq hc l⟩) h.p 1 (fun i h1 h2=> ?_);have e1:=aof (l+i-1) (by omega) (by omega);have e2:kH c (co s) (l+i-1) (l+i-1)=kH c (co s) (l+i-1) l:=AZ hd (by omega);rw[show Proofs.YtcedojacbhnbiaaGreat.cv c (co s) (l+i-1)=kH c (co s) (l+i-1) (l+i-1) from rfl,e2,h.cv hc (by omega) l (by omega)] at e1;rw[show l+i-1+1-l=i by omega] at e1;exact e1
theorem Us{s E:List Nat}{X:Nat→Nat}(hS:Ua s E X)(hs:aB 8192 s){n:Nat}{x:BM}(hn:n<s.length)(h:x.Inv s E.length n):(w9 s n x).Inv s E.length (n+1):=by
 have oK:=LC hs h.ok;have ZQ:=h.ok.l;have hsh:=h.sh;have hle:=h.le;have Pk:∀i,co x.c i<8192:=fun i=>h.ok.cs.at_ (by decide) i;unfold w9 at oK ⊢;by_cases h0:Kh s n x=0
 ·rw[if_pos h0] at oK ⊢;refine⟨oK,h.c0,h.cd,fun j h1 h2=> ?_,by show 1≤x.shift+1;omega,h.le, ?_⟩
  ·by_cases Gy:j=n
   ·subst Gy;rw[←h0];exact (h.d hs).symm
   ·exact h.gen j h1 (by omega)
  ·rcases h.Po with ⟨k1,k2,k3,k4⟩ | ⟨p,lb,k1,k2,k3,k4,k5,k6⟩
   ·exact .inl ⟨k1,k2,k3,by show x.shift+1=n+1+1;omega⟩
   ·exact .inr ⟨p,lb,by show p+(x.shift+1)=n+1;omega,k2,k3,k4,k5,k6⟩
 ·rw[if_neg h0] at oK ⊢;by_cases h2:2*x.length≤n
  ·rw[if_pos h2] at oK ⊢;obtain⟨k1,k2,k3⟩:=h.next hs h0 (l:=n+1-x.length) (by omega) (Nat.le_refl _);have hlen:n+1-x.length≤E.length:=by
    rcases Nat.lt_or_ge E.length (n+1-x.length) with hh | hh
    ·exfalso;have hw:=hS.weights Pk h.cd (fun j h1 h2=>h.gen j h1 (by omega)) (by omega);apply h0;rw[h.d hs];have e2:kH (co x.c) (co s) n n=kH (co x.c) (co s) n x.length:=AZ h.cd (by omega);show kH (co x.c) (co s) n n=0;rw[e2,hS.cv Pk hn _ (by omega)];exact Es (fun e he=>by rw[hw e he,dZ])
    ·exact hh
   refine⟨oK,k1,k2,k3,Nat.le_refl 1,hlen,.inr ⟨n,x.length,rfl,by show x.length+(n+1-x.length)=n+1;omega,by show 1≤n+1-x.length;omega,h.cd,h.gen, ?_⟩⟩;exact (h.d hs).symm
  ·rw[if_neg h2] at oK ⊢;obtain⟨k1,k2,k3⟩:=h.next hs h0 (l:=x.length) (Nat.le_refl _) (by omega);refine⟨oK,k1,k2,k3,by show 1≤x.shift+1;omega,h.le, ?_⟩;rcases h.Po with ⟨j1,j2,j3,j4⟩ | ⟨p,lb,j1,j2,j3,j4,j5,j6⟩
   ·omega
   ·exact .inr ⟨p,lb,by show p+(x.shift+1)=n+1;omega,j2,j3,j4,j5,j6⟩
theorem PZ{s E:List Nat}{X:Nat→Nat}(hS:Ua s E X)(hs:aB 8192 s):∀n,n≤s.length→(jV s n).Inv s E.length n
 | 0,_=>⟨CB hs 0,rfl,fun i hi=>zu hi,fun j _ h=>absurd h (Nat.not_lt_zero _),Nat.le_refl 1,Nat.zero_le _,.inl ⟨rfl,rfl,rfl,rfl⟩⟩
 | n+1,hn=>Us hS hs (by omega) (PZ hS hs n (by omega))
--END
--BEGIN
theorem vR{xs:List Nat}{i:Nat}(hi:i<8*xs.length)(k:Nat):bE (lM xs i) k=(bE xs k ^^ decide (i=k)):=by unfold bE lM;grind
theorem aaz{t:Nat}{p:LL}{i:Nat}(hm:13*t≤8*p.2.length)(hi:i<13*t+8*p.1.length)(k:Nat):G6 t (lS t p i).1 (lS t p i).2 k=(G6 t p.1 p.2 k ^^ decide (i=k)):=by
 unfold G6 lS;by_cases h:13*t≤i
 ·rw[if_pos h];by_cases hk:13*t≤k
  ·rw[if_pos hk,if_pos hk,vR (by omega)];congr 1;apply decide_eq_decide.2;omega
  ·rw[if_neg hk,if_neg hk,decide_eq_false (by omega),Bool.xor_false]
 ·rw[if_neg h];by_cases hk:13*t≤k
  ·rw[if_pos hk,if_pos hk,decide_eq_false (by omega),Bool.xor_false]
  ·rw[if_neg hk,if_neg hk,vR (by omega)]
theorem Ic{t:Nat}{c:List Nat}{L:Nat}{p:LL}(hm:13*t≤8*p.2.length):∀k,k≤13*t+8*p.1.length→∀j,G6 t (dx t c L p k).1.1 (dx t c L p k).1.2 j=(G6 t p.1 p.2 j ^^ (decide (j<k)&&wu c L j))
 | 0,_,j=>by simp[dx]
 | k+1,hk,j=>by
  have ih:=Ic (c:=c) (L:=L) hm k (by omega);obtain⟨l1,l2⟩:=mQ t c L p k;rw[dx];by_cases hr:wu c L k=true
  ·rw[if_pos hr];show G6 t (lS t (dx t c L p k).1 k).1 (lS t (dx t c L p k).1 k).2 j=_;rw[aaz (by omega) (by omega),ih j];by_cases hj:k=j
   ·subst hj;rw[hr,decide_eq_false (Nat.lt_irrefl k),decide_eq_true (Nat.lt_succ_self k),decide_eq_true rfl];simp
   ·rw[decide_eq_false hj,Bool.xor_false,show decide (j<k)=decide (j<k+1) from decide_eq_decide.2 (by omega)]
  ·rw[if_neg hr,ih j];by_cases hj:k=j
   ·subst hj;rw[Bool.not_eq_true] at hr;rw[hr];simp
   ·rw[show decide (j<k)=decide (j<k+1) from decide_eq_decide.2 (by omega)]
theorem Qw{xs ys:List Nat}(hl:xs.length=ys.length)(hx:aB 256 xs)(hy:aB 256 ys)(h:∀k,k<8*xs.length→bE xs k=bE ys k):xs=ys:=by
 apply List.ext_getElem hl;intro i h1 h2;have e1:xs.getD i 0=xs[i]:=by simp[List.getD,h1]
 have e2:ys.getD i 0=ys[i]:=by simp[List.getD,h2]
 rw[←e1,←e2];apply Nat.eq_of_testBit_eq;intro j;by_cases hj:j<8
 ·have :=h (8*i+j) (by omega);unfold bE at this
  rwa [show (8*i+j)/8=i by omega,show (8*i+j)%8=j by omega] at this
 ·rw[kX (hx.at_ (by decide) i) (by omega),kX (hy.at_ (by decide) i) (by omega)]
theorem abC{x j i:Nat}(hx:x<256):(IL x j).testBit i=(x.testBit i&& !decide (j=i)):=by
 unfold IL;rw[Nat.testBit_and,Nat.testBit_xor,Nat.testBit_two_pow];by_cases h8:i<8
 ·have :(255:Nat).testBit i=true:=by
   have :∀i,i<8→(255:Nat).testBit i=true:=by decide
   exact this i h8
  rw[this];simp
 ·rw[kX hx (by omega),Bool.false_and,Bool.false_and]
theorem Jd{m:List Nat}{i0:Nat}(hm:aB 256 m):∀k j,bE (iJ m i0 k) j=(bE m j&& !(decide (i0≤j)&&decide (j<i0+k)))
 | 0,j=>by rw[iJ];by_cases h:i0≤j<;>simp[h]
 | k+1,j=>by
  have ih:=Jd (i0:=i0) hm k;have hs:=nM (i0:=i0) hm k;have hlen:=lK m i0 k;rw[iJ];have e1:bE ((iJ m i0 k).set ((i0+k)/8) (IL ((iJ m i0 k).getD ((i0+k)/8) 0) ((i0+k)%8))) j=(bE (iJ m i0 k) j&& !decide (i0+k=j)):=by
   unfold bE;rw[yH];by_cases h:(i0+k)/8=j/8∧j/8<(iJ m i0 k).length
   ·rw[if_pos h,abC (hs.at_ (by decide) _),h.1];congr 2;apply decide_eq_decide.2;omega
   ·rw[if_neg h];by_cases h2:i0+k=j
    ·subst h2;have h3:(iJ m i0 k).length≤(i0+k)/8:=by
      rcases Nat.lt_or_ge ((i0+k)/8) (iJ m i0 k).length with h4 | h4
      ·exact absurd ⟨rfl,h4⟩ h
      ·exact h4
     rw[List.getD,List.getElem?_eq_none h3];simp
    ·rw[decide_eq_false h2];simp
  rw[e1,ih j,Bool.and_assoc];congr 1;by_cases h1:i0≤j<;>by_cases h2:j<i0+k<;>by_cases h3:i0+k=j<;>by_cases h4:j<i0+(k+1)<;>first | omega | simp[h1,h2,h3,h4]
theorem Lc{t:Nat}{m:List Nat}(hm:aB 256 m)(hl:m.length=aM t)(j:Nat):bE (iq t m) j=(decide (j<13*t)&&bE m j):=by
 unfold iq;rw[Jd hm];have h8:13*t≤8*aM t:=by unfold aM;omega
 by_cases h:j<13*t
 ·rw[decide_eq_false (show ¬13*t≤j by omega),decide_eq_true h];simp
 ·rw[decide_eq_true (show 13*t≤j by omega),decide_eq_false h];by_cases h2:j<13*t+(8*aM t-13*t)
  ·rw[decide_eq_true h2];simp
  ·rw[kD (by omega)];simp
theorem Sd{k:Nat}(h:k<8191):dW (k:Int)=npow 2 k:=by grind [dW,El]
theorem aa8{x:Nat}(hx:x<8192)(m n:Nat):npow x m=1→npow x n=1→npow x (Nat.gcd m n)=1:=by
 induction m,n using Nat.gcd.induction with
 | H0 n=>intro _ h;rw[Nat.gcd_zero_left];exact h
 | H1 m n hm ih =>
  intro h1 h2;rw[Nat.gcd_rec];refine ih ?_ h1;have e:=kF hx (m*(n/m)) (n%m);have h3:∀k,npow 1 k=1:=by
   intro k
   induction k with
   | zero=>rfl
   | succ k ih=>rw[npow,ih];exact gF
  rw[Nat.div_add_mod,h2,tZ hx,h1,h3,uz (bU _)] at e;exact e.symm
theorem aht:((List.range 8190).all fun d=>Nat.beq (Nat.gcd (d+1) 8191) 1)=true:=by kernel_rfl
theorem acH{d:Nat}(h0:0<d)(h:d<8191):npow 2 d≠1:=fun h1=>by
 have h2:=aa8 (by decide) d 8191 h1 (Eo (a:=2) (by decide) (by decide));have h3:=Nat.eq_of_beq_eq_true (List.all_eq_true.1 aht (d-1) (List.mem_range.2 (by omega)));rw[show d-1+1=d by omega] at h3;rw[h3] at h2;exact absurd h2 (by decide)
theorem acP(e:Nat):npow 2 e≠0:=GX (by decide) (by decide) e
theorem ab4{e f:Nat}(h:e<f)(hf:f<8191):npow 2 e≠npow 2 f:=fun he=>by
 have h1:=kF (a:=2) (by decide) e (f-e);rw[Nat.add_sub_cancel' (Nat.le_of_lt h),←he] at h1;have h2:bA (npow 2 e) (npow 2 (f-e) ^^^ 1)=0:=by rw[dz,←h1,gF,Nat.xor_self]
 rcases zL (bU _) (fA (k:=13) (bU _) (by decide)) h2 with h3 | h3
 ·exact acP e h3
 ·exact acH (by omega) (by omega) (xB h3)
theorem abF{e f:Nat}(he:e<8191)(hf:f<8191)(h:npow 2 e=npow 2 f):e=f:=by grind [Nat.lt_trichotomy,ab4]
theorem Ui{i:Nat}(h:i<8191):bA (npow 2 i) (dW (-(i:Int)))=1:=by
 rcases Nat.eq_zero_or_pos i with rfl | hi
 ·rw[show (-((0:Nat):Int))=((0:Nat):Int) from rfl,Sd (by decide)];rfl
 ·have e:dW (-(i:Int))=npow 2 (8191-i):=by
   unfold dW;rw[show ((-(i:Int))%8191).toNat=8191-i by omega,El (by decide) (by omega)]
  rw[e,←kF (by decide),Nat.add_sub_cancel' (by omega),Eo (by decide) (by decide)]
theorem neg_inj{e f:Nat}(he:e<8191)(hf:f<8191)(h:dW (-(e:Int))=dW (-(f:Int))):e=f:=by
 apply abF he hf;have h1:=Ui he;have h2:=Ui hf;rw[h] at h1;have h3:bA (npow 2 e) (bA (npow 2 f) (dW (-(f:Int))))=bA (npow 2 f) (bA (npow 2 e) (dW (-(f:Int)))):=by
  rw[←dG (bU _) (bU _) (ow _),←dG (bU _) (bU _) (ow _),iL (bU e) (bU f)]
 rw[h1,h2,gF,gF] at h3;exact h3
theorem WT{x:Nat}(hx:x<8192):∀n v,v<8192→it x n v=bA v (npow x n)
 | 0,v,_=>gF.symm
 | n+1,v,hv=>by rw[it,WT hx n _ (bD hv),npow,dG hv hx (bU _),iL hx (bU _)]
theorem acE{x n:Nat}(hx:x<8192):∀E:List Nat,E.Nodup→(∀e∈E,e<n)→ev x (fun i=>decide (i∈E)) n=oL (fun e=>npow x e) E
 | [],_,_=>Ck n (fun i _=>by simp)
 | e::E,hn,hE=>by
  have nk:=List.nodup_cons.1 hn;have ih:=acE hx E nk.2 (fun e he=>hE e (.tail _ he));have h1:ev x (fun i=>decide (i=e)) n=npow x e:=by
   have hen:=hE e (.head _);rw[vL (n:=e+1) (fun i hi=>decide_eq_false (by omega)) (by omega),ev,Ck e (fun i hi=>decide_eq_false (by omega)),decide_eq_true rfl,Nat.xor_zero,WT hx e _ (vI _)];exact uz (bU _)
  rw[oL,←ih,←h1,←H9];refine pE n (fun i _=> ?_);by_cases h2:i=e
  ·subst h2;simp[nk.1]
  ·simp[h2]
theorem WE{c:Nat→Nat}{x m:Nat}(h:∀i,m≤i→c i=0):∀k,pe c x (m+k)=pe c x m
 | 0=>rfl
 | k+1=>by rw[←Nat.add_assoc,pe,WE h k,h _ (by omega),dZ,Nat.xor_zero]
theorem Fu{xs:List Nat}:∀n,0<aT xs n→xs.getD (aT xs n-1) 0≠0
 | 0,h=>absurd h (Nat.lt_irrefl 0)
 | n+1,h=>by
  rw[aT] at h ⊢;split at h
  ·rename_i h1;rw[if_pos h1];exact Fu n h
  ·rename_i h1;rw[if_neg h1];exact h1
theorem FN{k:Nat}:∀ {E:List Nat},E.Nodup→(E.filter fun e=>decide (e<k+1)).length=(E.filter fun e=>decide (e<k)).length+(if k∈E then 1 else 0)
 | [],_=>rfl
 | e::E,hn=>by
  have nk:=List.nodup_cons.1 hn;have ih:=FN (k:=k) nk.2;rw[List.filter_cons,List.filter_cons];by_cases h1:e=k
  ·subst h1;rw[if_neg nk.1] at ih;simp[ih]
  ·by_cases h2:e<k
   ·rw[if_pos (decide_eq_true (by omega:e<k+1)),if_pos (decide_eq_true h2),List.length_cons,List.length_cons,ih];have :(k∈e::E)↔k∈E:=by rw[List.mem_cons];exact⟨fun h=>h.resolve_left (fun h=>h1 h.symm),.inr⟩
    by_cases h3:k∈E;all_goals first | (rw[if_pos h3,if_pos (this.2 h3)];done) | (rw[if_pos h3,if_pos (this.2 h3)];omega) | (rw[if_neg h3,if_neg (fun h=>h3 (this.1 h))];done) | (rw[if_neg h3,if_neg (fun h=>h3 (this.1 h))];omega)
   ·rw[if_neg (by simp;omega),if_neg (by simp;omega),ih];have :(k∈e::E)↔k∈E:=by rw[List.mem_cons];exact⟨fun h=>h.resolve_left (fun h=>h1 h.symm),.inr⟩
    by_cases h3:k∈E
    ·rw[if_pos h3,if_pos (this.2 h3)]
    ·rw[if_neg h3,if_neg (fun h=>h3 (this.1 h))]
theorem Mh{t:Nat}{c:List Nat}{L:Nat}{p:LL}{E:List Nat}{n:Nat}(hE:E.Nodup)(hr:∀k,k<n→wu c L k=decide (k∈E)):∀k,k≤n→(dx t c L p k).2=(E.filter fun e=>decide (e<k)).length
 | 0,_=>by
  rw[dx]
  symm
  rw[List.length_eq_zero_iff,List.filter_eq_nil_iff];intro e _;simp
 | k+1,hk=>by
  have ih:=Mh (t:=t) (p:=p) hE hr k (by omega);rw[FN hE,dx,hr k (by omega)];by_cases h:k∈E
  ·rw[if_pos (decide_eq_true h),if_pos h,←ih]
  ·rw[if_neg (by simp[h]),if_neg h,←ih];rfl
theorem Xu{t:Nat}{d d' m':List Nat}{E:List Nat}(ht:1≤t∧t≤8)(hd:aB 256 d)(uQ:d.length≤512)(Zr:aB 256 d')(wQ:aB 256 m')(hl:d'.length=d.length)(GH:m'.length=aM t)
 (hE:E.Nodup) (hEn:∀e∈E,e<13*t+8*d.length) (hEt:E.length≤t) (hb:∀i,i<13*t+8*d.length→G6 t d' m' i=(G6 t d (jg t d) i ^^ decide (i∈E))) :
 rW t d' m'=some ((d,jg t d),E.length):=by
 have h8:13*t≤8*aM t:=by unfold aM;omega
 obtain⟨p,hp⟩:∃p:LL,p=(d',iq t m'):=⟨_,rfl⟩;obtain⟨s,hs⟩:∃s,s=iB t p:=⟨_,rfl⟩;obtain⟨n,hn⟩:∃n,n=13*t+8*d.length:=⟨_,rfl⟩;have hn4:n≤4200:=by omega
 have agW:(iq t m').length=aM t:=by unfold iq;rw[lK,GH]
 have SH:p.1.length=d.length:=by rw[hp];exact hl
 have Pt:p.2.length=aM t:=by rw[hp];exact agW
 have hpb:∀i,i<n→G6 t p.1 p.2 i=(G6 t d (jg t d) i ^^ decide (i∈E)):=fun i hi=>by
  rw[←hb i (by omega),hp];unfold G6;split
  ·rfl
  ·rw[Lc wQ GH,decide_eq_true (by omega),Bool.true_and]
 have rQ:s.length=2*t:=by rw[hs];exact Ee
 have Pg:aB 8192 s:=by rw[hs];exact yg
 have hS:Ua s E (npow 2):=by
  refine⟨fun e _=>⟨bU e,acP e⟩, ?_,fun j hj=> ?_⟩
  ·refine List.Pairwise.imp_of_mem ?_ hE;intro a b ha tY hab h;exact hab (abF (by have :=hEn a ha;omega) (by have :=hEn b tY;omega) h)
  ·have hj2:j<2*t:=by omega
   have e1:co s j=Pp (G6 t p.1 p.2) (dW ((j+1:Nat):Int)) n 0:=by
    rw[hs];unfold co iB qb;rw[List.getD,List.getElem?_map,List.getElem?_range hj2,SH,←hn];rfl
   have hx:=ow ((j+1:Nat):Int);have e2:=VD ht hd hj2;rw[Ie _ _ (by decide),qF,Nat.zero_xor,←hn] at e2;rw[e1,Ie _ _ (by decide),qF,Nat.zero_xor,pE n hpb,H9,e2,Nat.zero_xor,acE hx E hE (fun e he=>by rw[hn];exact hEn e he)];refine uU (fun e _=> ?_);rw[Sd (by omega),←tZ (by decide),←tZ (by decide),Nat.mul_comm]
 have hI:=PZ hS Pg s.length (Nat.le_refl _);obtain⟨x,hx⟩:∃x,x=jV s s.length:=⟨_,rfl⟩;rw[←hx] at hI;obtain⟨c,hc⟩:∃c,c=uD s:=⟨_,rfl⟩;have hcx:x.c=c:=by rw[hc,hx];rfl
 obtain⟨M,hM⟩:∃M,M=wN s:=⟨_,rfl⟩;have hMn:M=aT c c.length:=by rw[hM,hc];rfl
 have aN:co c 0=1:=by rw[←hcx];exact hI.c0
 have hcd:∀i,x.length<i→co c i=0:=by rw[←hcx];exact hI.cd
 have Pk:∀i,co c i<8192:=fun i=>by rw[←hcx];exact hI.ok.cs.at_ (by decide) i
 have hle:=hI.le;have hM0:∀i,M≤i→co c i=0:=fun i hi=>by
  rcases Nat.lt_or_ge i c.length with h | h
  ·exact vC c.length i (by omega) h
  ·exact zu h
 have hM1:1≤M:=by
  rcases Nat.lt_or_ge M 1 with h | h
  ·have :=hM0 0 (by omega);rw[aN] at this;exact absurd this (by decide)
  ·exact h
 have hMx:M≤x.length+1:=by
  rcases Nat.lt_or_ge (x.length+1) M with h | h
  ·exfalso;have h1:=Fu (xs:=c) c.length (by rw[←hMn];omega);rw[←hMn] at h1;exact h1 (hcd _ (by omega))
  ·exact h
 have hw:=hS.weights (c:=co c) Pk hcd (fun j h1 h2=>by rw[←hcx];exact hI.gen j h1 (by omega)) (by omega);have hE8:∀e∈E,e<8191:=fun e he=>by have :=hEn e he;omega
 have acX:∀e∈E,pe (co c) (dW (-(e:Int))) M=0:=fun e he=>by
  have h1:=afy (bU (a:=2) e) (ow (-(e:Int))) (Ui (hE8 e he)) Pk x.length;rw[hw e he] at h1;rcases zL (Qs Pk _) (bU _) h1.symm with h2 | h2
  ·rw[show x.length+1=M+(x.length+1-M) by omega,WE hM0] at h2;exact h2
  ·exact absurd h2 (GX (bU e) (acP e) _)
 have afH:∀R:List Nat,R.Nodup→(∀e∈R,e<8191)→(∀e∈R,pe (co c) (dW (-(e:Int))) M=0)→R.length≠M:=fun R h1 h2 h3 h4=>by
  have :=aaN (c:=co c) Pk (R.map fun e=>dW (-((e:Nat):Int))) (fun r hr=>by
   obtain⟨e,he,rfl⟩:=List.mem_map.1 hr;refine⟨ow _, ?_⟩;rw[List.length_map,h4];exact h3 e he) (by
   rw[List.pairwise_map];refine List.Pairwise.imp_of_mem ?_ h1;intro a b ha tY hab h;exact hab (neg_inj (h2 a ha) (h2 b tY) h)) (by rw[List.length_map];omega)
  rw[aN] at this;exact absurd this (by decide)
 have hMv:M=E.length+1:=by
  rcases Nat.lt_or_ge E.length M with h | h
  ·omega
  ·exact absurd (by rw[List.length_take];omega) (afH (E.take M) (hE.sublist (List.take_sublist _ _)) (fun e he=>hE8 e (List.mem_of_mem_take he)) (fun e he=>acX e (List.mem_of_mem_take he)))
 have hrt:∀k,k<n→wu c M k=decide (k∈E):=fun k hk=>by
  unfold wu;apply decide_eq_decide.2;rw[P8 (ow _) Pk M 0 (by decide),dZ,Nat.zero_xor];constructor
  ·intro h;by_cases hkE:k∈E
   ·exact hkE
   ·exact absurd (by rw[List.length_cons,hMv]) (afH (k::E) (List.nodup_cons.2 ⟨hkE,hE⟩) (fun e he=>by
     rcases List.mem_cons.1 he with rfl | he
     ·omega
     ·exact hE8 e he) (fun e he=>by
     rcases List.mem_cons.1 he with rfl | he
     ·exact h
     ·exact acX e he))
  ·exact acX k
 have afp:(dx t c M p n).2=E.length:=by
  rw[Mh hE hrt n (Nat.le_refl _),List.filter_eq_self.2];intro e he;exact decide_eq_true (by rw[hn];exact hEn e he)
 have afw:∀j,j<n→G6 t (dx t c M p n).1.1 (dx t c M p n).1.2 j=G6 t d (jg t d) j:=fun j hj=>by
  rw[Ic (by omega) n (by omega),decide_eq_true hj,Bool.true_and,hrt j hj,hpb j hj,Bool.xor_assoc,Bool.xor_self,Bool.xor_false]
 obtain⟨l1,l2⟩:=mQ t c M p n;have pY:∀k,aB 256 (dx t c M p k).1.1∧aB 256 (dx t c M p k).1.2:=fun k=>by
  induction k with
  | zero=>rw[dx,hp];exact⟨Zr,nM wQ _⟩
  | succ k ih =>
   rw[dx];split
   ·show aB 256 (lS t _ k).1∧aB 256 (lS t _ k).2;unfold lS;split
    ·exact⟨mK ih.1 _,ih.2⟩
    ·exact⟨ih.1,mK ih.2 _⟩
   ·exact ih
 have alz:∀k j,13*t≤j→bE (dx t c M p k).1.2 j=false:=fun k=>by
  induction k with
  | zero=>intro j hj;rw[dx,hp];show bE (iq t m') j=false;rw[Lc wQ GH,decide_eq_false (by omega),Bool.false_and]
  | succ k ih =>
   intro j hj;rw[dx];split
   ·show bE (lS t _ k).2 j=false;have h6:=(mQ t c M p k).2;unfold lS;split
    ·exact ih j hj
    ·rw[vR (by omega),ih j hj,decide_eq_false (by omega)];rfl
   ·exact ih j hj
 have hel:=sS ht hd;have O4:(dx t c M p n).1=(d,jg t d):=by
  apply Prod.ext
  ·refine Qw (by show (dx t c M p n).1.1.length=d.length;omega) (pY n).1 hd (fun k hk=> ?_);have :=afw (13*t+k) (by omega);unfold G6 at this;rw[if_pos (by omega),if_pos (by omega),Nat.add_sub_cancel_left] at this;exact this
  ·refine Qw (by show _=(jg t d).length;omega) (pY n).2 (Bb ht hd) (fun k hk=> ?_);by_cases h:k<13*t
   ·have :=afw k (by omega);unfold G6 at this;rw[if_neg (by omega),if_neg (by omega)] at this;exact this
   ·rw[alz n k (by omega)];exact (uK ht hd (by omega)).symm
 have alf:dx t c M p n=((d,jg t d),E.length):=Prod.ext O4 afp;unfold rW;rw[←hp,←hs,←hM,←hc,hl,←hn,alf,if_neg (by omega),if_neg (fun h=>h (by show E.length+1=M;omega)),if_neg];show ¬0<rM (iV (iB t (d,jg t d)));rw[JF ht hd];unfold iV;rw[List.map_replicate,show nz 0=0 from rfl,BI];decide
--END
open Go.Sl Go.RowKit Tryz List Nat
theorem Jj:∀ {l m:List Nat},l.Nodup→(∀x∈l,x∈m)→l.length≤m.length
 | [],m,_,_=>zero_le _
 | a::l,m,hn,hs=>by
  have nk:=nodup_cons.1 hn;have ha:=hs a (.head _);have h1:=Jj (l:=l) (m:=m.erase a) nk.2 (fun x hx=>(mem_erase_of_ne (fun h:x=a=>nk.1 (by rw[←h];exact hx))).2 (hs x (.tail _ hx)));rw[length_erase_of_mem ha] at h1;have h2:0<m.length:=length_pos_of_mem ha;rw[length_cons];omega
theorem QO(ys:List Int)(i:Nat):(gX ys).getD i 0=(ys.getD i 0).toNat:=by grind [gX,getD]
theorem OI(ys:List Int){i:Int}(hi:0≤i):gX (JL ys i)=lM (gX ys) i.toNat:=by
 unfold JL lM;rw[QO];unfold gX FW;rw[map_set,Int.toNat_natCast,show (i/8).toNat=i.toNat/8 by omega,show (i%8).toNat=i.toNat%8 by omega]
def iT(xs ks:List Nat):List Nat:=ks.foldl lM xs
theorem xS:∀(l xs:List Int),(∀i∈l,0≤i)→gX (turn xs l)=iT (gX xs) (gX l)
 | [],_,_=>rfl
 | i::l,xs,h=>by
  rw[turn,foldl_cons,←turn,xS l _ (fun j hj=>h j (.tail _ hj)),OI _ (h i (.head _))];rfl
theorem xI:∀(ks xs:List Nat),(iT xs ks).length=xs.length
 | [],_=>rfl
 | k::ks,xs=>by
  show (iT (lM xs k) ks).length=_;rw[xI ks,gQ]
theorem tF:∀(ks xs:List Nat),aB 256 xs→aB 256 (iT xs ks)
 | [],_,h=>h
 | k::ks,xs,h=>tF ks _ (mK h k)
theorem FZ:∀(ks xs:List Nat),ks.Nodup→(∀k∈ks,k<8*xs.length)→∀k,bE (iT xs ks) k=(bE xs k ^^ decide (k∈ks))
 | [],xs,_,_,k=>by simp[iT]
 | i::ks,xs,hn,hk,k=>by
  have nk:=nodup_cons.1 hn;show bE (iT (lM xs i) ks) k=_;rw[FZ ks _ nk.2 (fun j hj=>by rw[gQ];exact hk j (.tail _ hj)),vR (hk i (.head _)),Bool.xor_assoc];congr 1;by_cases h:k=i
  ·subst h;simp[nk.1]
  ·rw[decide_eq_false (show ¬i=k from fun e=>h e.symm),Bool.false_xor];apply decide_eq_decide.2;rw[mem_cons];exact⟨.inr,fun e=>e.resolve_left h⟩
theorem wo:∀(ks xs:List Nat) (p:Nat),(∀k∈ks,k/8≠p)→(iT xs ks).getD p 0=xs.getD p 0
 | [],_,_,_=>rfl
 | i::ks,xs,p,h=>by
  show (iT (lM xs i) ks).getD p 0=_;rw[wo ks _ p (fun k hk=>h k (.tail _ hk))];unfold lM;rw[yH,if_neg (fun hh=>h i (.head _) hh.1)]
theorem yY(xs:List Nat)(a B k:Nat)(hk:k<8*B):bE ((xs.drop a).take B) k=bE xs (8*a+k):=by unfold bE;grind
section
variable{t B S:Nat}{d:List Nat}
def plc(t B n j e:Nat):Nat:=if 13*t≤e then 8*(j*n)+(e-13*t) else 8*(j*n+B)+e
def Oo(t B n:Nat)(ks:List Nat)(j:Nat):List Nat:=(List.range (13*t+8*B)).filter fun e=>decide (plc t B n j e∈ks)
theorem IW(t B n:Nat)(ks:List Nat)(j:Nat):(Oo t B n ks j).Nodup:=Pairwise.filter _ nodup_range
theorem Py{n j:Nat}{ks:List Nat}(hn:n=B+aM t):(Oo t B n ks j).length≤(ks.filter fun k=>decide (k/8/n=j)).length:=by
 have hm8:13*t≤8*aM t:=by unfold aM;omega
 have aon:∀a b,a<13*t+8*B→b<13*t+8*B→plc t B n j a=plc t B n j b→a=b:=fun a b ha hb h=>by
  unfold plc at h;split at h<;>split at h<;>omega
 have h1:=Jj (l:=(Oo t B n ks j).map (plc t B n j)) (m:=ks.filter fun k=>decide (k/8/n=j)) (by
  unfold Nodup;rw[pairwise_map];refine Pairwise.imp_of_mem ?_ (IW t B n ks j);intro a b ha hb hab h;exact hab (aon a b (mem_range.1 (mem_filter.1 ha).1) (mem_range.1 (mem_filter.1 hb).1) h)) (fun x hx=>by
  obtain⟨e,he,rfl⟩:=mem_map.1 hx;obtain⟨h2,h3⟩:=mem_filter.1 he;have h2:=mem_range.1 h2;refine mem_filter.2 ⟨of_decide_eq_true h3,decide_eq_true ?_⟩;have hB:plc t B n j e/8<(j+1)*n∧j*n≤plc t B n j e/8:=by
   rw[succ_mul];unfold plc;split<;>omega
  exact Nat.div_eq_of_lt_le hB.2 hB.1)
 rwa [length_map] at h1
theorem F6:∀(k j:Nat) (acc:List Nat) (m0:Nat) (c:Nat→Nat),m0≤t→(∀i,c i≤t)→∃N,N≤t∧m0≤N∧(∀i,j≤i→i<j+k→c i≤N)∧jT ((range' j k).map fun i=>some ((gH B d i,jg t (gH B d i)),c i)) acc m0=⟨0,acc++(d.drop (j*B)).take (k*B),N⟩
 | 0,j,acc,m0,c,h0,h=>⟨m0,h0,Nat.le_refl _,fun i h1 h2=>by omega,by simp[jT]⟩
 | k+1,j,acc,m0,c,h0,h=>by
  obtain⟨N,hN,hN0,hN2,h1⟩:=F6 k (j+1) (acc++gH B d j) (max m0 (c j)) c (by have :=h j;omega) h;refine⟨N,hN,by omega,fun i h3 h4=> ?_, ?_⟩
  ·by_cases Xj:i=j
   ·subst Xj;omega
   ·exact hN2 i ay ay
  rw[range'_succ,map_cons,jT,h1];congr 1;rw[append_assoc];congr 1;unfold gH;rw[show (k+1)*B=B+k*B by rw[succ_mul,Nat.add_comm],take_add,drop_drop,succ_mul]
theorem T9(ht:1≤t∧t≤8)(hB:B≤512)(h8:aB 256 d)(hl:d.length=S*B){ks:List Nat}(hk:ks.Nodup)(rR:∀k∈ks,k<8*(S*(B+aM t)))(hc:∀j,(ks.filter fun k=>decide (k/8/(B+aM t)=j)).length≤t) :
 ∃ N,N≤t∧(∀j,j<S→(Oo t B (B+aM t) ks j).length≤N)∧fB t S B (iT (nU t S B d) ks)=⟨0,d,N⟩:=by
 obtain⟨n,hn⟩:∃n,n=B+aM t:=⟨_,rfl⟩;rw[←hn] at rR hc ⊢;obtain⟨P,hP⟩:∃P,P=nU t S B d:=⟨_,rfl⟩;have hPl:P.length=S*n+1:=by rw[hP,vU ht h8 hl,hn];rfl
 have hP8:aB 256 P:=by rw[hP];exact FL ht h8
 have dJ:gL t S n P=0:=by rw[hP,hn];exact Fv ht h8 hl
 have hz:P.getD (S*n) 0=0:=by
  unfold gL at dJ;split at dJ
  ·assumption
  ·split at dJ
   ·cases dJ
   ·split at dJ<;>cases dJ
 have Cg:gL t S n (iT P ks)=0:=by
  unfold gL;rw[if_pos];rw[wo ks P (S*n) (fun k hk=>by have :=rR k hk;omega)];exact hz
 have oJ:∀k∈ks,k<8*P.length:=fun k hk=>by have :=rR k hk;omega
 have OZ:=FZ ks P hk oJ;have ahy:∀j,j<S→BG t B n (iT P ks) j=some ((gH B d j,jg t (gH B d j)),(Oo t B n ks j).length):=fun j hj=>by
  have e1:CG B n P j=gH B d j:=by rw[hP,hn];exact (yB ht h8 hl hj).1
  have e2:RI B n P j=jg t (gH B d j):=by rw[hP,hn];exact (yB ht h8 hl hj).2
  have rQ:=sJ hl hj;have Gy:(j+1)*n≤S*n:=mul_le_mul_right _ hj;rw[succ_mul] at Gy;have hfl:=xI ks P;unfold BG;refine Xu ht (jr h8 j) ay (aB.take (aB.drop (tF ks P hP8))) (aB.take (aB.drop (aB.drop (tF ks P hP8)))) ?_ ?_ (IW t B n ks j) (fun e he=> ?_) ?_ (fun i hi=> ?_)
  ·show ((_:List Nat).take B).length=_;rw[length_take,length_drop];omega
  ·show ((_:List Nat).take (n-B)).length=_;rw[length_take,length_drop,length_drop];omega
  ·have :=mem_range.1 (mem_filter.1 he).1;omega
  ·exact Nat.le_trans (Py hn) (hc j)
  ·have wD:decide (i∈Oo t B n ks j)=decide (plc t B n j i∈ks):=by
    apply decide_eq_decide.2;unfold Oo;rw[mem_filter,mem_range];exact⟨fun h=>of_decide_eq_true h.2,fun h=>⟨by omega,decide_eq_true h⟩⟩
   rw[wD];unfold G6 plc;by_cases h:13*t≤i
   ·rw[if_pos h,if_pos h,if_pos h,←e1];unfold CG;rw[yY _ _ _ _ ay,yY _ _ _ _ ay,OZ]
   ·have hm8:13*t≤8*aM t:=by unfold aM;omega
    rw[if_neg h,if_neg h,if_neg h,←e2];unfold RI;rw[drop_drop,drop_drop,yY _ _ _ _ ay,yY _ _ _ _ ay,OZ]
 obtain⟨N,hN,_,hN2,h1⟩:=F6 (t:=t) (B:=B) (d:=d) S 0 [] 0 (fun j=>(Oo t B n ks j).length) (zero_le _) (fun j=>Nat.le_trans (Py hn) (hc j));refine⟨N,hN,fun j hj=>hN2 j (zero_le _) ay, ?_⟩;rw[←hP];unfold fB;rw[←hn,if_neg (fun h=>h Cg)];have h2:(List.range S).map (BG t B n (iT P ks))=(range' 0 S).map fun i=>some ((gH B d i,jg t (gH B d i)),(Oo t B n ks i).length):=by
  rw[←range_eq_range'];apply map_congr_left;intro j hj;exact ahy j (mem_range.1 hj)
 rw[h2,h1,Nat.zero_mul,drop_zero,nil_append,←hl,take_length]
theorem Y0(ht:1≤t∧t≤8)(hB:B≤512)(h8:aB 256 d)(hl:d.length=S*B){ks:List Nat}(hk:ks.Nodup)(rR:∀k∈ks,k<8*(S*(B+aM t)))(hc:∀j,(ks.filter fun k=>decide (k/8/(B+aM t)=j)).length≤t) :
 ∃ N,N≤t∧fB t S B (iT (nU t S B d) ks)=⟨0,d,N⟩:=by
 obtain⟨N,h1,_,h2⟩:=T9 ht hB h8 hl hk rR hc;exact⟨N,h1,h2⟩
end
def bL.gH(g:bL):Nat:=g.sb.toNat+aM g.fl.toNat
namespace aD
def Zd(S:aD)(k:Int×Int):Prop:=∀w,S.bK k=some w→(gX w).Nodup∧(∀x∈w,0≤x∧x<(8*S.g.gH:Nat))∧w.length≤S.g.fl.toNat
theorem Rx{g:bL}(hg:g.aU):g.raw=((g.se.toNat*g.gH+1:Nat):Int):=bL.vw hg
theorem QH{S:aD}{b p:Int}(hw:S.Zd (b,p)):∃ks:List Nat,ks.Nodup∧(∀k∈ks,k<8*S.g.gH)∧ks.length≤S.g.fl.toNat∧(S.bK (b,p)=none→ks=[]) ∧
 ∀ xs,S.aW (b,p)=some (bF xs)→S.jH b p=iT xs ks:=by
 cases Xa:S.bK (b,p) with
 | none=>exact⟨[],nodup_nil,fun k hk=>(by cases hk),zero_le _,fun _=>rfl,fun xs hp=>Lb hp Xa⟩
 | some w =>
  obtain⟨h1,h2,h3⟩:=hw w Xa;refine⟨gX w,h1,fun k hk=> ?_,by rw[jO];exact h3,fun h=>(by cases h),fun xs hp=> ?_⟩
  ·obtain⟨x,hx,rfl⟩:=mem_map.1 hk;have :=h2 x hx;omega
  ·unfold jH reads;rw[hp,Xa];show gX (turn (bF xs) w)=_;rw[xS _ _ (fun i hi=>(h2 i hi).1),om]
theorem LX{S:aD}{b p:Int}{d:List Nat}(hg:S.g.aU)(hu:S.up=true)(h:0≤b∧b<S.g.bl∧0≤p∧p<S.g.pg)(hm:S.marked b=false)(h8:aB 256 d)(hl:d.length=S.room)
 (hp:S.aW (b,p)=some (bF (fF S.g d))) (hw:S.Zd (b,p)):∃N:Nat,(S.bK (b,p)=none→N=0)∧S.bX b p=⟨0,d,N⟩∧S.pV b p=0:=by
 have hN:=wZ.of (bl:=S.g.bl) (pg:=S.g.pg) (by rw[←kS hg];exact hg);obtain⟨yR,Hr,ht1⟩:=hN;obtain⟨ks,k1,k2,k3,k4,k5⟩:=QH hw;have hr:=k5 _ hp;have hse:8*S.g.gH≤8*(S.g.se.toNat*S.g.gH):=mul_le_mul_left _ (Nat.le_mul_of_pos_left _ ay);obtain⟨N,hN1,hN2⟩:=Y0 (t:=S.g.fl.toNat) (B:=S.g.sb.toNat) (S:=S.g.se.toNat) (d:=d) ht1 ay h8 hl k1 (fun k hk=>Nat.lt_of_lt_of_le (k2 k hk) hse) (fun j=>by
  refine Nat.le_trans (length_filter_le _ _) k3)
 have W9:fB S.g.fl.toNat S.g.se.toNat S.g.sb.toNat (S.jH b p)=⟨0,d,N⟩:=by rw[hr];exact hN2
 have anR:S.ahead b p true=0:=yD hu h hm;have Gd:S.bX b p=⟨0,d,N⟩:=by
  unfold bX;rw[if_neg (by rw[anR];decide),W9];rfl
 refine⟨N,fun hn=> ?_,Gd, ?_⟩
 ·have h1:=TY hg hu h hm h8 hl hp hn;rw[Gd] at h1;injection h1
 ·unfold pV;rcases eq_zero_or_pos (gL S.g.fl.toNat S.g.se.toNat (S.g.sb.toNat+aM S.g.fl.toNat) (S.jH b p)) with h1 | h1
  ·exact h1
  ·unfold fB at W9;rw[if_pos ay] at W9;injection W9
def Bw(S:aD)(k:Int×Int):Prop:=∀xs,S.aW k=some xs→∃ys,xs=bF ys∧ys.getD (S.g.se.toNat*S.g.gH) 0=255
theorem JC{S:aD}{b p:Int}(hg:S.g.aU)(ht:S.Bw (b,p))(hw:S.Zd (b,p)):S.pV b p≠0:=by
 have hN:=wZ.of (bl:=S.g.bl) (pg:=S.g.pg) (by rw[←kS hg];exact hg);obtain⟨yR,Hr,ht1⟩:=hN;have key:∀(ys ks:List Nat),ys.getD (S.g.se.toNat*S.g.gH) 0=255→(∀k∈ks,k<8*S.g.gH)→gL S.g.fl.toNat S.g.se.toNat (S.g.sb.toNat+aM S.g.fl.toNat) (iT ys ks)≠0:=fun ys ks hy hk=>by
  have h1:(iT ys ks).getD (S.g.se.toNat*(S.g.sb.toNat+aM S.g.fl.toNat)) 0=255:=by
   rw[wo ks ys _ (fun k yS=> ?_)]
   ·exact hy
   ·have h2:=hk k yS;have h3:S.g.gH≤S.g.se.toNat*S.g.gH:=Nat.le_mul_of_pos_left _ ay;have h4:S.g.se.toNat*(S.g.sb.toNat+aM S.g.fl.toNat)=S.g.se.toNat*S.g.gH:=rfl;omega
  rcases YZ (t:=S.g.fl.toNat) h1 with h | h<;>rw[h]<;>decide
 cases hp:S.aW (b,p) with
 | some xs =>
  obtain⟨ys,rfl,hy⟩:=ht xs hp;obtain⟨ks,k1,k2,k3,k4,k5⟩:=QH hw;unfold pV;rw[k5 ys hp];exact key ys ks hy k2
 | none =>
  have hb:S.reads b p=turn (replicate S.g.raw.toNat 255) ((S.bK (b,p)).getD []):=by
   unfold reads;rw[hp];rfl
  unfold pV jH;have h0:∀i∈(S.bK (b,p)).getD [],0≤i∧i<(8*S.g.gH:Nat):=fun i hi=>by
   cases Xa:S.bK (b,p) with
   | none=>rw[Xa] at hi;cases hi
   | some w=>rw[Xa] at hi;exact (hw w Xa).2.1 i hi
  rw[hb,xS _ _ (fun i hi=>(h0 i hi).1)];refine key _ _ ?_ (fun k hk=> ?_)
  ·unfold gX;rw[map_replicate,Rx hg,Int.toNat_natCast];simp[getD,getElem?_replicate]
  ·obtain⟨x,hx,rfl⟩:=mem_map.1 hk;have :=h0 x hx;omega
theorem Vi{S:aD}{b p:Int}(hg:S.g.aU)(ht:S.Bw (b,p))(hw:S.Zd (b,p)):(S.bX b p).err≠0:=by
 have h1:=JC hg ht hw;unfold pV at h1;unfold bX;split
 ·rename_i h;exact h
 ·show ((fB _ _ _ _).err:Int)≠0;unfold fB;rw[if_pos h1];show ((gL _ _ _ _:Nat):Int)≠0;omega
end aD
def Dj(g:bL)(h:Hd)(d:List Nat):Nat→List Nat
 | 0=>[]
 | k+1=>Dj g h d k++qy g h d (k+1)
theorem I4{g:bL}{h:Hd}{d:List Nat}(hg:g.aU):∀k,(Dj g h d k).length=k*g.room.toNat∧(Dj g h d k).take d.length=d.take (k*g.room.toNat)
 | 0=>⟨by simp[Dj],by simp[Dj]⟩
 | k+1=>by
  obtain⟨h1,h2⟩:=I4 (h:=h) (d:=d) hg k;obtain⟨R,hR⟩:∃R,R=g.room.toNat:=⟨_,rfl⟩;have hl:=sD (h:=h) (d:=d) hg (k+1);rw[←hR] at h1 h2 hl ⊢;rw[Dj];refine⟨by rw[length_append,h1,hl,succ_mul], ?_⟩;by_cases hk:d.length≤k*R
  ·rw[take_append_of_le_length ay,h2,take_of_length_le hk,take_of_length_le (by rw[succ_mul];omega)]
  ·have e1:Dj g h d k=d.take (k*R):=by rw[←h2,take_of_length_le ay]
   rw[take_append,h1,take_of_length_le (l:=Dj g h d k) ay,e1,succ_mul];have e2:(qy g h d (k+1)).take (d.length-k*R)=(d.drop (k*R)).take R:=by
    show ((d.drop (k*g.room.toNat)).take g.room.toNat++replicate (g.room.toNat-((d.drop (k*g.room.toNat)).take g.room.toNat).length) 0).take (d.length-k*R)=_;rw[←hR];by_cases hr:R≤d.length-k*R
    ·have e3:((d.drop (k*R)).take R).length=R:=by rw[length_take,length_drop];omega
     rw[e3,Nat.sub_self,replicate_zero,append_nil,take_of_length_le ay]
    ·have e3:((d.drop (k*R)).take R).length=d.length-k*R:=by rw[length_take,length_drop];omega
     rw[take_append_of_le_length ay,take_of_length_le ay]
   rw[e2,←take_add]
namespace aD
variable{S:aD}{b:Int}{h:Hd}{d:List Nat}
def wm(S:aD)(h:Hd):Nat:=(S.g.bO h.len).toNat
structure yP(S:aD)(b:Int)(h:Hd)(d:List Nat):Prop where
 may:h.may S.g=true
 len:h.len=(d.length:Nat)
 small:aB 256 d
 pG:∀p,p≤S.wm h→S.aW (b,(p:Int))=some (bF (fF S.g (qy S.g h d p)))
structure Part(S:aD)(b:Int)(h:Hd):Prop where
 may:h.may S.g=true
 pG:S.aW (b,0)=some (bF (fF S.g (jX S.g h)))
 ani:∃p:Nat,p≤S.wm h∧S.Bw (b,(p:Int))
theorem xG:∀k,S.kW b k=true↔∀j:Nat,j<k→S.pV b (j:Int)=0
 | 0=>by simp[kW]
 | k+1=>by
  rw[kW,Bool.and_eq_true,xG k,decide_eq_true_eq];constructor
  ·rintro⟨h1,h2⟩ j hj;rcases Nat.lt_or_ge j k with h | h
   ·exact h1 j h
   ·rw[show j=k by omega];exact h2
  ·intro h;exact⟨fun j hj=>h j ay,h k ay⟩
theorem Ob(hg:S.g.aU)(hm:h.may S.g=true):(S.wm h:Int)=S.g.bO h.len∧(S.wm h:Int)≤S.g.pg-1∧h.len≤(S.wm h:Int)*S.g.room∧0≤h.len:=by
 have J5:=hm;unfold Hd.may at J5;simp only[Bool.and_eq_true,decide_eq_true_eq] at J5;have hf:=J5.1.1.1.1;have h1:=bL.Lu hg hf;unfold bL.fits at hf;simp only[Bool.and_eq_true,decide_eq_true_eq] at hf;unfold wm;rw[Int.toNat_of_nonneg h1.1];exact⟨rfl,h1.2.1,h1.2.2.1,hf.1⟩
theorem Oe(hg:S.g.aU):S.room=S.g.room.toNat:=by
 unfold room;rw[bL.JR hg];rfl
theorem Mv(hg:S.g.aU)(hu:S.up=true)(hb:0≤b∧b<S.g.bl)(hm:S.marked b=false)(Pj:h.may S.g=true):S.ny b (1+S.g.bO h.len)=(S.kW b (1+S.wm h),0):=by
 have h1:=Ob hg Pj;have wS:=hg;unfold bL.aU at wS;have e1:(decide ((0:Int)≤1+S.g.bO h.len)&&decide (1+S.g.bO h.len≤S.g.pg))=true:=by rw[decide_eq_true ay,decide_eq_true ay];rfl
 have e2:S.ahead b 0 true=0:=yD hu ⟨hb.1,hb.2,by omega,by omega⟩ hm;unfold ny;rw[e1,e2,if_neg aK,if_neg (fun h=>h rfl)];rw[show (1+S.g.bO h.len).toNat=1+S.wm h by omega]
theorem X5(hg:S.g.aU)(hf:∀p:Nat,S.Zd (b,(p:Int)))(ht:S.Bw (b,0)):S.ku b=none:=by
 have h1:=Vi hg ht (hf 0);unfold ku;rw[if_pos h1]
section
variable(hg:S.g.aU)(hu:S.up=true)(hb:0≤b∧b<S.g.bl)(hm:S.marked b=false)(hf:∀p:Nat,S.Zd (b,(p:Int)))
include hg hu hb hm hf
theorem GK(hH:S.yP b h d){p:Nat}(hp:p≤S.wm h):∃N:Nat,(S.bK (b,(p:Int))=none→N=0)∧S.bX b p=⟨0,qy S.g h d p,N⟩∧S.pV b p=0:=by
 have h1:=Ob hg hH.may;exact LX hg hu ⟨hb.1,hb.2,by omega,by omega⟩ hm (BH hH.small p) (by rw[sD hg,Oe hg]) (hH.pG p hp) (hf p)
theorem scan_holds(hH:S.yP b h d):S.ku b=some ⟨b,h,true⟩:=by
 obtain⟨N,_,h2,_⟩:=GK hg hu hb hm hf hH (p:=0) (zero_le _);have O9:S.bX b 0=⟨0,jX S.g h,N⟩:=h2;unfold ku;rw[O9,if_neg (fun h=>h rfl)];dsimp only;rw[xK hH.may hg];dsimp only;rw[Mv hg hu hb hm hH.may];have :S.kW b (1+S.wm h)=true:=(xG _).2 fun j hj=>by
  obtain⟨_,_,_,h3⟩:=GK hg hu hb hm hf hH (p:=j) ay;exact h3
 rw[this]
theorem YV(hP:S.Part b h):S.ku b=some ⟨b,h,false⟩:=by
 have wS:=hg;unfold bL.aU at wS;obtain⟨N,_,h2,_⟩:=LX hg hu ⟨hb.1,hb.2,Int.le_refl _,by omega⟩ hm (yu S.g h) (by rw[qz hg,Oe hg]) hP.pG (hf 0);unfold ku;rw[h2,if_neg (fun h=>h rfl)];dsimp only;rw[xK hP.may hg];dsimp only;rw[Mv hg hu hb hm hP.may];have :S.kW b (1+S.wm h)=false:=by
  rw[←Bool.not_eq_true];intro hw;obtain⟨p,hp,ht⟩:=hP.ani;exact JC hg ht (hf p) ((xG _).1 hw p ay)
 rw[this]
theorem rd_holds(hH:S.yP b h d)(n0:Nat):∀k,k≤S.wm h→∃N:Nat,((∀p:Nat,S.bK (b,(p:Int))=none)→n0=0→N=0)∧iC S b n0 k=⟨0,Dj S.g h d k,N⟩
 | 0,_=>⟨n0,fun _ h=>h,rfl⟩
 | k+1,hk=>by
  obtain⟨N,h1,h2⟩:=rd_holds hH n0 k ay;obtain⟨M,h3,h4,_⟩:=GK hg hu hb hm hf hH (p:=k+1) hk;have h5:S.bX b (1+(k:Int))=⟨0,qy S.g h d (k+1),M⟩:=by rw[show 1+(k:Int)=((k+1:Nat):Int) by omega];exact h4
  refine⟨max N M,fun hw hn=> ?_, ?_⟩
  ·have e1:=h1 hw hn;have e2:=h3 (hw (k+1));omega
  ·rw[iC,h2,if_neg (fun h=>h rfl),h5,if_neg (fun h=>h rfl)];rfl
end
end aD
theorem read_holds{S:aD}{T:St}{aV b:Int}{h:Hd}{d:List Nat}(hg:S.g.aU)(hu:S.up=true)(hb:0≤b∧b<S.g.bl)(hm:S.marked b=false)(hf:∀p:Nat,S.Zd (b,(p:Int)))
 (hr:T.ready aV=0) (ha:T.ng aV=b) (hH:S.yP b h d):∃N:Nat,((∀p:Nat,S.bK (b,(p:Int))=none)→N=0)∧eG S T aV=(⟨0,d,N⟩,T):=by
 obtain⟨N0,h1,h2,_⟩:=aD.GK hg hu hb hm hf hH (p:=0) (zero_le _);have O9:S.bX b 0=⟨0,jX S.g h,N0⟩:=h2;obtain⟨N,h3,h4⟩:=aD.rd_holds hg hu hb hm hf hH N0 (S.wm h) (Nat.le_refl _);have hpb:=aD.Ob hg hH.may;refine⟨N,fun hw=>h3 hw (h1 (hw 0)), ?_⟩;have hpp:jA S.g (jX S.g h)=some h:=xK hH.may hg;have e1:iX S.g (jX S.g h)=0:=by unfold iX;rw[hpp]
 have e2:gT S.g (jX S.g h)=h:=by unfold gT;rw[hpp];rfl
 unfold eG;rw[hr,if_neg (fun h=>h rfl),ha,if_neg ay,O9,if_neg (fun h=>h rfl)];dsimp only;rw[e1,if_neg (fun h=>h rfl),e2];rw[show (S.g.bO h.len).toNat=S.wm h from rfl,h4,if_neg (fun h=>h rfl)];dsimp only;have h6:=(I4 (h:=h) (d:=d) hg (S.wm h)).2;rw[hH.len,Int.toNat_natCast,h6,take_of_length_le];have hr:=bL.jW hg;have h7:((S.wm h*S.g.room.toNat:Nat):Int)=(S.wm h:Int)*S.g.room:=by rw[Int.natCast_mul];congr 1;omega
 have h8:=hpb.2.2.1;rw[hH.len,←h7] at h8;omega
theorem ahq:(72:Int)≠70:=by decide
theorem Bj:(70:Int)≠72:=by decide
theorem E5:(0:Int)≠72:=by decide
theorem Lx:(0:Int)≠70:=by decide
namespace aD
structure Rest(b:Int)(S S':aD):Prop where
 g:S'.g=S.g
 len:S'.next.length=S.next.length
 aW:∀k:Int×Int,k.1≠b→S'.aW k=S.aW k
 bK:∀k:Int×Int,k.1≠b→S'.bK k=S.bK k
 marked:∀c,c≠b→S'.marked c=S.marked c
 fH:S'.fH=S.fH
theorem Rest.refl(b:Int)(S:aD):Rest b S S:=⟨rfl,rfl,fun _ _=>rfl,fun _ _=>rfl,fun _ _=>rfl,rfl⟩
theorem Rest.trans{b:Int}{S T U:aD}(h:Rest b S T)(h':Rest b T U):Rest b S U :=
 ⟨h'.g.trans h.g,h'.len.trans h.len,fun k hk=>(h'.aW k hk).trans (h.aW k hk),fun k hk=>(h'.bK k hk).trans (h.bK k hk),fun c hc=>(h'.marked c hc).trans (h.marked c hc),h'.fH.trans h.fH⟩
def mk1(S:aD)(b:Int):aD:= { S with marked:=fun k=>if k=b then true else S.marked k }
theorem GU{S:aD}(hc:S.cut=false):S.aZ.up=S.up:=by unfold aZ;rw[hc];cases S.up<;>rfl
theorem zM{S:aD}(hc:S.cut=true):S.aZ.up=false:=by unfold aZ;rw[hc];cases S.up<;>rfl
theorem DF{S:aD}(h:S.left=0):S.cut=false:=by unfold cut;rw[h];rfl
theorem aat{S:aD}{b:Int}(hu:S.up=true)(hb:0≤b∧b<S.g.bl) :
 (S.cut=false∧done b (S,72)=(S.aZ.mk1 b,72))∨(S.cut=true∧(done b (S,72)=(S.aZ.mk1 b,70)∨done b (S,72)=(S.aZ,70))):=by
 have e1:S.mark b=S.all fun T=> { T with marked:=fun k=>if k=b then true else T.marked k }:=by
  unfold mark;rw[if_neg (by rw[hu];decide),if_neg (by rw[CS hb];decide)]
 have e2:done b (S,72)=if (S.mark b).2≠0 then S.mark b else ((S.mark b).1,72):=by
  unfold done;rw[if_neg (fun h=>h rfl)]
 rw[e2,e1];unfold all after;cases hc:S.cut with
 | false=>exact .inl ⟨rfl,rfl⟩
 | true =>
  refine .inr ⟨rfl, ?_⟩;by_cases hk:0<S.lI
  ·rw[decide_eq_true hk];exact .inl rfl
  ·rw[decide_eq_false hk];exact .inr rfl
section
variable{S:aD}{b:Int}
theorem Rest.aZ(S:aD)(b:Int):Rest b S S.aZ:=⟨rfl,rfl,fun _ _=>rfl,fun _ _=>rfl,fun _ _=>rfl,rfl⟩
theorem Rest.mk1(S:aD)(b:Int):Rest b S (S.mk1 b):=⟨rfl,rfl,fun _ _=>rfl,fun _ _=>rfl,fun c hc=>if_neg hc,rfl⟩
theorem JG:(S.mk1 b).marked b=true:=if_pos rfl
def adg(b:Int)(S:aD)(X:aD×Int):Prop :=
 (X.2=72∧X.1.up=true∧X.1.marked b=true)∨(X.2=70∧X.1.up=false∧(X.1.marked b=true∨X.1.marked b=S.marked b∧X.1.aW=S.aW∧X.1.bK=S.bK))
theorem Qi(hu:S.up=true)(hc:S.cut=false)(hb:0≤b∧b<S.g.bl):Rest b S (done b (S.aZ,72)).1∧adg b S (done b (S.aZ,72))∧(S.left=0→(done b (S.aZ,72)).1.left=0∧(done b (S.aZ,72)).2≠70):=by
 have hu1:S.aZ.up=true:=by rw[GU hc];exact hu
 rcases aat (S:=S.aZ) hu1 hb with ⟨c1,e1⟩ | ⟨c1,e1 | e1⟩
 ·rw[e1];refine⟨(Rest.aZ S b).trans ((Rest.aZ _ b).trans (Rest.mk1 _ b)),.inl ⟨rfl,by show S.aZ.aZ.up=true;rw[GU c1];exact hu1,JG⟩,fun h0=>⟨?_,ahq⟩⟩;show S.aZ.aZ.left=0;rw[qM h0,qM h0];exact h0
 ·rw[e1];refine⟨(Rest.aZ S b).trans ((Rest.aZ _ b).trans (Rest.mk1 _ b)),.inr ⟨rfl,by show S.aZ.aZ.up=false;exact zM c1,.inl JG⟩,fun h0=> ?_⟩;rw[qM h0,DF h0] at c1;cases c1
 ·rw[e1];refine⟨(Rest.aZ S b).trans (Rest.aZ _ b),.inr ⟨rfl,by show S.aZ.aZ.up=false;exact zM c1,.inr ⟨rfl,rfl,rfl⟩⟩,fun h0=> ?_⟩;rw[qM h0,DF h0] at c1;cases c1
theorem Vp(hu:S.up=true)(hb:0≤b∧b<S.g.bl)(GI:0<S.g.pg)(hm:S.marked b=false)(hn:(S.next.length:Int)=S.g.bl):Rest b S (S.cK b).1∧(S.left=0→(S.cK b).1.left=0∧(S.cK b).2≠70)∧(S.fH b=false→(S.cK b).2≠72) ∧
 (((S.cK b).2=0∧(S.cK b).1.up=true∧(S.cK b).1.marked b=false∧(S.cK b).1.nD b=0∧∀p,0≤p→p<S.g.pg→(S.cK b).1.aW (b,p)=none∧(S.cK b).1.bK (b,p)=none) ∨
  adg b S (S.cK b) ∨
  ((S.cK b).2=70∧(S.cK b).1.up=false∧(S.cK b).1.marked b=false∧(∃n,(S.cK b).1.aW=bC S.aW b n∧(S.cK b).1.bK=bC S.bK b n))):=by
 have e0:S.cK b=done b (S.erase b):=by
  unfold cK;rw[if_neg (by rw[yD hu ⟨hb.1,hb.2,Int.le_refl _,GI⟩ hm];decide)]
 have Gd:∀ {α:Type} (f:Int×Int→Option α) (n:Int) (k:Int×Int),k.1≠b→bC f b n k=f k:=fun f n k hk=>if_neg fun h=>hk h.1;cases hc:S.cut with
 | true =>
  have e1:S.erase b=({ S.aZ with aW:=bC S.aW b (S.kept S.g.pg),bK:=bC S.bK b (S.kept S.g.pg) },70):=by
   unfold erase;rw[if_neg (by rw[hu];decide),if_neg (by rw[CS hb];decide),hc];rfl
  have e2:S.cK b=S.erase b:=by
   rw[e0];unfold done;rw[if_pos (by rw[e1];first | exact Bj | exact E5)]
  rw[e2,e1];refine⟨⟨rfl,rfl,fun k hk=>Gd _ _ k hk,fun k hk=>Gd _ _ k hk,fun _ _=>rfl,rfl⟩,fun h0=> ?_,fun _=>Bj,.inr (.inr ⟨rfl,zM hc,hm,_,rfl,rfl⟩)⟩;rw[DF h0] at hc;cases hc
 | false =>
  cases hw:S.fH b with
  | true =>
   have e1:S.erase b=(S.aZ,72):=by
    unfold erase;rw[if_neg (by rw[hu];decide),if_neg (by rw[CS hb];decide),hc,if_neg Bool.false_ne_true,hw,if_pos rfl]
   rw[e0,e1];obtain⟨h1,h2,h3⟩:=Qi hu hc hb;exact⟨h1,h3,fun h=>(by cases h),.inr (.inl h2)⟩
  | false =>
   have e1:S.erase b=({ S.aZ with aW:=bC S.aW b S.g.pg,bK:=bC S.bK b S.g.pg,next:=S.kU b 0 },0):=by
    unfold erase;rw[if_neg (by rw[hu];decide),if_neg (by rw[CS hb];decide),hc,if_neg Bool.false_ne_true,hw,if_neg Bool.false_ne_true];rfl
   have e2:S.cK b=S.erase b:=by
    rw[e0];unfold done;rw[if_pos (by rw[e1];first | exact Bj | exact E5)]
   rw[e2,e1];refine⟨⟨rfl,by show (S.next.set _ _).length=_;rw[length_set],fun k hk=>Gd _ _ k hk,fun k hk=>Gd _ _ k hk,fun _ _=>rfl,rfl⟩,fun h0=>⟨?_,Lx⟩,fun _=>E5,.inl ⟨rfl,by show S.aZ.up=true;rw[GU hc];exact hu,hm, ?_,fun p h1 h2=>⟨if_pos ⟨rfl,h1,h2⟩,if_pos ⟨rfl,h1,h2⟩⟩⟩⟩
   ·show S.aZ.left=0;rw[qM h0];exact h0
   ·show (S.next.set b.toNat 0).getD b.toNat 0=0;simp only[getD,getElem?_set_self (show b.toNat<S.next.length by omega),Option.getD_some]
theorem UG{p:Int}{d:List Nat}(hg:S.g.aU)(hu:S.up=true)(h:0≤b∧b<S.g.bl∧0≤p∧p<S.g.pg)(hm:S.marked b=false)(h8:aB 256 d)(hl:d.length=S.room)(hn:S.nD b=p)(ZQ:(S.next.length:Int)=S.g.bl) :
 Rest b S (S.dL b p d).1∧(S.left=0→(S.dL b p d).1.left=0∧(S.dL b p d).2≠70)∧(S.fH b=false→(S.dL b p d).2≠72) ∧
 (((
  S.dL b p d).2=0∧(S.dL b p d).1.up=true∧(S.dL b p d).1.marked b=false∧(S.dL b p d).1.nD b=p+1∧(S.dL b p d).1.bK=S.bK∧(S.dL b p d).1.aW=DN S.aW (b,p) (some (bF (fF S.g d)))) ∨
  adg b S (S.dL b p d) ∨
  ((
   S.dL b p d).2=70∧(S.dL b p d).1.up=false∧(S.dL b p d).1.marked b=false∧(S.dL b p d).1.bK=S.bK∧∃xs,(S.dL b p d).1.aW=DN S.aW (b,p) (some xs) ∧
   (xs=bF (fF S.g d)∨∃ys,xs=bF ys∧ys.getD (S.g.se.toNat*S.g.gH) 0=255))):=by
 have e0:S.dL b p d=done b (S.program b p (bF (fF S.g d))):=Rb hu h hm hl;have nu:=abP hg h8 hl;have nP:∀ {α:Type} (f:Int×Int→Option α) (v:Option α) (k:Int×Int),k.1≠b→DN f (b,p) v k=f k:=fun f v k hk=>if_neg fun e=>hk (by rw[e]);cases hc:S.cut with
 | true =>
  have e1:S.program b p (bF (fF S.g d))=({ S.aZ with aW:=DN S.aW (b,p) (some ((bF (fF S.g d)).take (S.kept (bF (fF S.g d)).length).toNat++S.blank.drop (S.kept (bF (fF S.g d)).length).toNat)),next:=S.kU b (p+1) },70):=by
   unfold program;rw[if_neg (by rw[hu];decide),if_neg (by rw[Ns h];rintro (h | h);cases h;exact h nu),if_neg (fun h=>h hn.symm),hc];rfl
  have e2:S.dL b p d=S.program b p (bF (fF S.g d)):=by
   rw[e0];unfold done;rw[if_pos (by rw[e1];first | exact Bj | exact E5)]
  rw[e2,e1];refine⟨⟨rfl,by show (S.next.set _ _).length=_;rw[length_set],fun k hk=>nP _ _ k hk,fun k hk=>rfl,fun _ _=>rfl,rfl⟩,fun h0=> ?_,fun _=>Bj,.inr (.inr ⟨rfl,zM hc,hm,rfl,_,rfl, ?_⟩)⟩
  ·rw[DF h0] at hc;cases hc
  ·obtain⟨k,hk⟩:∃k,k=(S.kept (bF (fF S.g d)).length).toNat:=⟨_,rfl⟩;rw[←hk];have wR:k≤(bF (fF S.g d)).length:=by rw[hk];unfold kept;omega
   have BQ:S.blank=bF (replicate S.g.raw.toNat 255):=by unfold blank bF raw;rw[map_replicate];rfl
   have hrw:=Rx hg;have K5:(bF (fF S.g d)).length=S.g.se.toNat*S.g.gH+1:=by
    have h1:((bF (fF S.g d)).length:Int)=S.g.raw:=nu;omega
   by_cases Zp:k=(bF (fF S.g d)).length
   ·refine .inl ?_;rw[Zp,take_of_length_le (Nat.le_refl _),BQ,drop_eq_nil_of_le,append_nil];unfold bF;rw[length_map,length_replicate];unfold bF at K5;rw[K5,hrw,Int.toNat_natCast];exact Nat.le_refl _
   ·refine .inr ⟨(fF S.g d).take k++(replicate S.g.raw.toNat 255).drop k, ?_, ?_⟩
    ·rw[BQ];unfold bF;rw[map_append,map_take,map_drop]
    ·have hpk:(fF S.g d).length=S.g.se.toNat*S.g.gH+1:=by unfold bF at K5;rw[length_map] at K5;exact K5
     have arD:k<S.g.se.toNat*S.g.gH+1:=by
      unfold bF at wR Zp;rw[length_map] at wR Zp;omega
     simp only[getD];rw[getElem?_append_right (by rw[length_take];omega),length_take,getElem?_drop,hrw,Int.toNat_natCast,getElem?_replicate,if_pos ay];rfl
 | false =>
  cases hw:S.fH b with
  | true =>
   have e1:S.program b p (bF (fF S.g d))=(S.aZ,72):=by
    unfold program;rw[if_neg (by rw[hu];decide),if_neg (by rw[Ns h];rintro (h | h);cases h;exact h nu),if_neg (fun h=>h hn.symm),hc,if_neg Bool.false_ne_true,hw,if_pos rfl]
   rw[e0,e1];obtain⟨h1,h2,h3⟩:=Qi hu hc ⟨h.1,h.2.1⟩;exact⟨h1,h3,fun h=>(by cases h),.inr (.inl h2)⟩
  | false =>
   have e1:S.program b p (bF (fF S.g d))=({ S.aZ with aW:=DN S.aW (b,p) (some (bF (fF S.g d))),next:=S.kU b (p+1) },0):=by
    unfold program;rw[if_neg (by rw[hu];decide),if_neg (by rw[Ns h];rintro (h | h);cases h;exact h nu),if_neg (fun h=>h hn.symm),hc,if_neg Bool.false_ne_true,hw,if_neg Bool.false_ne_true];rfl
   have e2:S.dL b p d=S.program b p (bF (fF S.g d)):=by
    rw[e0];unfold done;rw[if_pos (by rw[e1];first | exact Bj | exact E5)]
   rw[e2,e1];refine⟨⟨rfl,by show (S.next.set _ _).length=_;rw[length_set],fun k hk=>nP _ _ k hk,fun k hk=>rfl,fun _ _=>rfl,rfl⟩,fun h0=>⟨?_,Lx⟩,fun _=>E5,.inl ⟨rfl,by show S.aZ.up=true;rw[GU hc];exact hu,hm, ?_,rfl,rfl⟩⟩
   ·show S.aZ.left=0;rw[qM h0];exact h0
   ·show (S.next.set b.toNat (p+1)).getD b.toNat 0=p+1;simp only[getD,getElem?_set_self (show b.toNat<S.next.length by omega),Option.getD_some]
end
end aD
namespace aD
def Wr(S S':aD):Prop:=∀k,S'.bK k=none∨S'.bK k=S.bK k
theorem Wr.refl(S:aD):Wr S S:=fun _=> .inr rfl
theorem Wr.of{S S':aD}(h:S'.bK=S.bK):Wr S S':=fun k=> .inr (by rw[h])
theorem Wr.trans{S T U:aD}(h:Wr S T)(h':Wr T U):Wr S U:=fun k=>by
 rcases h' k with e | e
 ·exact .inl e
 ·rw[e];exact h k
theorem Wr.few{S S':aD}(h:Wr S S')(hg:S'.g=S.g)(hf:∀k,S.Zd k):∀k,S'.Zd k:=fun k w hw=>by
 rcases h k with e | e
 ·rw[e] at hw;cases hw
 ·rw[e] at hw;have :=hf k w hw;rw[hg];exact this
theorem Wr.none{S S':aD}(h:Wr S S')(hf:∀k,S.bK k=none):∀k,S'.bK k=none:=fun k=>by
 rcases h k with e | e
 ·exact e
 ·rw[e];exact hf k
theorem Wr.drop{S S':aD}{b n:Int}(h:S'.bK=bC S.bK b n):Wr S S':=fun k=>by
 rw[h];unfold bC;split
 ·exact .inl rfl
 ·exact .inr rfl
def Vt(b:Int)(S S':aD):Prop:=S'.aW=S.aW∧S'.bK=S.bK
def ag6(S:aD)(b:Int)(pg:Nat→List Nat)(N j:Nat):Prop:=j≤N+1∧(∀p:Nat,p<j→S.aW (b,(p:Int))=some (bF (fF S.g (pg p))))∧(j≤N→S.Bw (b,(j:Int)))
theorem EM{S:aD}{k:Int×Int}(h:S.aW k=none):S.Bw k:=fun xs hx=>by rw[h] at hx;cases hx
theorem Rh{S:aD}{b:Int}:Wr S (S.cK b).1:=by
 have e1:∀x:aD×Int,Wr S x.1→Wr S (done b x).1:=fun x hx=>by
  have hm:(x.1.mark b).1.bK=x.1.bK:=by
   unfold mark;split
   ·rfl
   ·split
    ·rfl
    ·unfold all;dsimp only;split<;>rfl
  unfold done;split
  ·exact hx
  ·split
   ·exact hx.trans (Wr.of hm)
   ·exact hx.trans (Wr.of hm)
 unfold cK;split
 ·exact Wr.refl S
 ·refine e1 _ ?_;unfold erase;split
  ·exact Wr.refl S
  ·split
   ·exact Wr.refl S
   ·dsimp only;split
    ·exact Wr.drop rfl
    ·split
     ·exact Wr.refl S
     ·exact Wr.drop rfl
theorem aad{S:aD}{b p:Int}{d:List Nat}:Wr S (S.dL b p d).1:=by
 have hm:∀T:aD,(T.mark b).1.bK=T.bK:=fun T=>by
  unfold mark;split
  ·rfl
  ·split
   ·rfl
   ·unfold all;dsimp only;split<;>rfl
 have e1:∀x:aD×Int,Wr S x.1→Wr S (done b x).1:=fun x hx=>by
  unfold done;split
  ·exact hx
  ·split
   ·exact hx.trans (Wr.of (hm _))
   ·exact hx.trans (Wr.of (hm _))
 unfold dL;split
 ·exact Wr.refl S
 ·refine e1 _ (Wr.of ?_);unfold program;split
  ·rfl
  ·split
   ·rfl
   ·split
    ·rfl
    ·dsimp only;split
     ·rfl
     ·split<;>rfl
section
variable{S:aD}{b:Int}
theorem Z0{pg:Nat→List Nat}(hg:S.g.aU)(hu:S.up=true)(hb:0≤b∧b<S.g.bl)(hm:S.marked b=false)(h8:∀p,aB 256 (pg p))(hl:∀p,(pg p).length=S.room)(hn:S.nD b=0)(ZQ:(S.next.length:Int)=S.g.bl)
 {N:Nat} (hN:(N:Int)<S.g.pg) (h0:∀p,0≤p→p<S.g.pg→S.aW (b,p)=none):∀k,k≤N+1→Rest b S (gq S b pg k).1∧Wr S (gq S b pg k).1∧(S.left=0→(gq S b pg k).1.left=0∧(gq S b pg k).2≠70)∧(S.fH b=false→(gq S b pg k).2≠72) ∧
 (((gq S b pg k).2=0∧(gq S b pg k).1.up=true∧(gq S b pg k).1.marked b=false∧(gq S b pg k).1.nD b=(k:Int)∧(∀p:Nat,p<k→(gq S b pg k).1.aW (b,(p:Int))=some (bF (fF S.g (pg p))))∧(∀p:Int,(k:Int)≤p→p<S.g.pg→(gq S b pg k).1.aW (b,p)=none)) ∨
  ((gq S b pg k).2=72∧(gq S b pg k).1.up=true∧(gq S b pg k).1.marked b=true) ∨
  ((gq S b pg k).2=70∧(gq S b pg k).1.up=false∧((gq S b pg k).1.marked b=true∨(gq S b pg k).1.marked b=false∧∃j,(gq S b pg k).1.ag6 b pg N j)))
 | 0,_=>⟨Rest.refl b S,Wr.refl S,fun h=>⟨h,Lx⟩,fun _=>E5,.inl ⟨rfl,hu,hm,hn,fun p hp=>absurd hp (not_lt_zero _),fun p h1 h2=>h0 p h1 h2⟩⟩
 | k+1,hk=>by
  obtain⟨r1,r2,r3,r4,r5⟩:=Z0 hg hu hb hm h8 hl hn ZQ hN h0 k ay;by_cases he:(gq S b pg k).2=0
  ·obtain⟨Y,hY⟩:∃Y,Y=(gq S b pg k).1:=⟨_,rfl⟩;have est:gq S b pg (k+1)=Y.dL b k (pg k):=by rw[gq,if_neg (fun h=>h he),←hY]
   rw[←hY] at r1 r2 r3 r5;have q5:Y.up=true∧Y.marked b=false∧Y.nD b=(k:Int)∧(∀p:Nat,p<k→Y.aW (b,(p:Int))=some (bF (fF S.g (pg p))))∧(∀p:Int,(k:Int)≤p→p<S.g.pg→Y.aW (b,p)=none):=by
    rcases r5 with h | h | h
    ·exact h.2
    ·rw[he] at h;exact absurd h.1.symm aK
    ·rw[he] at h;exact absurd h.1.symm aK
   obtain⟨u1,u2,u3,u4,u5⟩:=q5;have wI:(pg k).length=Y.room:=by rw[hl];unfold room;rw[r1.g]
   obtain⟨w1,w2,w3,w4⟩:=UG (S:=Y) (b:=b) (p:=(k:Int)) (d:=pg k) (by rw[r1.g];exact hg) u1 (by rw[r1.g];omega) u2 (h8 k) wI u3 (by rw[r1.len,r1.g];exact ZQ);rw[est];have hpk:fF Y.g (pg k)=fF S.g (pg k):=by rw[r1.g]
   have ho:∀(f:Int×Int→Option (List Int)) (v:Option (List Int)) (p:Int),p≠k→DN f (b,(k:Int)) v (b,p)=f (b,p):=fun f v p hp=>if_neg fun e=>hp (by injection e);have hh:∀(f:Int×Int→Option (List Int)) (v:Option (List Int)),DN f (b,(k:Int)) v (b,(k:Int))=v:=fun f v=>if_pos rfl;refine⟨r1.trans w1,r2.trans aad,fun h=>w2 (r3 h).1,fun h=>w3 (by rw[r1.fH];exact h), ?_⟩;rcases w4 with ⟨a1,a2,a3,a4,_,a6⟩ | (⟨a1,a2,a3⟩ | ⟨a1,a2,a3⟩) | ⟨a1,a2,a3,_,xs,a5,a6⟩
   ·refine .inl ⟨a1,a2,a3,by rw[a4];omega,fun p hp=> ?_,fun p h1 h2=> ?_⟩
    ·rw[a6];by_cases agy:p=k
     ·subst agy;first | rw[hh,hpk] | rw[hh]
     ·rw[ho _ _ _ ay];exact u4 p ay
    ·rw[a6,ho _ _ _ ay];exact u5 p ay h2
   ·exact .inr (.inl ⟨a1,a2,a3⟩)
   ·refine .inr (.inr ⟨a1,a2, ?_⟩);rcases a3 with a3 | ⟨a3,a4,_⟩
    ·exact .inl a3
    ·refine .inr ⟨by rw[a3];exact u2,k,by omega,fun p hp=> ?_,fun _=>EM ?_⟩
     ·rw[a4,w1.g,r1.g];exact u4 p hp
     ·rw[a4];exact u5 _ (Int.le_refl _) ay
   ·refine .inr (.inr ⟨a1,a2,.inr ⟨a3, ?_⟩⟩);rcases a6 with rfl | ⟨ys,rfl,hy⟩
    ·refine⟨k+1,by omega,fun p hp=> ?_,fun hkN=>EM ?_⟩
     ·rw[a5,w1.g,r1.g];by_cases agy:p=k
      ·subst agy;first | rw[hh,hpk] | rw[hh]
      ·rw[ho _ _ _ ay];exact u4 p ay
     ·rw[a5,ho _ _ _ ay];exact u5 _ ay ay
    ·refine⟨k,by omega,fun p hp=> ?_,fun _ xs hx=> ?_⟩
     ·rw[a5,w1.g,r1.g,ho _ _ _ ay];exact u4 p hp
     ·rw[a5,hh] at hx;injection hx with hx
      exact⟨ys,hx.symm,by rw[w1.g];exact hy⟩
  ·have est:gq S b pg (k+1)=gq S b pg k:=by rw[gq,if_pos he]
   rw[est];refine⟨r1,r2,r3,r4, ?_⟩;rcases r5 with h | h | h
   ·exact absurd h.1 he
   ·exact .inr (.inl h)
   ·exact .inr (.inr h)
theorem Y8{h:Hd}{d:List Nat}(Pj:h.may S.g=true)(hl:h.len=(d.length:Nat))(h8:aB 256 d){j:Nat}(hj:S.ag6 b (qy S.g h d) (S.wm h) j):S.Bw (b,0)∨S.Part b h∨S.yP b h d:=by
 obtain⟨h1,h2,h3⟩:=hj;rcases eq_zero_or_pos j with rfl | h0
 ·exact .inl (h3 (zero_le _))
 ·by_cases hN:j≤S.wm h
  ·exact .inr (.inl ⟨Pj,h2 0 h0,j,hN,h3 hN⟩)
  ·exact .inr (.inr ⟨Pj,hl,h8,fun p hp=>h2 p ay⟩)
theorem UZ{num aV:Int}{d:List Nat}(hg:S.g.aU)(hu:S.up=true)(hb:0≤b∧b<S.g.bl)(hm:S.marked b=false)(ZQ:(S.next.length:Int)=S.g.bl)(h8:aB 256 d)(Pj:Hd.may S.g ⟨aV,(d.length:Nat),num⟩=true) :
 Rest b S (dK S num b aV d).1∧Wr S (dK S num b aV d).1∧(S.left=0→(dK S num b aV d).1.left=0∧(dK S num b aV d).2≠70)∧(S.fH b=false→(dK S num b aV d).2≠72) ∧
 (((
  dK S num b aV d).2=0∧(dK S num b aV d).1.up=true∧(dK S num b aV d).1.marked b=false∧(dK S num b aV d).1.yP b ⟨aV,(d.length:Nat),num⟩ d) ∨
  ((dK S num b aV d).2=72∧(dK S num b aV d).1.up=true∧(dK S num b aV d).1.marked b=true) ∨
  ((
   dK S num b aV d).2=70∧(dK S num b aV d).1.up=false∧((dK S num b aV d).1.marked b=true∨(dK S num b aV d).1.marked b=false ∧
   (Vt b S (dK S num b aV d).1∨(dK S num b aV d).1.Bw (b,0)∨(dK S num b aV d).1.Part b ⟨aV,(d.length:Nat),num⟩∨(dK S num b aV d).1.yP b ⟨aV,(d.length:Nat),num⟩ d)))):=by
 have wS:=hg;unfold bL.aU at wS;obtain⟨e1,e2,e3,e4⟩:=Vp hu hb ay hm ZQ;obtain⟨h,hh⟩:∃h:Hd,h=⟨aV,(d.length:Nat),num⟩:=⟨_,rfl⟩;rw[←hh] at Pj ⊢;have hpb:=Ob hg Pj;by_cases he:(S.cK b).2=0
 ·obtain⟨T,hT⟩:∃T,T=(S.cK b).1:=⟨_,rfl⟩;have est:dK S num b aV d=gq T b (qy S.g h d) (S.wm h+1):=by
   unfold dK;rw[if_neg (fun h=>h he),←hT,←hh];unfold wm;rw[hh]
  have Xa:=Rh (S:=S) (b:=b);rw[←hT] at e1 e2 e4 Xa;have q4:T.up=true∧T.marked b=false∧T.nD b=0∧∀p,0≤p→p<S.g.pg→T.aW (b,p)=none∧T.bK (b,p)=none:=by
   rcases e4 with h | (h | h) | h
   ·exact h.2
   ·rw[he] at h;exact absurd h.1.symm aK
   ·rw[he] at h;exact absurd h.1.symm aK
   ·rw[he] at h;exact absurd h.1.symm aK
  obtain⟨u1,u2,u3,u4⟩:=q4;obtain⟨w1,w2,w3,w4,w5⟩:=Z0 (S:=T) (b:=b) (pg:=qy S.g h d) (by rw[e1.g];exact hg) u1 (by rw[e1.g];exact hb) u2 (fun p=>BH h8 p) (fun p=>by rw[sD hg];unfold room;rw[e1.g];exact (Oe hg).symm) u3 (by rw[e1.len,e1.g];exact ZQ)
   (N:=S.wm h) (by rw[e1.g];omega) (fun p h1 h2=>(u4 p h1 (by rw[←e1.g];exact h2)).1) (S.wm h+1) (Nat.le_refl _)
  rw[est];have hgg:(gq T b (qy S.g h d) (S.wm h+1)).1.g=S.g:=(w1.g).trans e1.g;have dJ:∀j,(gq T b (qy S.g h d) (S.wm h+1)).1.ag6 b (qy S.g h d) (S.wm h) j→(gq T b (qy S.g h d) (S.wm h+1)).1.Bw (b,0)∨(gq T b (qy S.g h d) (S.wm h+1)).1.Part b h∨(gq T b (qy S.g h d) (S.wm h+1)).1.yP b h d:=fun j hj=>by
   refine Y8 (by rw[hgg];exact Pj) (by rw[hh]) h8 (j:=j) ?_;have Pt:(gq T b (qy S.g h d) (S.wm h+1)).1.wm h=S.wm h:=by
    show ((gq T b (qy S.g h d) (S.wm h+1)).1.g.bO h.len).toNat=(S.g.bO h.len).toNat;rw[hgg]
   rw[Pt,hgg];exact hj
  refine⟨e1.trans w1,Xa.trans w2,fun h0=>w3 (e2 h0).1,fun hw=>w4 (by rw[e1.fH];exact hw), ?_⟩;rcases w5 with ⟨a1,a2,a3,a4,a5,a6⟩ | a | ⟨a1,a2,a3⟩
  ·refine .inl ⟨a1,a2,a3,⟨by rw[hgg];exact Pj,by rw[hh],h8,fun p hp=> ?_⟩⟩;have Pt:(gq T b (qy S.g h d) (S.wm h+1)).1.wm h=S.wm h:=by
    show ((gq T b (qy S.g h d) (S.wm h+1)).1.g.bO h.len).toNat=(S.g.bO h.len).toNat;rw[hgg]
   rw[Pt] at hp;rw[a5 p ay,hgg,e1.g]
  ·exact .inr (.inl a)
  ·refine .inr (.inr ⟨a1,a2, ?_⟩);rcases a3 with a3 | ⟨a3,j,hj⟩
   ·exact .inl a3
   ·exact .inr ⟨a3,.inr (dJ j hj)⟩
 ·have est:dK S num b aV d=S.cK b:=by unfold dK;rw[if_pos he]
  rw[est];refine⟨e1,Rh,e2,e3, ?_⟩;rcases e4 with h | (h | ⟨a1,a2,a3⟩) | ⟨a1,a2,a3,n,a4,a5⟩
  ·exact absurd h.1 he
  ·exact .inr (.inl h)
  ·refine .inr (.inr ⟨a1,a2, ?_⟩);rcases a3 with a3 | ⟨a3,a4,a5⟩
   ·exact .inl a3
   ·exact .inr ⟨by rw[a3];exact hm,.inl ⟨a4,a5⟩⟩
  ·refine .inr (.inr ⟨a1,a2,.inr ⟨a3, ?_⟩⟩);by_cases hn:0<n
   ·exact .inr (.inl (EM (by rw[a4];exact if_pos ⟨rfl,Int.le_refl _,hn⟩)))
   ·have hd:∀(f:Int×Int→Option (List Int)),bC f b n=f:=fun f=>by
     funext k;unfold bC;rw[if_neg (fun h=>by omega)]
    exact .inl ⟨by rw[a4,hd],by rw[a5,hd]⟩
end
end aD
end Go.Proofs.YtcedojacbhnbiaaGreat
