import Derived.Test.YtcedojacbhnbiaaGreatP8
set_option linter.unusedSimpArgs false
set_option linter.unusedVariables false
set_option maxHeartbeats 2000000
set_option maxRecDepth 20000
namespace Go.Proofs.YtcedojacbhnbiaaGreat
open Go.Sl Go.RowKit Tryz List Nat
abbrev Kr:=Option (Hd×Bool×List Nat)
abbrev Lm:=Nat→Option (List Nat)
def Lm.put(m:Lm)(i:Nat)(v:Option (List Nat)):Lm:=fun k=>if k=i then v else m k
theorem Lp{α:Type}(l:List α)(j i:Nat)(v d:α):(l.set j v).getD i d=if i=j∧j<l.length then v else l.getD i d:=by grind
theorem xL(l:List (List Int))(b:Int)(i:Nat):(l.map (gP b)).getD i []=gP b (l.getD i []):=by
 simp only[getD,getElem?_map];cases l[i]? <;>rfl
theorem q8{b x:Int}{l:List Int}:x∈gP b l↔x∈l∧x≠b:=by grind [gP]
theorem Jp{α:Type}{l:List α}{i:Nat}{d:α}(h:i<l.length):l.getD i d∈l:=by grind
namespace aD
def Stat(S:aD)(b:Int):Kr→Prop
 | none=>S.Bw (b,0)
 | some (h,true,d)=>S.yP b h d
 | some (h,false,_)=>S.Part b h
structure CI(S:aD)(st:Int→Kr):Prop where
 aU:S.g.aU
 len:(S.next.length:Int)=S.g.bl
 few:∀k,S.Zd k
 stat:∀b,0≤b→b<S.g.bl→S.marked b=false→S.Stat b (st b)
theorem Bw.same{S S':aD}{k:Int×Int}(hg:S'.g=S.g)(hp:S'.aW k=S.aW k)(h:S.Bw k):S'.Bw k:=fun xs hx=>by
 rw[hp] at hx;rw[hg];exact h xs hx
theorem Stat.same{S S':aD}{b:Int}(hg:S'.g=S.g)(hp:∀p,S'.aW (b,p)=S.aW (b,p)):∀ {s:Kr},S.Stat b s→S'.Stat b s
 | none,h=>Bw.same hg (hp 0) h
 | some (h,true,d),⟨h1,h2,h3,h4⟩=>⟨by rw[hg];exact h1,h2,h3,fun p DU=>by
  unfold wm at DU;rw[hg] at DU ⊢;rw[hp];exact h4 p DU⟩
 | some (h,false,d),⟨h1,h2,q,h3,h4⟩=>⟨by rw[hg];exact h1,by rw[hg,hp];exact h2,q,by unfold wm;rw[hg];exact h3,Bw.same hg (hp q) h4⟩
theorem CI.step{S S':aD}{st st':Int→Kr}{b:Int}(h:CI S st)(hr:Rest b S S')(hw:Wr S S')(hs:∀k,k≠b→st' k=st k)(hx:S'.marked b=false→S'.Stat b (st' b)):CI S' st':=by
 refine⟨by rw[hr.g];exact h.aU,by rw[hr.len,hr.g];exact h.len,hw.few hr.g h.few,fun c h1 h2 h3=> ?_⟩;by_cases hc:c=b
 ·subst hc;exact hx h3
 ·rw[hs c hc];exact Stat.same hr.g (fun p=>hr.aW (c,p) hc) (h.stat c h1 (by rw[←hr.g];exact h2) (by rw[←hr.marked c hc];exact h3))
structure Live(S:aD)(st:Int→Kr)(b:Int)(h:Hd)(d:List Nat):Prop where
 lo:0≤b
 hi:b<S.g.bl
 un:S.marked b=false
 st:st b=some (h,true,d)
theorem Live.back{S S':aD}{st st':Int→Kr}{b c:Int}{h:Hd}{d:List Nat}(hr:Rest b S S')(hs:∀k,k≠b→st' k=st k)(hc:c≠b)(hl:Live S' st' c h d):Live S st c h d :=
 ⟨hl.lo,by rw[←hr.g];exact hl.hi,by rw[←hr.marked c hc];exact hl.un,by rw[←hs c hc];exact hl.st⟩
theorem Live.on{S S':aD}{st st':Int→Kr}{b c:Int}{h:Hd}{d:List Nat}(hr:Rest b S S')(hs:∀k,k≠b→st' k=st k)(hc:c≠b)(hl:Live S st c h d):Live S' st' c h d :=
 ⟨hl.lo,by rw[hr.g];exact hl.hi,by rw[hr.marked c hc];exact hl.un,by rw[hs c hc];exact hl.st⟩
structure CM(aJ L:Nat)(S:aD)(st:Int→Kr)(m:Lm):Prop where
 ci:CI S st
 low:∀b h d,Live S st b h d→h.aV<L
 uniq:∀b c h h' d d',Live S st b h d→Live S st c h' d'→h.aV=h'.aV→h.num=h'.num→b=c
 none_:∀i,i<aJ→m i=none→∀b h d,Live S st b h d→h.aV≠(i:Nat)
 some_:∀i,i<aJ→∀v,m i=some v→∃b h,Live S st b h v∧h.aV=(i:Nat)∧∀c h' v',Live S st c h' v'→h'.aV=(i:Nat)→c≠b→h'.num<h.num
structure SI(aJ L B:Nat)(S:aD)(st:Int→Kr)(T:St)(m:Lm):Prop where
 ci:CI S st
 low:∀b h d,Live S st b h d→h.aV<L
 uniq:∀b c h h' d d',Live S st b h d→Live S st c h' d'→h.aV=h'.aV→h.num=h'.num→b=c
 dead:T.dead=false
 len:T.stands.length=aJ
 ael:T.dN.length=aJ
 at_:0≤T.at_∧T.at_<S.g.bl
 next:1≤T.next
 num:∀b,0≤b→b<S.g.bl→S.marked b=false→∀h w d,st b=some (h,w,d)→h.num<T.next
 Vv:∀l∈T.dN,l.length≤B
 none_:∀i,i<aJ→m i=none→T.stands.getD i 0= -1∧∀b h d,Live S st b h d→h.aV≠(i:Nat)
 some_:∀i,i<aJ→∀v,m i=some v→∃h,Live S st (T.stands.getD i 0) h v∧h.aV=(i:Nat)∧∀c h' v',Live S st c h' v'→h'.aV=(i:Nat)→c≠T.stands.getD i 0→h'.num<h.num∧c∈T.dN.getD i []
 ahi:∀i,i<aJ→∀x∈T.dN.getD i [],0≤x∧x<S.g.bl∧x∉T.stands
section
variable{aJ L B:Nat}{S S':aD}{st st':Int→Kr}{T:St}{m:Lm}{b:Int}
theorem SI.Zn(hI:SI aJ L B S st T m){i:Nat}(hi:i<aJ)(hb:b∉T.stands):T.stands.getD i 0≠b:=fun e=>hb (by rw[←e];exact Jp (by rw[hI.len];exact hi))
theorem CM.gone(hI:SI aJ L B S st T m)(hr:Rest b S S')(hw:Wr S S')(hs:∀k,k≠b→st' k=st k)(hx:S'.marked b=false→S'.Stat b (st' b))(hn:∀h d,¬Live S' st' b h d)(hb:b∉T.stands):CM aJ L S' st' m:=by
 have nk:∀ {c h d},Live S' st' c h d→c≠b:=fun h e=>hn _ _ (e ▸ h);refine⟨hI.ci.step hr hw hs hx,fun c h d hl=>hI.low c h d (hl.back hr hs (nk hl)),fun c c' h h' d d' k1 k2=>hI.uniq c c' h h' d d' (k1.back hr hs (nk k1)) (k2.back hr hs (nk k2)),fun i hi hm c h d hl=>(hI.none_ i hi hm).2 c h d (hl.back hr hs (nk hl)),fun i hi v hm=> ?_⟩;obtain⟨h,h1,h2,h3⟩:=hI.some_ i hi v hm;exact⟨_,h,h1.on hr hs (hI.Zn hi hb),h2,fun c h' v' k1 k2 k3=>(h3 c h' v' (k1.back hr hs (nk k1)) k2 k3).1⟩
theorem SI.fail(hI:SI aJ L B S st T m)(hr:Rest b S S')(hw:Wr S S')(hm:S'.marked b=true)(hb:b∉T.stands){n:Int}(hn:T.next≤n):SI aJ L B S' st { T.forget b with next:=n } m:=by
 have hc:=CM.gone (st':=st) hI hr hw (fun _ _=>rfl) (fun h=>by rw[hm] at h;cases h) (fun h d hl=>by have :=hl.un;rw[hm] at this;cases this) hb;have nk:∀ {c h d},Live S' st c h d→c≠b:=fun h e=>by have :=h.un;rw[e,hm] at this;cases this
 have hbk:∀ {c h d},Live S' st c h d→Live S st c h d:=fun h=>h.back hr (fun _ _=>rfl) (nk h);refine⟨hc.ci,hc.low,hc.uniq,hI.dead,hI.len,by show (T.dN.map _).length=_;rw[length_map];exact hI.ael,by rw[hr.g];exact hI.at_,by show 1≤n;have :=hI.next;omega,fun c h1 h2 h3 h w d hs=> ?_,fun l hl=> ?_,fun i hi wQ=>⟨(hI.none_ i hi wQ).1,hc.none_ i hi wQ⟩,fun i hi v wQ=> ?_,fun i hi x hx=> ?_⟩
 ·by_cases BX:c=b
  ·subst BX;rw[hm] at h3;cases h3
  ·have :=hI.num c h1 (by rw[←hr.g];exact h2) (by rw[←hr.marked c BX];exact h3) h w d hs;show h.num<n;omega
 ·obtain⟨l',GA,rfl⟩:=mem_map.1 hl;exact Nat.le_trans (length_filter_le _ _) (hI.Vv l' GA)
 ·obtain⟨h,h1,h2,h3⟩:=hI.some_ i hi v wQ;refine⟨h,h1.on hr (fun _ _=>rfl) (hI.Zn hi hb),h2,fun c h' v' k1 k2 k3=> ?_⟩;obtain⟨q1,q2⟩:=h3 c h' v' (hbk k1) k2 k3;refine⟨q1, ?_⟩;show c∈(T.dN.map (gP b)).getD i [];rw[xL];exact q8.2 ⟨q2,nk k1⟩
 ·have ZN:x∈(T.dN.map (gP b)).getD i []:=hx;rw[xL] at ZN;have :=hI.ahi i hi x (q8.1 ZN).1;rw[hr.g];exact this
theorem CM.put(hI:SI aJ L B S st T m)(hr:Rest b S S')(hw:Wr S S')(hs:∀k,k≠b→st' k=st k){h:Hd}{d:List Nat}(dJ:st' b=some (h,true,d))(hH:S'.yP b h d)(hb:b∉T.stands)(EX:0≤b∧b<S.g.bl)(hum:S'.marked b=false)
 {i0:Nat} (OX:i0<aJ) (hL:i0<L) (KJ:h.aV=(i0:Nat)) (Nh:h.num=T.next):CM aJ L S' st' (m.put i0 (some d)):=by
 have hLb:Live S' st' b h d:=⟨EX.1,by rw[hr.g];exact EX.2,hum,dJ⟩;have heq:∀ {h' d'},Live S' st' b h' d'→h'=h:=fun hl=>by
  have :=hl.st;rw[dJ] at this;injection this with this
  injection this with e1 _
  exact e1.symm
 have oJ:∀ {c h' d'},Live S' st' c h' d'→c≠b→h'.num<T.next:=fun hl hc=>by
  have h1:=hl.back hr hs hc;exact hI.num _ h1.lo h1.hi h1.un _ _ _ h1.st
 refine⟨hI.ci.step hr hw hs (fun _=>by rw[dJ];exact hH),fun c h' d' hl=> ?_,fun c c' h1 h2 d1 d2 k1 k2 e1 e2=> ?_,fun i hi hm c h' d' hl=> ?_,fun i hi v hm=> ?_⟩
 ·by_cases hc:c=b
  ·subst hc;rw[heq hl,KJ];omega
  ·exact hI.low c h' d' (hl.back hr hs hc)
 ·by_cases hc:c=b
  ·by_cases hc':c'=b
   ·rw[hc,hc']
   ·subst hc;have :=oJ k2 hc';rw[heq k1] at e2;omega
  ·by_cases hc':c'=b
   ·subst hc';have :=oJ k1 hc;rw[heq k2] at e2;omega
   ·exact hI.uniq c c' h1 h2 d1 d2 (k1.back hr hs hc) (k2.back hr hs hc') e1 e2
 ·by_cases Vw:i=i0
  ·unfold Lm.put at hm;rw[if_pos Vw] at hm;cases hm
  ·unfold Lm.put at hm;rw[if_neg Vw] at hm;by_cases hc:c=b
   ·subst hc;rw[heq hl,KJ];omega
   ·exact (hI.none_ i hi hm).2 c h' d' (hl.back hr hs hc)
 ·by_cases Vw:i=i0
  ·unfold Lm.put at hm;rw[if_pos Vw] at hm;injection hm with hm
   subst hm;refine⟨b,h,hLb,by rw[KJ,Vw],fun c h' v' k1 k2 k3=> ?_⟩;rw[Nh];exact oJ k1 k3
  ·unfold Lm.put at hm;rw[if_neg Vw] at hm;obtain⟨hd,h1,h2,h3⟩:=hI.some_ i hi v hm;refine⟨_,hd,h1.on hr hs (hI.Zn hi hb),h2,fun c h' v' k1 k2 k3=> ?_⟩;by_cases hc:c=b
   ·subst hc;rw[heq k1,KJ] at k2;omega
   ·exact (h3 c h' v' (k1.back hr hs hc) k2 k3).1
theorem SI.put(hI:SI aJ L B S st T m)(hr:Rest b S S')(hw:Wr S S')(hs:∀k,k≠b→st' k=st k){h:Hd}{d:List Nat}(dJ:st' b=some (h,true,d))(hH:S'.yP b h d)(hb:b∉T.stands)(EX:0≤b∧b<S.g.bl)(hum:S'.marked b=false)
 {i0:Nat} (OX:i0<aJ) (hL:i0<L) (KJ:h.aV=(i0:Nat)) (Nh:h.num=T.next):SI aJ L (B+1) S' st' (((T.forget b).mark (i0:Int)).done (i0:Int) b S.g.bl) (m.put i0 (some d)):=by
 have hc:=CM.put hI hr hw hs dJ hH hb EX hum OX hL KJ Nh;have heq:∀ {h' d'},Live S' st' b h' d'→h'=h:=fun hl=>by
  have :=hl.st;rw[dJ] at this;injection this with this
  injection this with e1 _
  exact e1.symm
 obtain⟨T1,lU⟩:∃T1,T1=T.forget b:=⟨_,rfl⟩;have s1:T1.stands=T.stands:=by rw[lU];rfl
 have t1:∀i,T1.dN.getD i []=gP b (T.dN.getD i []):=fun i=>by rw[lU];exact xL _ _ _
 have l1:T1.dN.length=aJ:=by rw[lU];show (T.dN.map _).length=_;rw[length_map];exact hI.ael
 have o:T1.ng (i0:Int)=T.stands.getD i0 0:=by unfold St.ng;rw[s1,Int.toNat_natCast]
 rw[←lU];obtain⟨T2,wP⟩:∃T2,T2=T1.mark (i0:Int):=⟨_,rfl⟩;have s2:T2.stands=T.stands:=by rw[wP];unfold St.mark;split<;>exact s1
 have d2:T2.dead=false:=by rw[wP];unfold St.mark;split<;>(rw[lU];exact hI.dead)
 have n2:T2.next=T.next:=by rw[wP];unfold St.mark;split<;>(rw[lU];rfl)
 have l2:T2.dN.length=aJ:=by
  rw[wP];unfold St.mark;split
  ·show (T1.dN.set _ _).length=_;rw[length_set];exact l1
  ·exact l1
 have t2:∀i,T2.dN.getD i []=if i=i0∧0≤T.stands.getD i0 0 then gP b (T.dN.getD i [])++[T.stands.getD i0 0] else gP b (T.dN.getD i []):=fun i=>by
  rw[wP];unfold St.mark;rw[o];split
  ·rename_i h0;show (T1.dN.set (i0:Int).toNat (T1.dN.getD (i0:Int).toNat []++[T.stands.getD i0 0])).getD i []=_;rw[Int.toNat_natCast,Lp,l1,t1,t1];by_cases hi:i=i0
   ·subst hi;rw[if_pos ⟨rfl,OX⟩,if_pos ⟨rfl,h0⟩]
   ·rw[if_neg (fun h=>hi h.1),if_neg (fun h=>hi h.1)]
  ·rename_i h0;rw[t1,if_neg (fun h=>h0 h.2)]
 rw[←wP];have g3:∀i,(T2.done (i0:Int) b S.g.bl).stands.getD i 0=if i=i0 then b else T.stands.getD i 0:=fun i=>by
  show (T2.stands.set (i0:Int).toNat b).getD i 0=_;rw[Int.toNat_natCast,Lp,s2,hI.len];by_cases hi:i=i0
  ·rw[if_pos ⟨hi,OX⟩,if_pos hi]
  ·rw[if_neg (fun h=>hi h.1),if_neg hi]
 have wD:∀x,x∈(T2.done (i0:Int) b S.g.bl).stands→x=b∨∃i,i<aJ∧i≠i0∧x=T.stands.getD i 0:=fun x hx=>by
  obtain⟨i,hi,e⟩:=getElem_of_mem hx;have Gb:i<aJ:=by
   have h1:i<(T2.stands.set (i0:Int).toNat b).length:=hi;rw[length_set,s2,hI.len] at h1;exact h1
  have e2:(T2.done (i0:Int) b S.g.bl).stands.getD i 0=x:=by simp only[getD,getElem?_eq_getElem hi,Option.getD_some];exact e
  rw[g3] at e2;by_cases h0:i=i0
  ·rw[if_pos h0] at e2;exact .inl e2.symm
  ·rw[if_neg h0] at e2;exact .inr ⟨i,Gb,h0,e2.symm⟩
 have ajv:∀i j,i<aJ→j<aJ→i≠j→0≤T.stands.getD i 0→T.stands.getD i 0≠T.stands.getD j 0:=fun i j hi hj Xj h0 e=>by
  cases Z6:m i with
  | none=>have :=(hI.none_ i hi Z6).1;omega
  | some v =>
   cases hmj:m j with
   | none=>have :=(hI.none_ j hj hmj).1;omega
   | some v' =>
    obtain⟨h1,k1,k2,_⟩:=hI.some_ i hi v Z6;obtain⟨h2,q1,q2,_⟩:=hI.some_ j hj v' hmj;have e1:=k1.st;rw[e,q1.st] at e1;injection e1 with e1
    injection e1 with e1 _
    rw[←e1,q2] at k2;omega
 have wS:=hI.ci.aU;unfold bL.aU at wS;refine⟨hc.ci,hc.low,hc.uniq,d2, ?_,l2, ?_, ?_,fun c h1 h2 h3 h' w d' hs'=> ?_,fun l hl=> ?_,fun i hi wQ=>⟨?_,hc.none_ i hi wQ⟩,fun i hi v wQ=> ?_,fun i hi x hx=> ?_⟩
 ·show (T2.stands.set _ _).length=_;rw[length_set,s2,hI.len]
 ·rw[hr.g];exact⟨Int.emod_nonneg _ ay,Int.emod_lt_of_pos _ ay⟩
 ·show 1≤T2.next+1;rw[n2];have :=hI.next;omega
 ·show h'.num<T2.next+1;rw[n2];by_cases BX:c=b
  ·subst BX;rw[dJ] at hs';injection hs' with hs'
   injection hs' with e1 _
   rw[←e1,Nh];omega
  ·have :=hI.num c h1 (by rw[←hr.g];exact h2) (by rw[←hr.marked c BX];exact h3) h' w d' (by rw[←hs c BX];exact hs');omega
 ·have GA:l∈T2.dN:=hl;obtain⟨i,hi,e⟩:=getElem_of_mem GA;have e2:T2.dN.getD i []=l:=by simp only[getD,getElem?_eq_getElem hi,Option.getD_some];exact e
  have h4:(gP b (T.dN.getD i [])).length≤B:=Nat.le_trans (length_filter_le _ _) (hI.Vv _ (Jp (by rw[hI.ael];omega)));rw[←e2,t2];split
  ·rw[length_append];simp only[length_singleton];omega
  ·omega
 ·rw[g3];by_cases Vw:i=i0
  ·unfold Lm.put at wQ;rw[if_pos Vw] at wQ;cases wQ
  ·rw[if_neg Vw];unfold Lm.put at wQ;rw[if_neg Vw] at wQ;exact (hI.none_ i hi wQ).1
 ·rw[g3];by_cases Vw:i=i0
  ·subst Vw;unfold Lm.put at wQ;rw[if_pos rfl] at wQ;injection wQ with wQ
   subst wQ;rw[if_pos rfl];refine⟨h,⟨EX.1,by rw[hr.g];exact EX.2,hum,dJ⟩,KJ,fun c h' v' k1 k2 k3=> ?_⟩;have kb:=k1.back hr hs k3;refine⟨by rw[Nh];exact hI.num _ kb.lo kb.hi kb.un _ _ _ kb.st, ?_⟩;show c∈T2.dN.getD i [];rw[t2];cases Z6:m i with
   | none=>exact absurd k2 ((hI.none_ i hi Z6).2 c h' v' kb)
   | some v =>
    obtain⟨hd,q1,q2,q3⟩:=hI.some_ i hi v Z6;rw[if_pos ⟨rfl,q1.lo⟩];by_cases hco:c=T.stands.getD i 0
    ·exact mem_append_right _ (mem_singleton.2 hco)
    ·exact mem_append_left _ (q8.2 ⟨(q3 c h' v' kb k2 hco).2,k3⟩)
  ·rw[if_neg Vw];unfold Lm.put at wQ;rw[if_neg Vw] at wQ;obtain⟨hd,q1,q2,q3⟩:=hI.some_ i hi v wQ;refine⟨hd,q1.on hr hs (hI.Zn hi hb),q2,fun c h' v' k1 k2 k3=> ?_⟩;have BX:c≠b:=fun e=>by subst e;rw[heq k1,KJ] at k2;omega
   obtain⟨q4,q5⟩:=q3 c h' v' (k1.back hr hs BX) k2 k3;refine⟨q4, ?_⟩;show c∈T2.dN.getD i [];rw[t2,if_neg (fun h=>Vw h.1)];exact q8.2 ⟨q5,BX⟩
 ·have ZN:x∈T2.dN.getD i []:=hx;rw[t2] at ZN;rw[hr.g];have Po:x∈gP b (T.dN.getD i [])→0≤x∧x<S.g.bl∧x∉(T2.done (i0:Int) b S.g.bl).stands:=fun h4=>by
   obtain⟨h5,h6⟩:=q8.1 h4;obtain⟨h7,h8,h9⟩:=hI.ahi i hi x h5;refine⟨h7,h8,fun h10=> ?_⟩;rcases wD x h10 with h11 | ⟨j,hj,_,h11⟩
   ·exact h6 h11
   ·exact h9 (by rw[h11];exact Jp (by rw[hI.len];exact hj))
  split at ZN
  ·rename_i h4;rcases mem_append.1 ZN with h5 | h5
   ·exact Po h5
   ·have h6:=mem_singleton.1 h5;subst h6;cases Z6:m i0 with
    | none=>have :=(hI.none_ i0 OX Z6).1;omega
    | some v =>
     obtain⟨hd,q1,_,_⟩:=hI.some_ i0 OX v Z6;refine⟨q1.lo,q1.hi,fun h10=> ?_⟩;rcases wD _ h10 with h11 | ⟨j,hj,hj0,h11⟩
     ·exact hI.Zn OX hb h11
     ·exact ajv i0 j OX hj (fun e=>hj0 e.symm) h4.2 h11
  ·exact Po ZN
end
end aD
namespace aD
def XV(S:aD)(st:Int→Kr)(N:Int):Prop:=∀b,0≤b→b<S.g.bl→S.marked b=false→∀h w d,st b=some (h,w,d)→h.num<N
theorem XV.mono{S:aD}{st:Int→Kr}{N N':Int}(h:XV S st N)(hn:N≤N'):XV S st N':=fun b h1 h2 h3 hd w d hs=>by have :=h b h1 h2 h3 hd w d hs;omega
section
variable{aJ L B:Nat}{S S':aD}{st st':Int→Kr}{T:St}{m:Lm}{b:Int}
theorem SI.ready(hI:SI aJ L B S st T m){i:Nat}(hi:i<aJ):T.ready (i:Int)=0:=by
 unfold St.ready;rw[hI.dead,if_neg Bool.false_ne_true,hI.len,if_neg ay]
theorem SI.ng(hI:SI aJ L B S st T m)(i:Nat):T.ng (i:Int)=T.stands.getD i 0:=by unfold St.ng;rw[Int.toNat_natCast]
theorem SI.EO(hI:SI aJ L B S st T m){i:Nat}(hi:i<aJ)(hm:m i=none):eG S T (i:Int)=(⟨5,[],0⟩,T)∧T.ng (i:Int)<0:=by
 have h1:=(hI.none_ i hi hm).1;have h2:T.ng (i:Int)<0:=by rw[hI.ng,h1];decide
 refine⟨?_,h2⟩;unfold eG;rw[hI.ready hi,if_neg (fun h=>h rfl),if_pos h2]
theorem SI.ER(hI:SI aJ L B S st T m)(hu:S.up=true){i:Nat}(hi:i<aJ){v:List Nat}(hm:m i=some v):(∃N:Nat,((∀k,S.bK k=none)→N=0)∧eG S T (i:Int)=(⟨0,v,N⟩,T))∧0≤T.ng (i:Int):=by
 obtain⟨h,h1,h2,h3⟩:=hI.some_ i hi v hm;have dJ:=hI.ci.stat _ h1.lo h1.hi h1.un;rw[h1.st] at dJ;obtain⟨N,h4,h5⟩:=read_holds hI.ci.aU hu ⟨h1.lo,h1.hi⟩ h1.un (fun p=>hI.ci.few _) (hI.ready hi) (hI.ng i) dJ;exact⟨⟨N,fun hw=>h4 (fun p=>hw _),h5⟩,by rw[hI.ng];exact h1.lo⟩
theorem ahg{g:bL}{i0:Nat}{d:List Nat}{n:Int}(hd:(d.length:Int)≤g.cap)(hi:i0<64)(hn:1≤n∧n≤1000000000):Hd.may g ⟨(i0:Nat),(d.length:Nat),n⟩=true:=by
 unfold Hd.may bL.fits;simp only[Bool.and_eq_true,decide_eq_true_eq];exact⟨⟨⟨⟨⟨by omega,hd⟩,by omega⟩,by omega⟩,hn.1⟩,hn.2⟩
theorem P7{i0:Nat}(OX:i0<aJ)(hL:i0<L)(Vx:i0<64){d:List Nat}(h8:aB 256 d):∀(cs:List Int) (S:aD) (T:St),SI aJ L B S st T m→S.up=true→(d.length:Int)≤S.g.cap→cs.Nodup→(∀b∈cs,0≤b∧b<S.g.bl∧S.marked b=false∧b∉T.stands)→T.next+cs.length≤1000000000 →
 (jD (i0:Int) d cs S T).1.g=S.g∧(jD (i0:Int) d cs S T).1.fH=S.fH∧Wr S (jD (i0:Int) d cs S T).1∧(S.left=0→(jD (i0:Int) d cs S T).1.left=0∧(jD (i0:Int) d cs S T).2.2≠some 70)∧(jD (i0:Int) d cs S T).2.1.next≤T.next+cs.length+1 ∧
 ((jD (i0:Int) d cs S T).2.2≠some 70→∀c,(jD (i0:Int) d cs S T).1.marked c=true→S.marked c=true∨S.fH c=true) ∧
 (((jD (i0:Int) d cs S T).2.2=none∧(jD (i0:Int) d cs S T).1.up=true∧SI aJ L B (jD (i0:Int) d cs S T).1 st (jD (i0:Int) d cs S T).2.1 m∧∀b∈cs,S.fH b=true) ∨
  ((jD (i0:Int) d cs S T).2.2=some 0∧(jD (i0:Int) d cs S T).1.up=true∧∃st',SI aJ L (B+1) (jD (i0:Int) d cs S T).1 st' (jD (i0:Int) d cs S T).2.1 (m.put i0 (some d))) ∨
  ((jD (i0:Int) d cs S T).2.2=some 70∧(jD (i0:Int) d cs S T).1.up=false∧∃st',XV (jD (i0:Int) d cs S T).1 st' (T.next+cs.length+1)∧(CM aJ L (jD (i0:Int) d cs S T).1 st' m∨CM aJ L (jD (i0:Int) d cs S T).1 st' (m.put i0 (some d)))))
 | [],S,T,hI,hu,hd,wC,p8,ZL=>⟨rfl,rfl,Wr.refl S,fun h=>⟨h,by intro h;cases h⟩,by show T.next≤T.next+(0:Nat)+1;omega,fun _ c h=> .inl h,.inl ⟨rfl,hu,hI,fun b hb=>by cases hb⟩⟩
 | b::bs,S,T,hI,hu,hd,wC,p8,ZL=>by
  obtain⟨Hr,tX,hb3,hb4⟩:=p8 b (.head _);have hnb:=hI.next;rw[length_cons] at ZL ⊢;obtain⟨w1,w2,w3,w4,w5⟩:=UZ (num:=T.next) (aV:=(i0:Int)) hI.ci.aU hu ⟨Hr,tX⟩ hb3 hI.ci.len h8 (ahg hd Vx ay);obtain⟨W,hW⟩:∃W,W=dK S T.next b (i0:Int) d:=⟨_,rfl⟩;rw[←hW] at w1 w2 w3 w4 w5;have aR:D6 (i0:Int) d S T b=if W.2=72 then (W.1,{ T.forget b with next:=min (T.next+1) 1000000001 },if 1000000000<min (T.next+1) 1000000001 then some 6 else none) else if W.2≠0 then (W.1,(T.forget b).told W.2,some W.2) else (W.1,((T.forget b).mark (i0:Int)).done (i0:Int) b S.g.bl,some 0):=by
   unfold D6;rw[←hW]
  have hmk:W.1.marked b=false∨W.2=72→∀c,W.1.marked c=true→S.marked c=true∨S.fH c=true:=fun h c hc=>by
   by_cases BX:c=b
   ·subst BX;rcases h with h | h
    ·rw[h] at hc;cases hc
    ·cases hwk:S.fH c with
     | true=>exact .inr rfl
     | false=>exact absurd h (w4 hwk)
   ·rw[w1.marked c BX] at hc;exact .inl hc
  rcases w5 with ⟨a1,a2,a3,a4⟩ | ⟨a1,a2,a3⟩ | ⟨a1,a2,a3⟩
  ·have e1:jD (i0:Int) d (b::bs) S T=(W.1,((T.forget b).mark (i0:Int)).done (i0:Int) b S.g.bl,some 0):=by
    have bB:D6 (i0:Int) d S T b=(W.1,((T.forget b).mark (i0:Int)).done (i0:Int) b S.g.bl,some 0):=by
     rw[aR,if_neg (show ¬W.2=72 by rw[a1];exact E5),if_neg (show ¬W.2≠0 from fun h=>h a1)]
    rw[jD,bB,if_neg (by intro h;cases h)]
   rw[e1];obtain⟨st',ac7⟩:∃st':Int→Kr,st'=fun k=>if k=b then some (⟨(i0:Nat),(d.length:Nat),T.next⟩,true,d) else st k:=⟨_,rfl⟩
   refine⟨w1.g,w1.fH,w2,fun h=>⟨(w3 h).1,by intro h;cases h⟩, ?_,fun _=>hmk (.inl a3),.inr (.inl ⟨rfl,a2,st', ?_⟩)⟩
   ·have :(((T.forget b).mark (i0:Int)).done (i0:Int) b S.g.bl).next=T.next+1:=by
     show ((T.forget b).mark (i0:Int)).next+1=_;unfold St.mark;split<;>rfl
    show (((T.forget b).mark (i0:Int)).done (i0:Int) b S.g.bl).next≤_;omega
   ·exact hI.put w1 w2 (fun k hk=>by rw[ac7];exact if_neg hk) (by rw[ac7];exact if_pos rfl) a4 hb4 ⟨Hr,tX⟩ a3 OX hL rfl rfl
  ·have hmn:min (T.next+1) 1000000001=T.next+1:=by omega
   have e1:jD (i0:Int) d (b::bs) S T=jD (i0:Int) d bs W.1 { T.forget b with next:=T.next+1 }:=by
    have bB:D6 (i0:Int) d S T b=(W.1,{ T.forget b with next:=T.next+1 },none):=by
     rw[aR,if_pos a1,hmn,if_neg (show ¬1000000000<T.next+1 by omega)]
    rw[jD,bB,if_pos rfl]
   rw[e1];have hI':=hI.fail w1 w2 a3 hb4 (n:=T.next+1) ay;have aac:=nodup_cons.1 wC;obtain⟨r1,r2,r3,r4,r5,r6,r7⟩:=P7 OX hL Vx h8 bs W.1 { T.forget b with next:=T.next+1 } hI' a2 (by rw[w1.g];exact hd) aac.2 (fun c hc=>by
    obtain⟨k1,k2,k3,k4⟩:=p8 c (.tail _ hc);exact⟨k1,by rw[w1.g];exact k2,by rw[w1.marked c (fun e=>aac.1 (by rw[←e];exact hc))];exact k3,k4⟩) (by show T.next+1+_≤_;omega)
   have r5':(jD (i0:Int) d bs W.1 { T.forget b with next:=T.next+1 }).2.1.next≤T.next+1+(bs.length:Int)+1:=r5;refine⟨r1.trans w1.g,r2.trans w1.fH,w2.trans r3,fun h=>r4 (w3 h).1,by omega,fun h c hc=> ?_, ?_⟩
   ·rcases r6 h c hc with h1 | h1
    ·exact hmk (.inr a1) c h1
    ·rw[w1.fH] at h1;exact .inr h1
   ·rcases r7 with ⟨q1,q2,q3,q4⟩ | q | q
    ·refine .inl ⟨q1,q2,q3,fun c hc=> ?_⟩;rcases mem_cons.1 hc with rfl | hc
     ·cases hwk:S.fH c with
      | true=>rfl
      | false=>exact absurd a1 (w4 hwk)
     ·have :=q4 c hc;rw[w1.fH] at this;exact this
    ·exact .inr (.inl q)
    ·obtain⟨q1,q2,st',q3,q4⟩:=q;exact .inr (.inr ⟨q1,q2,st',q3.mono (by show T.next+1+(bs.length:Int)+1≤_;omega),q4⟩)
  ·have e1:jD (i0:Int) d (b::bs) S T=(W.1,(T.forget b).told W.2,some 70):=by
    have bB:D6 (i0:Int) d S T b=(W.1,(T.forget b).told W.2,some 70):=by
     rw[aR,if_neg (show ¬W.2=72 by rw[a1];exact Bj),if_pos (show W.2≠0 by rw[a1];decide),a1]
    rw[jD,bB,if_neg (by intro h;cases h)]
   rw[e1];refine⟨w1.g,w1.fH,w2,fun h=>absurd a1 (w3 h).2,by show T.next≤_;omega,fun h=>absurd rfl h,.inr (.inr ⟨rfl,a2, ?_⟩)⟩;have gone:∀st':Int→Kr,(∀k,k≠b→st' k=st k)→(W.1.marked b=false→W.1.Stat b (st' b))→(∀h d,¬Live W.1 st' b h d)→CM aJ L W.1 st' m:=fun st' h1 h2 h3=>CM.gone hI w1 w2 h1 h2 h3 hb4;have nb:∀st':Int→Kr,(∀k,k≠b→st' k=st k)→(∀h w d,W.1.marked b=false→st' b=some (h,w,d)→h.num≤T.next)→XV W.1 st' (T.next+((bs.length+1:Nat):Int)+1):=fun st' h1 h2 c k1 k2 k3 h w d hs=>by
    by_cases hc:c=b
    ·subst hc;have :=h2 h w d k3 hs;omega
    ·have :=hI.num c k1 (by rw[←w1.g];exact k2) (by rw[←w1.marked c hc];exact k3) h w d (by rw[←h1 c hc];exact hs);omega
   rcases a3 with a3 | ⟨a3,a4⟩
   ·exact⟨st,nb st (fun _ _=>rfl) (fun h w d h1=>by rw[a3] at h1;cases h1),.inl (gone st (fun _ _=>rfl) (fun h=>by rw[a3] at h;cases h) (fun h d hl=>by have :=hl.un;rw[a3] at this;cases this))⟩
   ·rcases a4 with ⟨a4,a5⟩ | a4 | a4 | a4
    ·refine⟨st,nb st (fun _ _=>rfl) (fun h w d _ h1=>by have :=hI.num b Hr tX hb3 h w d h1;omega),.inl ?_⟩;have GI:∀p,W.1.aW (b,p)=S.aW (b,p):=fun p=>by rw[a4]
     have hci:=hI.ci.step w1 w2 (st':=st) (fun _ _=>rfl) (fun _=>Stat.same w1.g GI (hI.ci.stat b Hr tX hb3));have hbk:∀ {c h d},Live W.1 st c h d→Live S st c h d:=fun {c h d} hl=>by
      by_cases BX:c=b
      ·subst BX;exact⟨Hr,tX,hb3,hl.st⟩
      ·exact hl.back w1 (fun _ _=>rfl) BX
     refine⟨hci,fun c h d hl=>hI.low c h d (hbk hl),fun c c' h h' d d' k1 k2=>hI.uniq c c' h h' d d' (hbk k1) (hbk k2),fun i hi hm c h d hl=>(hI.none_ i hi hm).2 c h d (hbk hl),fun i hi v hm=> ?_⟩;obtain⟨h,h1,h2,h3⟩:=hI.some_ i hi v hm;exact⟨_,h,h1.on w1 (fun _ _=>rfl) (hI.Zn hi hb4),h2,fun c h' v' k1 k2 k3=>(h3 c h' v' (hbk k1) k2 k3).1⟩
    ·refine⟨fun k=>if k=b then none else st k,nb _ (fun k hk=>if_neg hk) (fun h w d _ h1=>by rw[if_pos rfl] at h1;cases h1),.inl (gone _ (fun k hk=>if_neg hk) (fun _=> ?_) (fun h d hl=> ?_))⟩
     ·rw[if_pos rfl];exact a4
     ·have :=hl.st;rw[if_pos rfl] at this;cases this
    ·refine⟨fun k=>if k=b then some (⟨(i0:Nat),(d.length:Nat),T.next⟩,false,d) else st k,nb _ (fun k hk=>if_neg hk) (fun h w d _ h1=>by rw[if_pos rfl] at h1;injection h1 with h1;injection h1 with h1 _;rw[←h1];exact Int.le_refl _),.inl (gone _ (fun k hk=>if_neg hk) (fun _=> ?_) (fun h d hl=> ?_))⟩
     ·rw[if_pos rfl];exact a4
     ·have :=hl.st;rw[if_pos rfl] at this;injection this with this
      injection this with _ this
      injection this with this _
      cases this
    ·exact⟨fun k=>if k=b then some (⟨(i0:Nat),(d.length:Nat),T.next⟩,true,d) else st k,nb _ (fun k hk=>if_neg hk) (fun h w d _ h1=>by rw[if_pos rfl] at h1;injection h1 with h1;injection h1 with h1 _;rw[←h1];exact Int.le_refl _),.inr (CM.put hI w1 w2 (fun k hk=>if_neg hk) (if_pos rfl) a4 hb4 ⟨Hr,tX⟩ a3 OX hL rfl rfl)⟩
end
end aD
theorem Sy(x y:Int):uy x y<0↔x<y:=by grind [uy]
theorem JH(x y:Fd):qV x y<0↔x.hd.num<y.hd.num∨(x.hd.num=y.hd.num∧y.block<x.block):=by
 have h1:=Sy x.hd.num y.hd.num;have h2:=Sy y.block x.block;unfold qV orI;by_cases h:uy x.hd.num y.hd.num=0
 ·rw[if_neg (fun hh=>hh h),h2];have :x.hd.num=y.hd.num:=by
   unfold uy at h;split at h
   ·exact absurd h aK
   ·split at h
    ·exact absurd h aK
    ·omega
  omega
 ·rw[if_pos h,h1];have :x.hd.num≠y.hd.num:=fun e=>h (by unfold uy;rw[e];simp);omega
theorem Tz(ys:List Fd):(eT (jZ qV) ys).Pairwise (fun a b=>jZ qV b a=false):=by
 refine N9 (fun a b c h1 h2=> ?_) (fun a b h=> ?_) ys
 ·unfold jZ at *
  rw[decide_eq_false_iff_not,JH] at *
  omega
 ·unfold jZ at *
  rw[decide_eq_true_eq] at h;rw[decide_eq_false_iff_not];rw[JH] at *
  omega
theorem Sq{fs:List Fd}:∀k,k<fs.length→∀j,j≤k→(fs.getD j J4).hd.num≤(xQ KL fs k).hd.num
 | 0,_,j,hj=>by
  rw[show j=0 by omega];exact Int.le_refl _
 | k+1,hk,j,hj=>by
  have ih:=fun i hi=>Sq (fs:=fs) k ay i hi;have hcm:∀x y:Fd,0<KL x y↔y.hd.num<x.hd.num:=fun x y=>by
   unfold KL uy;split
   ·simp;omega
   ·split<;>simp<;>omega
  rw[xQ];by_cases hc:0<KL (fs.getD (k+1) J4) (xQ KL fs k)
  ·rw[if_pos hc];have :=(hcm _ _).1 hc;by_cases hjk:j=k+1
   ·rw[hjk];exact Int.le_refl _
   ·have :=ih j ay;omega
  ·rw[if_neg hc];have h1:¬(xQ KL fs k).hd.num<(fs.getD (k+1) J4).hd.num:=fun h=>hc ((hcm _ _).2 h);by_cases hjk:j=k+1
   ·rw[hjk];omega
   ·exact ih j ay
theorem aco{fs:List Fd}:∀x∈fs,x.hd.num<qg fs:=fun x hx=>by
 obtain⟨j,hj,rfl⟩:=getElem_of_mem hx;have :=Sq (fs:=fs) (fs.length-1) ay j ay;unfold qg;rw[if_neg ay];simp only[getD,getElem?_eq_getElem hj,Option.getD_some] at this;omega
namespace aD
section
variable{aJ L:Nat}{S:aD}{st:Int→Kr}{m:Lm}
theorem vZ{S:aD}(hu:S.up=true):∀(k:Nat) (b:Int),b∈S.fK k↔0≤b∧b<(k:Int)∧S.marked b=false
 | 0,b=>by
  simp[fK];omega
 | k+1,b=>by
  have ih:=vZ hu k b;have hb:S.bad (k:Int)=S.marked (k:Int):=by unfold bad;rw[hu];rfl
  rw[fK,hu,hb];cases hm:S.marked (k:Int) with
  | true =>
   rw[if_neg aK,ih];constructor
   ·rintro⟨h1,h2,h3⟩;exact⟨h1,by omega,h3⟩
   ·rintro⟨h1,h2,h3⟩;refine⟨h1, ?_,h3⟩;have :b≠(k:Int):=fun e=>by rw[e,hm] at h3;cases h3
    omega
  | false =>
   rw[if_pos aK,mem_append,ih,mem_singleton];constructor
   ·rintro (⟨h1,h2,h3⟩ | rfl)
    ·exact⟨h1,by omega,h3⟩
    ·exact⟨by omega,by omega,hm⟩
   ·rintro⟨h1,h2,h3⟩;by_cases e:b=(k:Int)
    ·exact .inr e
    ·exact .inl ⟨h1,by omega,h3⟩
theorem sZ(S:aD):∀k,(S.fK k).Pairwise (· < ·)
 | 0=>Pairwise.nil
 | k+1=>by
  rw[fK];split
  ·refine pairwise_append.2 ⟨sZ S k,pairwise_singleton _ _,fun a ha b hb=> ?_⟩;rw[mem_singleton.1 hb];exact (rD S k a ha).2.1
  ·exact sZ S k
theorem Ia(hc:CI S st)(hu:S.up=true){b:Int}(h0:0≤b)(h1:b<S.g.bl)(hm:S.marked b=false):S.ku b=(st b).map fun x=>⟨b,x.1,x.2.1⟩:=by
 have h2:=hc.stat b h0 h1 hm;have hf:∀p:Nat,S.Zd (b,(p:Int)):=fun p=>hc.few _;cases hs:st b with
 | none=>rw[hs] at h2;exact X5 hc.aU hf h2
 | some x =>
  obtain⟨h,w,d⟩:=x;rw[hs] at h2;cases w with
  | true=>exact scan_holds hc.aU hu ⟨h0,h1⟩ hm hf h2
  | false=>exact YV hc.aU hu ⟨h0,h1⟩ hm hf h2
theorem JK(hc:CI S st)(hu:S.up=true)(x:Fd):x∈S.dU↔0≤x.block∧x.block<S.g.bl∧S.marked x.block=false∧∃d,st x.block=some (x.hd,x.whole,d):=by
 have wS:=hc.aU;unfold bL.aU at wS;unfold dU iF;rw[mem_filterMap];constructor
 ·rintro⟨b,hb,hs⟩;obtain⟨h1,h2,h3⟩:=(vZ hu _ _).1 hb;rw[Ia hc hu h1 ay h3] at hs;cases dJ:st b with
  | none=>rw[dJ] at hs;cases hs
  | some y =>
   rw[dJ] at hs;injection hs with hs
   subst hs;exact⟨h1,by show b<_;omega,h3,y.2.2,dJ⟩
 ·rintro⟨h1,h2,h3,d,dJ⟩;refine⟨x.block,(vZ hu _ _).2 ⟨h1,by omega,h3⟩, ?_⟩;rw[Ia hc hu h1 h2 h3,dJ];rfl
theorem TJ(hc:CI S st)(hu:S.up=true):S.dU.Nodup:=by
 have h1:S.dU.Pairwise (fun x y=>x.block<y.block):=by
  unfold dU;rw[pairwise_filterMap];refine (sZ S _).imp (fun {a b} hab x hx y hy=> ?_);rw[(yE hc.aU hx).1,(yE hc.aU hy).1];exact hab
 exact h1.imp fun {a b} h e=>by rw[e] at h;omega
theorem Z9{l:List Fd}{x:Fd}(h:l.getLast? =some x):wK l=x.block:=by unfold wK;rw[h]
theorem IK{fs:List Fd}{i:Nat}(hi:i<aJ):(lF aJ fs).getD i 0=wK (eT (jZ qV) (fs.filter (nR i))):=by grind [lF,jm,getD,getElem?_range]
theorem MG{fs:List Fd}{i:Nat}(hi:i<aJ):(rE aJ fs).getD i []=(eT (jZ aaK) (eT (jZ qV) (fs.filter (nR i))).dropLast).map Fd.block:=by grind [rE,jm,getD,getElem?_range]
theorem VZ(hM:CM aJ L S st m)(hu:S.up=true):SI aJ L 256 S st (qj S aJ) m:=by
 have hc:=hM.ci;have wS:=hc.aU;unfold bL.aU at wS;have ZB:=F5 (S:=S) hc.aU;have hnb:=PV (fs:=S.dU) (fun x hx=>Hd.Ud (ZB x hx).2);have wD:∀i x,x∈eT (jZ qV) (S.dU.filter (nR i))↔∃d,Live S st x.block x.hd d∧x.whole=true∧x.hd.aV=(i:Nat):=fun i x=>by
  rw[y5,mem_filter,JK hc hu];unfold nR;rw[Bool.and_eq_true,decide_eq_true_eq];constructor
  ·rintro⟨⟨h1,h2,h3,d,h4⟩,h5,h6⟩;exact⟨d,⟨h1,h2,h3,by rw[h4,h5]⟩,h5,h6⟩
  ·rintro⟨d,h1,h2,h3⟩;exact⟨⟨h1.lo,h1.hi,h1.un,d,by rw[h1.st,h2]⟩,h2,h3⟩
 have wC:∀i,(eT (jZ qV) (S.dU.filter (nR i))).Nodup:=fun i=>(II _).nodup_iff.2 ((TJ hc hu).filter _);have amW:∀i,(qj S aJ).dN.getD i []=(rE aJ S.dU).getD i []:=fun i=>rfl;have afX:∀i,i<aJ→∀x:Int,x∈(qj S aJ).dN.getD i []↔∃z,z∈(eT (jZ qV) (S.dU.filter (nR i))).dropLast∧z.block=x:=fun i hi x=>by
  rw[amW,MG hi,mem_map];constructor
  ·rintro⟨z,hz,e⟩;exact⟨z,y5.1 hz,e⟩
  ·rintro⟨z,hz,e⟩;exact⟨z,y5.2 hz,e⟩
 have ale:∀ {b h h' d d'},Live S st b h d→Live S st b h' d'→h=h':=fun k1 k2=>by
  have :=k1.st;rw[k2.st] at this;injection this with this
  injection this with e _
  exact e.symm
 have af6:∀i,i<aJ→∀x,(eT (jZ qV) (S.dU.filter (nR i))).getLast? =some x→(qj S aJ).stands.getD i 0=x.block:=fun i hi x hx=>by
  show (lF aJ S.dU).getD i 0=_;rw[IK hi,Z9 hx]
 refine⟨hc,hM.low,hM.uniq,rfl,nE _ _,tq _ _,⟨Int.le_refl _,by show (0:Int)<_;omega⟩,hnb.1,fun b h1 h2 h3 h w d hs=> ?_,fun l hl=> ?_,fun i hi hm=>⟨?_,hM.none_ i hi hm⟩,fun i hi v hm=> ?_,fun i hi x hx=> ?_⟩
 ·exact aco ⟨b,h,w⟩ ((JK hc hu _).2 ⟨h1,h2,h3,d,hs⟩)
 ·obtain⟨i,hi,e⟩:=getElem_of_mem (show l∈rE aJ S.dU from hl);have Gb:i<aJ:=by rw[tq] at hi;exact hi
  have e2:(rE aJ S.dU).getD i []=l:=by simp only[getD,getElem?_eq_getElem hi,Option.getD_some];exact e
  rw[←e2,MG Gb,length_map,iO,length_dropLast,iO];have h1:=length_filter_le (nR i) S.dU;have h2:S.dU.length≤S.iF.length:=length_filterMap_le _ _;have h3:=jN S S.g.bl.toNat;unfold iF at h2;omega
 ·show (lF aJ S.dU).getD i 0= -1;rw[IK hi];cases hs:eT (jZ qV) (S.dU.filter (nR i)) with
  | nil=>rfl
  | cons x xs =>
   obtain⟨d,h1,_,h3⟩:=(wD i x).1 (by rw[hs];exact .head _);exact absurd h3 (hM.none_ i hi hm _ _ _ h1)
 ·obtain⟨b,h,h1,h2,h3⟩:=hM.some_ i hi v hm;have hy:(⟨b,h,true⟩:Fd)∈eT (jZ qV) (S.dU.filter (nR i)):=(wD i _).2 ⟨v,h1,rfl,h2⟩;obtain⟨x,hx⟩:∃x,(eT (jZ qV) (S.dU.filter (nR i))).getLast? =some x:=by
   cases hl:(eT (jZ qV) (S.dU.filter (nR i))).getLast? with
   | none=>rw[getLast?_eq_none_iff.1 hl] at hy;cases hy
   | some x=>exact⟨x,rfl⟩
  have uQ:eT (jZ qV) (S.dU.filter (nR i))=(eT (jZ qV) (S.dU.filter (nR i))).dropLast++[x]:=by
   obtain⟨ys,e⟩:=getLast?_eq_some_iff.1 hx;rw[e,dropLast_concat]
  obtain⟨d,hx1,hx2,hx3⟩:=(wD i x).1 (mem_of_getLast? hx);have Vs:=Tz (S.dU.filter (nR i));rw[uQ] at Vs hy;have hxb:x.block=b:=by
   rcases mem_append.1 hy with hy | hy
   ·have h4:=(pairwise_append.1 Vs).2.2 _ hy x (.head _);unfold jZ at h4;rw[decide_eq_false_iff_not,JH] at h4;by_cases e:x.block=b
    ·exact e
    ·have :=h3 _ _ _ hx1 hx3 e;exact absurd (.inl this) h4
   ·rw[←mem_singleton.1 hy]
  rw[af6 i hi x hx,hxb];refine⟨h,h1,h2,fun c h' v' k1 k2 k3=>⟨h3 c h' v' k1 k2 k3, ?_⟩⟩;refine (afX i hi c).2 ⟨⟨c,h',true⟩, ?_,rfl⟩;have hz:(⟨c,h',true⟩:Fd)∈eT (jZ qV) (S.dU.filter (nR i)):=(wD i _).2 ⟨v',k1,rfl,k2⟩;rw[uQ] at hz;rcases mem_append.1 hz with hz | hz
  ·exact hz
  ·exfalso;have :=mem_singleton.1 hz;rw[←this] at hxb;exact k3 hxb
 ·obtain⟨z,hz,rfl⟩:=(afX i hi x).1 hx;obtain⟨d,JX,hz2,hz3⟩:=(wD i z).1 (dropLast_subset _ hz);refine⟨JX.lo,JX.hi,fun h4=> ?_⟩;obtain⟨j,hj,e⟩:=getElem_of_mem h4;have zU:j<aJ:=by
   have h5:j<(lF aJ S.dU).length:=hj;rw[nE] at h5;exact h5
  have e2:(qj S aJ).stands.getD j 0=z.block:=by simp only[getD,getElem?_eq_getElem hj,Option.getD_some];exact e
  cases hl:(eT (jZ qV) (S.dU.filter (nR j))).getLast? with
  | none =>
   have e3:(qj S aJ).stands.getD j 0= -1:=by
    show (lF aJ S.dU).getD j 0=_;rw[IK zU];unfold wK;rw[hl]
   have :=JX.lo;omega
  | some y =>
   rw[af6 j zU y hl] at e2;obtain⟨d',hy1,SV,hy3⟩:=(wD j y).1 (mem_of_getLast? hl);rw[e2] at hy1;have e3:=ale hy1 JX;have Xj:i=j:=by rw[e3] at hy3;omega
   subst Xj;have e4:y=z:=by
    obtain⟨yb,yh,yw⟩:=y;obtain⟨zb,zh,zw⟩:=z;dsimp only at e2 e3 SV hz2;rw[e2,e3,SV,hz2]
   have hnn:=wC i;obtain⟨ys,e5⟩:=getLast?_eq_some_iff.1 hl;rw[e5] at hz hnn;rw[dropLast_concat] at hz;rw[e4] at hnn;have :=(nodup_append.1 hnn).2.2 z hz z (.head _);exact this rfl
end
end aD
theorem XD{T:St}{e:Int}(h:e≠70):T.told e=T:=by simp_all [St.told,decide_eq_false,Bool.or_false]
def acQ:aD×St×Option Int→aD×St×Int
 | (S',T',some e)=>(S',T',e)
 | (S',T',none)=>(S',T'.told (if S'.oW=70 then 70 else 6),if S'.oW=70 then 70 else 6)
theorem ajt:(6:Int)≠70:=by decide
namespace aD
section
variable{aJ L B:Nat}{S:aD}{st:Int→Kr}{T:St}{m:Lm}
theorem ab3(hI:SI aJ L B S st T m)(hu:S.up=true):(ko S.iF T.stands T.at_ S.g.bl S.g.bl.toNat 0).Nodup∧(ko S.iF T.stands T.at_ S.g.bl S.g.bl.toNat 0).length≤S.g.bl.toNat ∧
 ∀ b,b∈ko S.iF T.stands T.at_ S.g.bl S.g.bl.toNat 0↔0≤b∧b<S.g.bl∧S.marked b=false∧b∉T.stands:=by
 have wS:=hI.ci.aU;unfold bL.aU at wS;have ha:=hI.at_;have SX:∀b,b∈S.iF↔0≤b∧b<S.g.bl∧S.marked b=false:=fun b=>by
  unfold iF;rw[vZ hu,Int.toNat_of_nonneg ay]
 unfold ko;refine⟨?_, ?_,fun b=> ?_⟩
 ·refine Pairwise.filter _ ?_;rw[pairwise_map];refine (nodup_range' (n:=S.g.bl.toNat-0)).imp_of_mem ?_;intro i j hi hj Xj e;rw[mem_range'_1] at hi hj;have h1:=Int.emod_add_mul_ediv (T.at_+(i:Int)) S.g.bl;have h2:=Int.emod_add_mul_ediv (T.at_+(j:Int)) S.g.bl;rw[e] at h1;have h3:S.g.bl*((T.at_+(i:Int))/S.g.bl-(T.at_+(j:Int))/S.g.bl)=(i:Int)-(j:Int):=by rw[Int.mul_sub];omega
  have h4:(T.at_+(i:Int))/S.g.bl-(T.at_+(j:Int))/S.g.bl=0:=by
   have a1: -S.g.bl<(i:Int)-(j:Int):=ay;have a2:(i:Int)-(j:Int)<S.g.bl:=ay;rw[←h3] at a1 a2;have b1: -1<(T.at_+(i:Int))/S.g.bl-(T.at_+(j:Int))/S.g.bl:=Int.lt_of_mul_lt_mul_left (a:=S.g.bl) ay ay;have b2:(T.at_+(i:Int))/S.g.bl-(T.at_+(j:Int))/S.g.bl<1:=Int.lt_of_mul_lt_mul_left (a:=S.g.bl) ay ay;omega
  rw[h4,Int.mul_zero] at h3;omega
 ·refine Nat.le_trans (length_filter_le _ _) ?_;rw[length_map,length_range'];omega
 ·rw[mem_filter,decide_eq_true_eq,SX,mem_map];constructor
  ·rintro⟨_,h1,h2⟩;exact⟨h1.1,h1.2.1,h1.2.2,h2⟩
  ·rintro⟨h1,h2,h3,h4⟩;refine⟨⟨((b-T.at_)%S.g.bl).toNat, ?_, ?_⟩,⟨h1,h2,h3⟩,h4⟩
   ·have a1:=Int.emod_nonneg (b-T.at_) (show S.g.bl≠0 by omega);have a2:=Int.emod_lt_of_pos (b-T.at_) (show 0<S.g.bl by omega);rw[mem_range'_1];omega
   ·have a1:=Int.emod_nonneg (b-T.at_) (show S.g.bl≠0 by omega);rw[Int.toNat_of_nonneg a1,Int.add_emod_emod,show T.at_+(b-T.at_)=b by omega];exact Int.emod_eq_of_lt h1 h2
theorem P5(hI:SI aJ L B S st T m)(hu:S.up=true){i0:Nat}(OX:i0<aJ)(hL:i0<L)(Vx:i0<64){d:List Nat}(h8:aB 256 d)(hd:(d.length:Int)≤S.g.cap)(ZL:T.next+S.g.bl≤1000000000) :
 (bg S T (i0:Int) d).1.g=S.g∧(bg S T (i0:Int) d).1.fH=S.fH∧Wr S (bg S T (i0:Int) d).1∧(S.left=0→(bg S T (i0:Int) d).1.left=0∧(bg S T (i0:Int) d).2.2≠70)∧(bg S T (i0:Int) d).2.1.next≤T.next+S.g.bl+1 ∧
 ((bg S T (i0:Int) d).2.2≠70→∀c,(bg S T (i0:Int) d).1.marked c=true→S.marked c=true∨S.fH c=true) ∧
 (((bg S T (i0:Int) d).2.2=6∧(bg S T (i0:Int) d).1.up=true∧SI aJ L B (bg S T (i0:Int) d).1 st (bg S T (i0:Int) d).2.1 m∧∀b,0≤b→b<S.g.bl→S.marked b=false→b∉T.stands→S.fH b=true) ∨
  ((bg S T (i0:Int) d).2.2=0∧(bg S T (i0:Int) d).1.up=true∧∃st',SI aJ L (B+1) (bg S T (i0:Int) d).1 st' (bg S T (i0:Int) d).2.1 (m.put i0 (some d))) ∨
  ((bg S T (i0:Int) d).2.2=70∧(bg S T (i0:Int) d).1.up=false∧∃st',XV (bg S T (i0:Int) d).1 st' (T.next+S.g.bl+1)∧(CM aJ L (bg S T (i0:Int) d).1 st' m∨CM aJ L (bg S T (i0:Int) d).1 st' (m.put i0 (some d))))):=by
 have wS:=hI.ci.aU;unfold bL.aU at wS;obtain⟨c1,c2,c3⟩:=ab3 hI hu;obtain⟨cs,p8⟩:∃cs,cs=ko S.iF T.stands T.at_ S.g.bl S.g.bl.toNat 0:=⟨_,rfl⟩;rw[←p8] at c1 c2 c3;have BQ:(cs.length:Int)≤S.g.bl:=ay;obtain⟨r1,r2,r3,r4,r5,r6,r7⟩:=P7 OX hL Vx h8 cs S T hI hu hd c1 (fun b hb=>(c3 b).1 hb) ay;have e0:bg S T (i0:Int) d=acQ (jD (i0:Int) d cs S T):=by
  unfold bg;rw[hI.ready OX,if_neg (fun h=>h rfl),if_neg ay,if_neg ay,←p8];rfl
 obtain⟨X,hX⟩:∃X,X=jD (i0:Int) d cs S T:=⟨_,rfl⟩;rw[←hX] at e0;rw[←hX] at r1 r2 r3 r4 r5 r6 r7;obtain⟨S',T',r⟩:=X;dsimp only at r1 r2 r3 r4 r5 r6 r7;rcases r7 with ⟨rfl,q2,q3,q4⟩ | ⟨rfl,q2,q3⟩ | ⟨rfl,q2,q3⟩
 ·have hsc:S'.oW=0:=QG q3.ci.aU q2;have e1:bg S T (i0:Int) d=(S',T',6):=by
   rw[e0];unfold acQ;dsimp only;rw[hsc,if_neg aK,XD aK]
  rw[e1];exact⟨r1,r2,r3,fun h=>⟨(r4 h).1,ajt⟩,by show T'.next≤_;omega,fun _=>r6 (by intro h;cases h),.inl ⟨rfl,q2,q3,fun b h1 h2 h3 h4=>q4 b ((c3 b).2 ⟨h1,h2,h3,h4⟩)⟩⟩
 ·rw[e0];exact⟨r1,r2,r3,fun h=>⟨(r4 h).1,Lx⟩,by show T'.next≤_;omega,fun _=>r6 (by intro h;injection h with h;exact absurd h Lx),.inr (.inl ⟨rfl,q2,q3⟩)⟩
 ·rw[e0];exact⟨r1,r2,r3,fun h=>absurd rfl (r4 h).2,by show T'.next≤_;omega,fun h=>absurd rfl h,.inr (.inr ⟨rfl,q2,by obtain⟨st',k1,k2⟩:=q3;exact⟨st',k1.mono ay,k2⟩⟩)⟩
theorem Uj(hI:SI aJ L B S st T m)(hf:∀b,0≤b→b<S.g.bl→S.marked b=false→b∉T.stands→S.fH b=true) :
 ((List.range S.g.bl.toNat).filter fun (b:Nat)=> !S.marked (b:Int)&& !S.fH (b:Int)).length≤((List.range aJ).filter fun i=>(m i).isSome).length:=by
 have wS:=hI.ci.aU;unfold bL.aU at wS;have hlm:(((List.range aJ).filter fun i=>(m i).isSome).map fun i=>(T.stands.getD i 0).toNat).length=((List.range aJ).filter fun i=>(m i).isSome).length:=length_map _;rw[←hlm];refine Jj (Pairwise.filter _ nodup_range) (fun b hb=> ?_);obtain⟨h1,h2⟩:=mem_filter.1 hb;have h1:=mem_range.1 h1;simp only[Bool.and_eq_true,Bool.not_eq_true'] at h2;have h3:(b:Int)∈T.stands:=by
  by_cases h:(b:Int)∈T.stands
  ·exact h
  ·have :=hf (b:Int) ay ay h2.1 h;rw[this] at h2;cases h2.2
 obtain⟨i,hi,e⟩:=getElem_of_mem h3;have Gb:i<aJ:=by rw[hI.len] at hi;exact hi
 have e2:T.stands.getD i 0=(b:Int):=by simp only[getD,getElem?_eq_getElem hi,Option.getD_some];exact e
 refine mem_map.2 ⟨i,mem_filter.2 ⟨mem_range.2 Gb, ?_⟩,by rw[e2,Int.toNat_natCast]⟩;cases hm:m i with
 | none=>have :=(hI.none_ i Gb hm).1;omega
 | some v=>rfl
end
theorem CM.new{g:bL}{bad:List Int}(hg:g.aU)(aJ L:Nat):CM aJ L (aD.new g bad) (fun _=>none) (fun _=>none):=by
 have wS:=hg;unfold bL.aU at wS;have Ce:∀b h d,¬Live (aD.new g bad) (fun _=>none) b h d:=fun b h d hl=>by have :=hl.st;cases this
 refine⟨⟨hg, ?_,fun k w hw=>(by cases hw),fun b _ _ _ xs hx=>(by cases hx)⟩,fun b h d hl=>absurd hl (Ce _ _ _),fun b c h h' d d' hl=>absurd hl (Ce _ _ _),fun i _ _ b h d hl=>absurd hl (Ce _ _ _),fun i _ v hv=>by cases hv⟩;show ((replicate g.bl.toNat (0:Int)).length:Int)=g.bl;rw[length_replicate];omega
end aD
namespace aD
structure Core(aJ L i0:Nat)(sd:Nat→Int)(S:aD)(st:Int→Kr)(m:Lm):Prop where
 ci:CI S st
 low:∀b h d,Live S st b h d→h.aV<L
 uniq:∀b c h h' d d',Live S st b h d→Live S st c h' d'→h.aV=h'.aV→h.num=h'.num→b=c
 none_:∀i,i<aJ→i≠i0→m i=none→∀b h d,Live S st b h d→h.aV≠(i:Nat)
 some_:∀i,i<aJ→i≠i0→∀v,m i=some v→∃h,Live S st (sd i) h v∧h.aV=(i:Nat)∧∀c h' v',Live S st c h' v'→h'.aV=(i:Nat)→c≠sd i→h'.num<h.num
section
variable{aJ L B i0:Nat}{sd:Nat→Int}{S S':aD}{st st':Int→Kr}{T:St}{m:Lm}{x:Int}
end
end aD
namespace aD
structure Eqv(S S':aD):Prop where
 g:S'.g=S.g
 len:S'.next.length=S.next.length
 aW:S'.aW=S.aW
 few:(∀k,S.Zd k)→∀k,S'.Zd k
 marked:S'.marked=S.marked
theorem Eqv.of{S S':aD}(h1:S'.g=S.g)(h2:S'.next=S.next)(h3:S'.aW=S.aW)(h4:S'.bK=S.bK)(h5:S'.marked=S.marked):Eqv S S':=⟨h1,by rw[h2],h3,fun h k w hw=>by rw[h4] at hw;rw[h1];exact h k w hw,h5⟩
section
variable{aJ L B:Nat}{S S':aD}{st:Int→Kr}{T:St}{m:Lm}
theorem CI.eqv(h:CI S st)(e:Eqv S S'):CI S' st:=⟨by rw[e.g];exact h.aU,by rw[e.len,e.g];exact h.len,e.few h.few,fun b h1 h2 h3=>Stat.same e.g (fun p=>by rw[e.aW]) (h.stat b h1 (by rw[←e.g];exact h2) (by rw[←e.marked];exact h3))⟩
theorem Live.eqv{b:Int}{h:Hd}{d:List Nat}(hl:Live S' st b h d)(e:Eqv S S'):Live S st b h d:=⟨hl.lo,by rw[←e.g];exact hl.hi,by rw[←e.marked];exact hl.un,hl.st⟩
theorem Live.anN{b:Int}{h:Hd}{d:List Nat}(hl:Live S st b h d)(e:Eqv S S'):Live S' st b h d:=⟨hl.lo,by rw[e.g];exact hl.hi,by rw[e.marked];exact hl.un,hl.st⟩
theorem SI.eqv(h:SI aJ L B S st T m)(e:Eqv S S'):SI aJ L B S' st T m :=
 ⟨h.ci.eqv e,fun b hd d hl=>h.low b hd d (hl.eqv e),fun b c h1 h2 d1 d2 k1 k2=>h.uniq b c h1 h2 d1 d2 (k1.eqv e) (k2.eqv e),h.dead,h.len,h.ael,by rw[e.g];exact h.at_,h.next,fun b h1 h2 h3=>h.num b h1 (by rw[←e.g];exact h2) (by rw[←e.marked];exact h3),h.Vv,fun i hi hm=>⟨(h.none_ i hi hm).1,fun b hd d hl=>(h.none_ i hi hm).2 b hd d (hl.eqv e)⟩,fun i hi v hm=>by
  obtain⟨hd,h1,h2,h3⟩:=h.some_ i hi v hm;exact⟨hd,h1.anN e,h2,fun c h' v' k1 k2 k3=>h3 c h' v' (k1.eqv e) k2 k3⟩,fun i hi x hx=>by rw[e.g];exact h.ahi i hi x hx⟩
end
end aD
section
variable{bs bd bc:Nat}{g:bL}{C:Cw}{K:World}{F:List aA}
theorem LM(hg:g.aU):aL prog 15 #[g.v] K F (.i g.cap):=by
 have hr:=bL.jW hg;have BX:=bL.tO hg;have wS:=hg;unfold bL.aU at wS;have hq:(g.pg-1)*g.room=g.cap:=rfl;refine aC.en func15 ntmps15 ?_;refine aj "a&" fun b1=> ?_;refine aj "t~k~y~G~~@~~w" ?_;refine WQ.call (vs:=[_]) call60 ⟨ak rfl,trivial⟩ (Ig g hg _ _) rfl ?_;exact aj "~~P~m~g~D$" trivial
end
theorem abN{g:bL}{bad:List Int}(hg:g.aU):(aD.new g bad).dU=[]:=by
 rw[eq_nil_iff_forall_not_mem];intro x hx;obtain⟨_,_,_,d,h⟩:=(aD.JK (aD.CM.new (bad:=bad) hg 0 0).ci rfl x).1 hx;cases h
theorem XJ{g:bL}{bad:List Int}(hg:g.aU)(aJ:Nat):(qj (aD.new g bad) aJ).next=1:=by
 show qg (aD.new g bad).dU=1;rw[abN hg];rfl
def CZ(ss:List ByteArray)(i:Nat):List Nat:=gX (bytesOf (ss.getD i ByteArray.empty))
def RB(ss:List ByteArray)(i:Nat):Lm:=fun k=>if k<i then some (CZ ss k) else none
theorem XT(ss:List ByteArray)(i:Nat):(RB ss i).put i (some (CZ ss i))=RB ss (i+1):=by unfold Lm.put RB;grind
theorem Iw(ss:List ByteArray)(i:Nat):aB 256 (CZ ss i):=nI (oH _)
theorem E9(ss:List ByteArray)(i:Nat):(CZ ss i).length=(ss.getD i ByteArray.empty).size:=by grind [CZ,jO,bytesOf_length]
theorem abv(ss:List ByteArray)(i:Nat):strOfNums (bF (CZ ss i))=ss.getD i ByteArray.empty:=by
 have :bF (CZ ss i)=bytesOf (ss.getD i ByteArray.empty):=by
  unfold CZ bF gX;rw[map_map]
  conv=>rhs;rw[←map_id (bytesOf _)]
  apply map_congr_left;intro x hx;have :=oH _ x hx;show ((x.toNat:Nat):Int)=x;omega
 rw[this,Ko]
structure pJ(aJ L B:Nat)(N:Int)(S:aD)(T:St)(m:Lm):Prop where
 si:∃st,aD.SI aJ L B S st T m
 up:S.up=true
 left:S.left=0
 fH:∀b,S.fH b=false
 un:∀b,S.marked b=false
 bK:∀k,S.bK k=none
 next:T.next≤N
theorem pJ.change{aJ L B:Nat}{N:Int}{S:aD}{T:St}{m:Lm}(h:pJ aJ L B N S T m)(BQ:(aJ:Int)<S.g.bl)(h20:S.g.bl≤20)(hN:N≤1000000){i0:Nat}(OX:i0<aJ)(hL:i0<L)(Vx:i0<64){d:List Nat}(h8:aB 256 d)(hd:(d.length:Int)≤S.g.cap) :
 (bg S T (i0:Int) d).2.2=0∧(bg S T (i0:Int) d).1.g=S.g∧pJ aJ L (B+1) (N+21) (bg S T (i0:Int) d).1 (bg S T (i0:Int) d).2.1 (m.put i0 (some d)):=by
 obtain⟨st,hI⟩:=h.si;have ZL:=h.next;obtain⟨r1,r2,r3,r4,r5,r6,r7⟩:=aD.P5 hI h.up OX hL Vx h8 hd ay;rcases r7 with ⟨_,_,_,q4⟩ | ⟨q1,q2,q3⟩ | ⟨q1,_,_⟩
 ·exfalso;have h1:=aD.Uj hI q4;have h2:((List.range S.g.bl.toNat).filter fun (b:Nat)=> !S.marked (b:Int)&& !S.fH (b:Int)).length=S.g.bl.toNat:=by
   rw[filter_eq_self.2 (fun b _=>by rw[h.un,h.fH];rfl),length_range]
  have h3:=length_filter_le (fun i=>(m i).isSome) (List.range aJ);rw[length_range] at h3;omega
 ·refine⟨q1,r1,q3,q2,(r4 h.left).1,fun b=>by rw[r2];exact h.fH b,fun b=> ?_,r3.none h.bK,by omega⟩;cases hm:(bg S T (i0:Int) d).1.marked b with
  | false=>rfl
  | true =>
   rcases r6 (by rw[q1];exact Lx) b hm with h1 | h1
   ·rw[h.un] at h1;cases h1
   ·rw[h.fH] at h1;cases h1
 ·exact absurd q1 (r4 h.left).2
theorem pJ.new{g:bL}(hg:g.aU)(aJ:Nat):pJ aJ aJ 256 1 (aD.new g []) (qj (aD.new g []) aJ) (fun _=>none) :=
 ⟨⟨_,aD.VZ (aD.CM.new hg aJ aJ) rfl⟩,rfl,rfl,fun _=>rfl,fun _=>rfl,fun _=>rfl,by rw[XJ hg];exact Int.le_refl _⟩
theorem aa9{g:bL}(hg:g.aU){aJ:Nat}(hl:0<aJ):eG (aD.new g []) (qj (aD.new g []) aJ) 0=(⟨5,[],0⟩,qj (aD.new g []) aJ)∧(qj (aD.new g []) aJ).ng 0<0 :=
 (aD.VZ (aD.CM.new (bad:=[]) hg aJ aJ) rfl).EO (i:=0) hl rfl
theorem aeE{g:bL}(hg:g.aU){aJ:Nat}(hl:0<aJ):ni (aD.new g []) (qj (aD.new g []) aJ)=(bP.zero,0,qj (aD.new g []) aJ):=by simp_all [ni,aa9,if_neg]
theorem BK{g:bL}(hm:g.may=true)(h19:g.bl≤19)(K:World)(F:List aA):aC prog 14 #[g.v] K F
 (fun v H'=>∃(bc bd bs:Nat) (C:Cw) (T:cZ),C.Ok∧C.g=g∧C.aF=aD.new g []∧T.Ok g∧T.aF=qj C.aF 11∧v= .tuple #[ptr bc 0,ptr bs 0]∧H'=C.A bc::dH bd bc g::T.A bs bd g::F):=by
 refine aC.en func14 ntmps14 ?_;refine aj "a&" fun b1=> ?_;refine aj "mxG" ?_;refine WL.c2 call29 rfl rfl (aae g (l:=[]) Seq.nil aK) rfl ?_;rintro _ _ (⟨_,EX,bc,C0,ZO,s0,rfl,rfl⟩ | ⟨Ce,rfl,rfl⟩)
 rotate_left
 ·exact (Ce ⟨hm,fun x hx=>by simp at hx⟩).elim
 have g0:C0.g=g:=by rw[show C0.g=C0.aF.g from rfl,s0];rfl
 have u0:C0.aF.up=true:=by rw[s0];rfl
 refine aj "Cj" ?_;refine WL.c1 call30 rfl (Vh ZO g0) rfl ?_;rintro _ _ ⟨bd,rfl,rfl⟩;refine aj "Cj" ?_;refine WL.c2 call31 rfl rfl (Vj ZO g0 (aJ:=11) aK h19 (QG ZO.aU u0)) rfl ?_;rintro _ _ ⟨bs,T,hT,t0,rfl,rfl⟩;refine aj "CfscY~~vJcY~~vJbOZcD" ?_;exact aG.ret (H':=C0.A bc::dH bd bc g::T.A bs bd g::F) (bI.eY rfl rfl rfl) (fun w h=>h.aY 4 [0,1,2] rfl) ⟨bc,bd,bs,C0,T,ZO,g0,s0,hT,t0,rfl,rfl⟩
theorem yA(K:World)(F:List aA):aL prog 18 #[] K F (.bool true):=by
 have qm:(bL.mk 12 3 1 64 1).may=true:=by kernel_rfl
 refine aC.en func18 ntmps18 ?_;refine aj "ax" ?_;refine WL.t2 call23 rfl rfl (xA _ _ _ _) rfl ?_;refine aj "Cx" ?_;refine WL.t2 call23 rfl rfl (xA _ _ _ _) rfl ?_;refine aj "Cx" ?_;refine WL.t2 call23 rfl rfl (xA _ _ _ _) rfl ?_;refine aj "Cx" ?_;refine WL.t1 call24 rfl (Qp) rfl ?_;refine aj "!A" fun b7=> ?_;refine aj "Kx" ?_;refine WL.val (V.build (vs:=[(0,_),(1,_),(2,_),(3,_),(4,_)]) ⟨ak rfl,ak rfl,ak rfl,ak rfl,ak rfl,trivial⟩ rfl (Gv _ _ _ _ _)) rfl (WL.c1 call14 rfl (BK (g:=bL.mk 12 3 1 64 1) qm aK _ _) rfl ?_);rintro _ _ ⟨bc,bd,bs,C0,T0,ZO,g0,s0,hT0,t0,rfl,rfl⟩;have e0:ni C0.aF T0.aF=(bP.zero,0,T0.aF):=by rw[t0,s0];exact aeE (bL.rX qm) aK
 have WY:(T0.stands.length:Int)=11:=by
  have e1:T0.stands=lF 11 C0.aF.dU:=congrArg St.stands t0;rw[e1,nE];rfl
 refine aj "Cf~abOZ" ?_;refine WL.c3 call17 rfl rfl rfl (TV ZO g0 hT0 ay (by rw[e0];rfl) 0) rfl ?_;rintro _ _ ⟨T1,lU,t1,rfl,rfl⟩;rw[e0];refine aj "A" fun b11=> ?_;refine aj "Kbe%c8~EVc8~EVc8~EVc8~EVc8~EVc?=~EVc?=~EVd" ?_;exact qR F rfl rfl (fun w h=>h.aY 5 [] rfl) ⟨rfl,rfl⟩
theorem FU(g:bL)(K:World)(F:List aA):aL prog 13 #[g.v] K F (.bool (g.may&&decide (g.room≤128)&&decide (12≤g.bl)&&decide (g.bl≤16)&&decide (g.pg≤6))):=by
 refine aC.en func13 ntmps13 ?_;refine aj "a&" fun b1=> ?_;refine aj "xG" ?_;refine WL.t1 call59 rfl (YL g _ _) rfl ?_;refine WL.mv rfl rfl ?_;refine WL.bG (oj:=_) rfl rfl rfl GC.t (V.gG (vs:=[_,_,_,_,_]) ⟨isAgg23,sizeOf23⟩ (ak rfl) rfl (fun _=>Bn)) rfl ?_;refine WL.qh (oj:=_) (vs:=[_]) rfl rfl rfl GC.t call60 ⟨OV.g rfl id,trivial⟩ (fun hg=>Ig g (bL.rX (by simpa using hg)) _ _) rfl ?_;exact aj "~VVc?=~LVc?=~VVc?=~VVd$" trivial
end Go.Proofs.YtcedojacbhnbiaaGreat
