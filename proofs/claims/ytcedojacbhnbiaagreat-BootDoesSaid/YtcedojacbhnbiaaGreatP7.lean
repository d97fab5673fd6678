import Derived.Test.YtcedojacbhnbiaaGreatP6
import Derived.Scope
set_option autoImplicit true
set_option linter.all false
set_option maxHeartbeats 2000000
set_option maxRecDepth 20000
set_option relaxedAutoImplicit true
namespace Go.Proofs.YtcedojacbhnbiaaGreat
open Go.Sl Go.RowKit Tryz List Nat
theorem abI(hm:l.length=m)(h0:0<m):∀w,Sat K w (aV (.slice A m cap) 237 5 m (dF l)::F)→Sat K w (aV (.slice A (m-1) cap) 237 5 (m-1) (dF l.dropLast)::F):=fun w h=>by
 cases A with
 | none=>have :=(aV.yM h).1;omega
 | some a =>
  obtain⟨g,rfl⟩:=aV.addr h;obtain⟨r,⟨h1,h2,h3,h4⟩,h5⟩:=Sat.nU h;have h6:=Sat.BX (m:=m-1) (cap:=cap) (s:=5) h5 h1 ay h4;have pq:l≠[]:=fun e=>by rw[e] at hm;simp at hm;omega
  have e1:dF l=dF l.dropLast++(l.getLast pq).cells:=by
   conv=>lhs;rw[←dropLast_concat_getLast pq]
   exact uW _ _
  have e2:(dF l++r).take ((m-1)*5)=dF l.dropLast:=by
   rw[e1,append_assoc,take_left'];rw[gT,length_dropLast,hm]
  rw[e2] at h6;exact h6
theorem Mx{aJ:Nat}(hl:1≤aJ∧aJ≤64)(hs:Seq K F A n 5 (dF fs))(hn:fs.length=n)(h20:n<20) :
 aB prog 102 #[.i (aJ:Int),.slice A n cap] K F
  (fun v H'=>∃b8:Nat,∃fA:List bW,fA.length=aJ∧fA.map bW.l=qy aJ fs∧v= .tuple #[.slice (some ⟨b8,0,none⟩) aJ aJ,.i 0]∧H'=ah b8 124 (fA.map bW.v)::bK (fA.map bW.row)::F):=by
 obtain⟨st,dL⟩:∃st,st=qy aJ fs:=⟨_,rfl⟩;have qU:st.length=aJ:=by rw[dL];exact sN _ _
 rw[←dL];refine aB.en func102 ntmps102 ?_;refine aj "aoX" ?_;refine WL.c3 call163 rfl rfl rfl (MJ yg hl hs hn h20) rfl ?_;rintro _ _ ⟨bo,rs,pG,tu,rfl,rfl⟩;have hpr:∀j r,rs[j]? =some r→st.getD j []=(eP (jU aaz) r.l.dropLast).map Fd.block∧j<aJ∧r.l.length≤19:=fun j r hj=>by
  have h1:(rs.map bX.l)[j]? =some r.l:=by rw[getElem?_map,hj];rfl
  have BF:j<aJ:=by rw[←pG];exact (List.getElem?_eq_some_iff.1 hj).1
  rw[tu] at h1;simp only[getElem?_map,ji,getElem?_range BF,Option.map_some] at h1;injection h1 with h1
  refine⟨?_,BF, ?_⟩
  ·rw[dL];unfold qy;simp only[getD,getElem?_map,ji,getElem?_range BF,Option.map_some,Option.getD_some];rw[h1]
  ·rw[←h1,iO];exact Nat.le_trans (length_filter_le _ _) ay
 refine aj "Efs5W" ?_;refine WL.nM (m:=aJ) underlying125 akd (ak rfl) (ak rfl) rfl rfl ay rfl rfl rfl (fun b8=> ?_);refine aj "fnQ" ?_;refine WC.loop (σ:=Nat×List bW) (fun s=>[(8,.slice (some ⟨b8,0,none⟩) aJ aJ),(24,.slice (some ⟨bo,0,none⟩) aJ aJ),(25,.i (aJ:Int)),(26,.i (s.1:Int))]) (fun s=>ah b8 124 (s.2.map bW.v)::bK (s.2.map bW.row)::ah bo 170 (rs.map bX.v)::bK ((rs.drop s.1).map bX.row)::F) (fun s=>s.1≤aJ∧s.2.length=aJ∧s.2.map bW.l=st.take s.1++replicate (aJ-s.1) []) (fun s=>aJ-s.1) (0,replicate aJ ir0) ⟨zero_le _,length_replicate,by
  rw[map_replicate];rfl⟩ bC (fun w h=>by
  dsimp only;rw[map_replicate,map_replicate];have key:∀m,∀H,Sat K w H→Sat K w (replicate m ir0.row++H):=fun m=>by
   induction m with
   | zero=>intro H h;exact h
   | succ m ih=>intro H h;exact Sat.gI (ih H h) _ _
  have h1:Sat K w (replicate aJ ir0.row++(ah b8 124 (replicate aJ ir0.v)::ah bo 170 (rs.map bX.v)::bK (rs.map bX.row)::F)):=key aJ _ h;exact (Sat.all h1).p1) ?_
 rintro⟨j,fA⟩ ⟨hj,GQ,ZA⟩;dsimp only at hj GQ ZA ⊢;refine aj "SU" (aW (fun aQ=> ?_) fun aQ=> ?_)
 ·have BF:j<aJ:=ay;obtain⟨r,hr⟩:∃r,r=rs[j]'ay:=⟨_,rfl⟩;have RZ:rs[j]? =some r:=by rw[hr];exact getElem?_eq_getElem ay
  obtain⟨hpv,_,ang⟩:=hpr j r RZ;have hvg:(rs.map bX.v)[0+((j:Nat):Int).toNat*1]? =some r.v:=by rw[show 0+((j:Nat):Int).toNat*1=j by omega,getElem?_map,RZ];rfl
  have JI:rs.drop j=r::rs.drop (j+1):=by rw[hr];exact drop_eq_getElem_cons ay
  have Du:st.take (j+1)=st.take j++[st.getD j []]:=by rw[take_add_one,getElem?_eq_getElem ay];simp[getD,show j<st.length by omega]
  have ahU:replicate (aJ-j) ([]:List Int)=[]::replicate (aJ-(j+1)) []:=by rw[show aJ-j=(aJ-(j+1))+1 by omega,replicate_succ]
  have aef:(st.take j).length=j:=by rw[length_take];omega
  refine aj "4~t" ?_;refine WL.val (V.load isAgg170 (ak rfl) (fun _=>by repeat (first | exact Rd.here hvg | apply Rd.up))) rfl<|aj "ofn9bU" (aW (fun h2=> ?_) fun h2=> ?_)
  ·have RB:r.l=[]:=eq_nil_of_length_eq_zero ay;have hsj:st.getD j []=[]:=by rw[hpv,RB];rfl
   refine aj "N6" ?_;refine⟨(j+1,fA),⟨BF,GQ, ?_⟩,(by show aJ-(j+1)<aJ-j;omega),.cons rfl bC,fun w h=> ?_⟩
   ·show fA.map bW.l=_;rw[ZA,Du,hsj,ahU,append_assoc];rfl
   ·rw[JI,map_cons] at h;have h4:=Sat.FQ (k:=0) (by simp) (h.bg 4 [3,0,1,2] rfl);have h5:Sat K w (r.row::bK ((rs.drop (j+1)).map bX.row)::ah b8 124 (fA.map bW.v)::bK (fA.map bW.row)::ah bo 170 (rs.map bX.v)::F):=h4;exact h5.bg 5 [2,3,4,1] rfl
  ·have afv:0<r.l.length:=ay;obtain⟨ll,hll⟩:∃ll,ll=eP (jU aaz) r.l.dropLast:=⟨_,rfl⟩;have anN:ll.length=r.l.length-1:=by rw[hll,iO,length_dropLast]
   have hsj:st.getD j []=ll.map Fd.block:=by rw[hpv,hll]
   refine WC.sub (H':=aV (.slice r.A (r.l.length-1) r.c) 237 5 (r.l.length-1) (dF r.l.dropLast)::ah b8 124 (fA.map bW.v)::bK (fA.map bW.row)::ah bo 170 (rs.map bX.v)::bK ((rs.drop (j+1)).map bX.row)::F) (Sub.refl _) (fun w h=>by
    rw[JI,map_cons] at h;have h4:=Sat.FQ (k:=0) (by simp) (h.bg 4 [3,0,1,2] rfl);have h5:Sat K w (r.row::bK ((rs.drop (j+1)).map bX.row)::ah b8 124 (fA.map bW.v)::bK (fA.map bW.row)::ah bo 170 (rs.map bX.v)::F):=h4;exact (abI (l:=r.l) rfl afv w h5).bg 5 [0,2,3,4,1] rfl) ?_
   refine aj "~b" ?_;refine WC.lG (p:=r.l.length-1≤r.c) (fun w h=>by
    obtain⟨_,cap',hv,hle,_⟩:=aV.shape h.head;injection hv with _ _ e3
    rw[e3];exact hle) (fun JJ=> ?_)
   refine aj "Mn`" ?_;refine WL.val (V.aG (v':= .slice r.A (r.l.length-1) r.c) (V.slice (l:=0) (h:=r.l.length-1) (u:=r.c) zX (ak rfl) OO.none (OO.some (ak rfl) (fun _=>by omega)) OO.none (by simp) (zero_le _) JJ (Nat.le_refl _)) (fun _=>by rw[Nat.sub_zero,Nat.sub_zero,zK])) rfl<|aj "k" ?_;refine WL.c2 call168 rfl rfl (AV Yq (by rw[length_dropLast]) ay) rfl ?_;rintro v0 H0 h0;refine WL.sub (H':=aV (.slice r.A (r.l.length-1) r.c) 237 5 (r.l.length-1) (dF ll)::ah b8 124 (fA.map bW.v)::bK (fA.map bW.row)::ah bo 170 (rs.map bX.v)::bK ((rs.drop (j+1)).map bX.row)::F) (Sub.refl _) (fun w h=>by rw[hll];exact h0 w h)<|aj "D" ?_;have hnj:(fA.map bW.l)[j]? =some []:=by rw[ZA,getElem?_append_right ay,aef,Nat.sub_self,ahU];rfl
   have aoh:∀ {X:List aH} (k:Nat) (x:Fd),ll[k]? =some x→∀i v,x.cells[i]? =some v→Rd K (aV (.slice r.A (r.l.length-1) r.c) 237 5 (r.l.length-1) (dF ll)::X) (r.A.map (·.add (k*5+i))) v:=fun {X} k x hk i v hi=>by
    have h9:Seq K (aV (.slice r.A (r.l.length-1) r.c) 237 5 (r.l.length-1) (dF ll)::X) r.A (r.l.length-1) 5 (dF ll):=aV.seq (by rw[gT,anN]);exact CP h9 hk hi
   refine aj "hnQ" ?_;refine WC.loop (σ:=Nat×List bW) (fun s=>[(8,.slice (some ⟨b8,0,none⟩) aJ aJ),(9,.i (j:Int)),(24,.slice (some ⟨bo,0,none⟩) aJ aJ),(25,.i (aJ:Int)),(26,.i (j:Int)),(41,.slice r.A (r.l.length-1) r.c),(42,.i ((r.l.length-1:Nat):Int)),(43,.i (s.1:Int))]) (fun s=>aV (.slice r.A (r.l.length-1) r.c) 237 5 (r.l.length-1) (dF ll)::ah b8 124 (s.2.map bW.v)::bK (s.2.map bW.row)::ah bo 170 (rs.map bX.v)::bK ((rs.drop (j+1)).map bX.row)::F) (fun s=>s.1≤r.l.length-1∧s.2.length=aJ∧s.2.map bW.l=st.take j++((ll.take s.1).map Fd.block::replicate (aJ-(j+1)) [])) (fun s=>r.l.length-1-s.1) (0,fA) ⟨zero_le _,GQ,by rw[ZA,ahU];rfl⟩ bC cO ?_;rintro⟨k,GD⟩ ⟨hk,Ki,U7⟩;dsimp only at hk Ki U7 ⊢;refine aj "SU" (aW (fun eu=> ?_) fun eu=> ?_)
   ·have vX:k<r.l.length-1:=ay;obtain⟨x,hx⟩:∃x,ll[k]? =some x:=⟨_,getElem?_eq_getElem ay⟩;have hxr:=fun {X:List aH} i v hi=>aoh (X:=X) k x hx i v hi;have Bv:(k:Int).toNat=k:=ay;have hlk:ll.take (k+1)=ll.take k++[x]:=by rw[take_add_one,hx];rfl
    obtain⟨q,hq⟩:∃q,q=GD[j]'ay:=⟨_,rfl⟩;have hqg:GD[j]? =some q:=by rw[hq];exact getElem?_eq_getElem ay
    have agE:q.l=(ll.take k).map Fd.block:=by
     have h3:(GD.map bW.l)[j]? =some q.l:=by rw[getElem?_map,hqg];rfl
     rw[U7,getElem?_append_right ay,aef,Nat.sub_self] at h3;injection h3 with h3
     exact h3.symm
    have hqb:q.l.length≤20:=by rw[agE,length_map,length_take];omega
    have aaq:(GD.map bW.row)[j]'(by rw[length_map];omega)=q.row:=by rw[getElem_map,hq]
    have hqv:(GD.map bW.v)[0+(j:Int).toNat*1]? =some q.v:=by rw[show 0+((j:Nat):Int).toNat*1=j by omega,getElem?_map,hqg];rfl
    refine aj "Ha" ?_;refine WL.val (V.aG (v':=sp r.A (k*5)) (V.dw zX (ak rfl) (ak rfl) (fun hc=>by omega) (fun hc=>by rw[Bv];repeat (first | exact hxr 0 _ rfl | apply Rd.up))) (fun _=>by rw[Bv])) rfl ?_;refine WL.val (V.tX (vs:=x.cells) ⟨isAgg237,sizeOf237⟩ (ak rfl) rfl aN (fun _ i v hi=>by repeat (first | exact hxr i v hi | apply Rd.up))) rfl ?_;refine aj "v" fun b12=> ?_;refine aj "Cb" ?_;refine WC.sub (H':=aV (.slice q.A q.l.length q.c) 3 1 q.l.length (ints .i64 q.l)::ah b8 124 (GD.map bW.v)::bK ((GD.map bW.row).eraseIdx j)::ah b12 237 x.cells::aV (.slice r.A (r.l.length-1) r.c) 237 5 (r.l.length-1) (dF ll)::ah bo 170 (rs.map bX.v)::bK ((rs.drop (j+1)).map bX.row)::F) (Sub.refl _) (fun w h=>by
     have h4:=Sat.FQ (k:=j) (by rw[length_map];omega) (h.bg 4 [3,2,0,1] rfl);rw[aaq] at h4;exact h4.bg 5 [0,2,1,3,4] rfl) ?_
    refine WC.dM (bK ((GD.map bW.row).eraseIdx j)::ah b12 237 x.cells::aV (.slice r.A (r.l.length-1) r.c) 237 5 (r.l.length-1) (dF ll)::ah bo 170 (rs.map bX.v)::bK ((rs.drop (j+1)).map bX.row)::F) (by kernel_rfl)<|aj "m0m1m2m3~c4Z6^7" ?_;refine WA.two (i:=5) (j:=8) eO (by kernel_rfl) rfl rfl ?_ ?_
    ·refine WL.val (V.load isAgg124 (ak rfl) (fun _=>by repeat (first | exact Rd.here hqv | apply Rd.up))) rfl<|aj "bl8" ?_;refine WL.buildSlice (E:=3) (cs:=[_]) (vs:=[(0,_)]) ⟨ak rfl,trivial⟩ rfl (dJ _) rfl (fun b55=>aj "bl9=" ?_);refine WL.append (m:=q.l.length) (q:=1) (news:=[.i x.block]) underlying124 Me (ak rfl) (ak rfl) (Seq.all rfl) (by intro u hu;rw[mem_singleton.1 hu];rfl) ay rfl rfl (fun A5 c5 Zu wQ=> ?_);refine aj "b~c:l;" ?_;refine WL.store (cs:=[_]) sizeOf124 (ak rfl) (ak rfl) rfl rfl rfl (bT.up (bT.up (bT.at_ (by rw[length_map];omega))))<|aj "bK6" ?_;refine⟨(k+1,GD.set j ⟨A5,c5,q.l++[x.block]⟩),⟨vX,by show (GD.set _ _).length=aJ;rw[length_set];exact Ki, ?_⟩,(by show r.l.length-1-(k+1)<r.l.length-1-k;omega),.cons rfl bC,fun w h=> ?_⟩
     ·show (GD.set j _).map bW.l=_;rw[map_set,U7,set_append_right _ _ ay,aef,Nat.sub_self,set_cons_zero,hlk,map_append,←agE];rfl
     ·have h5:=h.bg 5 [0,3,2,4] rfl;have e1:aV (.slice A5 (q.l.length+1) c5) 3 1 (q.l.length+1) (ints .i64 q.l++[.i x.block])=bW.row ⟨A5,c5,q.l++[x.block]⟩:=by
       unfold bW.row;rw[gY,length_append];rfl
      rw[e1] at h5;have h6:=Sat.Na (l:=GD.map bW.row) (k:=j) (by rw[length_map];omega) h5;have e2:(GD.map bW.v).set (0+(j:Int).toNat*1) (.slice A5 (q.l.length+1) c5)=(GD.set j ⟨A5,c5,q.l++[x.block]⟩).map bW.v:=by
       rw[show 0+((j:Nat):Int).toNat*1=j by omega,map_set];show _=(GD.map bW.v).set j (.slice A5 (q.l++[x.block]).length c5);rw[length_append];rfl
      rw[e2,←map_set] at h6;exact h6.bg 4 [3,1,0] rfl
    ·refine WL.buildSlice (E:=3) (cs:=[_]) (vs:=[(0,_)]) ⟨ak rfl,trivial⟩ rfl (dJ _) rfl (fun b55=>aj "bl5" ?_);refine WL.val (V.load isAgg124 (ak rfl) (fun _=>by repeat (first | exact Rd.here hqv | apply Rd.up))) rfl<|aj "bl9=" ?_;refine WL.append (m:=q.l.length) (q:=1) (news:=[.i x.block]) underlying124 Me (ak rfl) (ak rfl) (Seq.all rfl) (by intro u hu;rw[mem_singleton.1 hu];rfl) ay rfl rfl (fun A5 c5 Zu wQ=> ?_);refine aj "b~c:l;" ?_;refine WL.store (cs:=[_]) sizeOf124 (ak rfl) (ak rfl) rfl rfl rfl (bT.up (bT.up (bT.at_ (by rw[length_map];omega))))<|aj "bK6" ?_;refine⟨(k+1,GD.set j ⟨A5,c5,q.l++[x.block]⟩),⟨vX,by show (GD.set _ _).length=aJ;rw[length_set];exact Ki, ?_⟩,(by show r.l.length-1-(k+1)<r.l.length-1-k;omega),.cons rfl bC,fun w h=> ?_⟩
     ·show (GD.set j _).map bW.l=_;rw[map_set,U7,set_append_right _ _ ay,aef,Nat.sub_self,set_cons_zero,hlk,map_append,←agE];rfl
     ·have h5:=h.bg 5 [0,3,2,4] rfl;have e1:aV (.slice A5 (q.l.length+1) c5) 3 1 (q.l.length+1) (ints .i64 q.l++[.i x.block])=bW.row ⟨A5,c5,q.l++[x.block]⟩:=by
       unfold bW.row;rw[gY,length_append];rfl
      rw[e1] at h5;have h6:=Sat.Na (l:=GD.map bW.row) (k:=j) (by rw[length_map];omega) h5;have e2:(GD.map bW.v).set (0+(j:Int).toNat*1) (.slice A5 (q.l.length+1) c5)=(GD.set j ⟨A5,c5,q.l++[x.block]⟩).map bW.v:=by
       rw[show 0+((j:Nat):Int).toNat*1=j by omega,map_set];show _=(GD.map bW.v).set j (.slice A5 (q.l++[x.block]).length c5);rw[length_append];rfl
      rw[e2,←map_set] at h6;exact h6.bg 4 [3,1,0] rfl
   ·refine aj "N6" ?_;refine⟨(j+1,GD),⟨BF,Ki, ?_⟩,(by show aJ-(j+1)<aJ-j;omega),.cons rfl bC,fun w h=>h.bg 1 [] rfl⟩;obtain rfl:k=r.l.length-1:=by omega
    show GD.map bW.l=_;rw[U7,Du,hsj,take_of_length_le (l:=ll) ay,append_assoc];rfl
 ·refine aj "NeG" ?_;obtain rfl:j=aJ:=by omega
  refine aF.ret (H':=ah b8 124 (fA.map bW.v)::bK (fA.map bW.row)::F) (bJ.eU rfl rfl rfl) (fun w h=>h.bg 4 [0,1] rfl) ⟨b8,fA,GQ, ?_,rfl,rfl⟩;rw[ZA,take_of_length_le ay,Nat.sub_self,replicate_zero,append_nil]
structure St where
 stands:List Int
 cu:List (List Int)
 (next at_:Int)
 dead:Bool
def oh(S:aD)(aJ:Nat):St:=⟨kT aJ S.dV,qy aJ S.dV,pE S.dV,0,false⟩
namespace St
def ready(T:St)(aS:Int):Int:=if T.dead then 70 else if aS<0∨(T.stands.length:Int)≤aS then 1 else 0
def told(T:St)(e:Int):St:= { T with dead:=T.dead||decide (e=70) }
def lF(T:St)(aS:Int):Int:=T.stands.getD aS.toNat 0
end St
structure bZ where
 stands:List Int
 sA:Option Addr
 sc:Nat
 b8:Nat
 fA:List bW
 (next at_:Int)
 dead:Bool
namespace bZ
def aC(T:bZ):St:=⟨T.stands,T.fA.map bW.l,T.next,T.at_,T.dead⟩
abbrev cells(T:bZ)(bd:Nat)(g:bQ):List Value:=[ptr bd 0,.i g.bl,.i g.pg,.i g.se,.i g.sb,.i g.fl,.slice T.sA T.stands.length T.sc,.slice (some ⟨T.b8,0,none⟩) T.fA.length T.fA.length,.i T.next,.i T.at_,.bool T.dead]
abbrev sl(T:bZ):aH:=aV (.slice T.sA T.stands.length T.sc) 3 1 T.stands.length (ints .i64 T.stands)
abbrev parts(bs bd:Nat)(g:bQ)(T:bZ):List aH:=[ah bs 127 (T.cells bd g),T.sl,ah T.b8 124 (T.fA.map bW.v),bK (T.fA.map bW.row)]
def A(bs bd:Nat)(g:bQ)(T:bZ):aH:=bK (parts bs bd g T)
structure Ok(g:bQ)(T:bZ):Prop where
 len:T.fA.length=T.stands.length
 aJ:1≤T.stands.length∧T.stands.length≤64
 next:1≤T.next∧T.next≤1000000001
 at_:0≤T.at_∧T.at_<g.bl
 Md:∀b∈T.stands,-1≤b∧b<g.bl
end bZ
theorem Seq.xM(hA:A∈l)(h:Seq K [A] B m s vs):Seq K (bK l::H) B m s vs:=⟨h.len,fun i v hi=>Rd.xM hA (h.rd i v hi)⟩
theorem bZ.FH:fH K (bZ.A bs bd g T::F) bs 0 (T.cells bd g):=fun i v hi=>by
 show Rd K (bK (bZ.parts bs bd g T)::F) _ v;refine Rd.xM (A:=ah bs 127 (T.cells bd g)) (.head _) (Rd.here ?_);rw[Nat.zero_add];exact hi
theorem bZ.rdg:fH K (bZ.A bs bd g T::F) bs 1 [.i g.bl,.i g.pg,.i g.se,.i g.sb,.i g.fl]:=fun i v hi=>by
 have key:∀k v,(T.cells bd g)[k]? =some v→Rd K (bZ.A bs bd g T::F) (some ⟨bs,k,none⟩) v:=fun k v hk=>by
  have :=bZ.FH (K:=K) (F:=F) (bs:=bs) (bd:=bd) (g:=g) (T:=T) k v hk
  rwa [Nat.zero_add] at this
 match i,hi with
 | 0,hi=>exact key 1 v hi
 | 1,hi=>exact key 2 v hi
 | 2,hi=>exact key 3 v hi
 | 3,hi=>exact key 4 v hi
 | 4,hi=>exact key 5 v hi
theorem bZ.aks:Seq K (bZ.A bs bd g T::F) T.sA T.stands.length 1 (ints .i64 T.stands) :=
 Seq.xM (A:=T.sl) (l:=bZ.parts bs bd g T) (.tail _ (.head _)) (aV.seq (by rw[bR,Nat.mul_one]))
theorem bZ.rdS(h:0≤aS∧aS<T.stands.length):Rd K (bZ.A bs bd g T::F) (T.sA.map (·.add (aS.toNat*1))) (.i (T.aC.lF aS)):=Seq.dD bZ.aks h
theorem aB.afd(h:aB prog f args K (bZ.parts bs bd g T++F) post):aB prog f args K (bZ.A bs bd g T::F) post:=h.sat fun w hw=>hw.yJ
theorem aav(h:∀x∈fs,0≤x.block∧x.block<B)(hB:0<B):∀b∈kT aJ fs,-1≤b∧b<B:=fun b hb=>by
 unfold kT at hb;obtain⟨l,hl,rfl⟩:=mem_map.1 hb;unfold ji at hl;obtain⟨aS,_,rfl⟩:=mem_map.1 hl;unfold wG;cases hx:(eP (jU qK) (fs.filter (nE aS))).getLast? with
 | none=>exact⟨by decide,by dsimp only;omega⟩
 | some x =>
  have h1:=zk.1 (mem_of_getLast? hx);have :=h x (mem_filter.1 h1).1;exact⟨by dsimp only;omega,this.2⟩
theorem xq{S:aD}(hg:S.g.aU)(h:S.ko b=some x):x.block=b∧x.hd.may S.g=true:=by
 unfold aD.ko at h;split at h
 ·cases h
 ·split at h
  ·cases h
  ·rename_i hp;injection h with h
   subst h;exact⟨rfl,(um hg hp).2.1⟩
theorem FL{S:aD}(hg:S.g.aU):∀x∈S.dV,(0≤x.block∧x.block<S.g.bl)∧x.hd.may S.g=true:=fun x hx=>by
 unfold aD.dV at hx;obtain⟨b,hb,hs⟩:=mem_filterMap.1 hx;obtain⟨h1,h2⟩:=xq hg hs;have h3:=aD.qB S _ b hb;unfold bQ.aU at hg;exact⟨by rw[h1];omega,h2⟩
theorem Hd.Ud{h:Hd}(hm:h.may g=true):1≤h.num∧h.num≤1000000000:=by simp_all [Hd.may,Bool.and_eq_true,decide_eq_true_eq]
theorem Qw(h0:0<fs.length):∀k,k<fs.length→xD c fs k∈fs
 | 0,_=>by show fs.getD 0 JF∈fs;simp only[getD,getElem?_eq_getElem h0];exact getElem_mem _
 | k+1,hk=>by
  rw[xD];split
  ·simp only[getD,getElem?_eq_getElem hk];exact getElem_mem _
  ·exact Qw h0 k ay
theorem O7(h:∀x∈fs,1≤x.hd.num∧x.hd.num≤1000000000):1≤pE fs∧pE fs≤1000000001:=by grind [pE,Qw]
theorem Te{C:Cw}(hC:C.Ok)(hg:C.g=g){aJ:Nat}(hl:1≤aJ∧aJ≤64)(h19:g.bl≤19)(he:C.aC.om=0):aB prog 31 #[ptr bd 0,.i (aJ:Int)] K (C.A bc::dA bd bc g::F)
 (fun v H'=>∃bs:Nat,∃T:bZ,T.Ok g∧T.aC=oh C.aC aJ∧v= .tuple #[ptr bs 0,.i 0]∧H'=C.A bc::dA bd bc g::T.A bs bd g::F):=by
 have yO:g.aU:=by rw[←hg];exact hC.aU
 have uJ:=yO;unfold bQ.aU at uJ;have Zo:=FL (S:=C.aC) hC.aU;have hfl:C.aC.dV.length≤19:=by
  have h1:=aD.jK C.aC C.aC.g.bl.toNat;have h2:C.aC.g.bl.toNat≤19:=by rw[show C.aC.g=C.g from rfl,hg];omega
  unfold aD.dV;refine Nat.le_trans (length_filterMap_le _ _) ?_;unfold aD.dW;omega
 obtain⟨fs,hfs⟩:∃fs,fs=C.aC.dV:=⟨_,rfl⟩;have Zk:=O7 (fs:=fs) (fun x hx=>Hd.Ud (Zo x (by rw[←hfs];exact hx)).2);refine aB.en func31 ntmps31 ?_;refine aj "aof]5ir1cV~lOb~3W" ?_;refine WL.c1 call99 rfl (QT hC hg h19 he) rfl ?_;rintro _ _ ⟨Af,cf,rfl,rfl⟩;rw[←hfs] at hfl Zo ⊢;refine aj "Efs5Wc" ?_;refine WL.t1 call100 rfl (kg) rfl<|WL.val (V.build (vs:=[(0,_),(1,_)]) ⟨ak rfl,ak rfl,trivial⟩ rfl (Tp _ _ _ _ _ _)) rfl<|WL.box (cs:=[_,_,_,_,_,_,_,_,_,_,_]) (ak rfl) rfl rfl (fun Va=>aj "kzc" ?_);refine WL.c2 call101 rfl rfl (Qr (fs:=fs) hl (by repeat (first | exact aV.seq (gT _) | apply Seq.up)) rfl ay (fun x hx=>by have :=Hd.Ud (Zo x hx).2;omega)) rfl ?_;rintro _ _ ⟨Ap,cp,rfl,rfl⟩;refine aj "8~TR~~[R~~[bez" ?_;refine WL.c2 call102 rfl rfl (Mx (fs:=fs) hl (by repeat (first | exact aV.seq (gT _) | apply Seq.up)) rfl ay) rfl ?_;rintro _ _ ⟨b8,fA,GQ,ZA,rfl,rfl⟩;refine aj "8R~~[beG" ?_;obtain⟨T,hT⟩:∃T:bZ,T=⟨kT aJ fs,Ap,cp,b8,fA,pE fs,0,false⟩:=⟨_,rfl⟩;have l7:=mY aJ fs;refine aF.ret (H':=C.A bc::dA bd bc g::T.A Va bd g::F) (bJ.eU rfl rfl rfl) (fun w h=> ?_) ⟨Va,T, ?_, ?_,rfl,rfl⟩
 ·have h1:=h.bg 7 [3,2,0,1,4,5] rfl;have h2:=Sat.all (l:=bZ.parts Va bd g T) (H:=C.A bc::dA bd bc g::F) (K:=K) (w:=w) (by
   unfold bZ.parts bZ.cells bZ.sl;rw[hT];dsimp only;rw[l7,GQ];exact h1)
  exact h2.bg 3 [1,2,0] rfl
 ·rw[hT];refine⟨by show fA.length=(kT aJ fs).length;omega,by show 1≤(kT aJ fs).length∧(kT aJ fs).length≤64;omega,by show 1≤pE fs∧pE fs≤1000000001;omega,by show (0:Int)≤0∧0<g.bl;omega, ?_⟩;exact aav (fun x hx=>by have :=(Zo x hx).1;rw[show C.aC.g=C.g from rfl,hg] at this;exact this) ay
 ·rw[hT];unfold bZ.aC oh;rw[←hfs,ZA]
theorem Ut{T:bZ}:aK prog 87 #[ptr bs 0] K (T.A bs bd g::F) (.i (T.stands.length:Int)):=by
 refine aB.en func87 ntmps87 ?_;refine aj "af]5WR" ?_;refine WL.val (V.load isAgg124 (ak rfl) (fun _=>bZ.FH 6 _ rfl)) rfl<|aj "nd" ?_;exact qR (T.A bs bd g::F) rfl rfl cO ⟨rfl,rfl⟩
theorem X4{T:bZ}(hg:g.aU):aK prog 50 #[ptr bs 0] K (T.A bs bd g::F) (.i g.cap):=by
 refine aB.en func50 ntmps50 ?_;refine aj "af]5WR" ?_;refine WL.val (V.fE (vs:=[.i g.bl,.i g.pg,.i g.se,.i g.sb,.i g.fl]) ⟨isAgg23,sizeOf23⟩ (ak rfl) rfl (fun _=>bZ.rdg)) rfl<|WL.t1 call110 rfl (QE hg) rfl<|aj "Ekd" ?_;exact qR (T.A bs bd g::F) rfl rfl cO ⟨rfl,rfl⟩
theorem xk{T:bZ}(aS:Int):aK prog 61 #[ptr bs 0,.i aS] K (T.A bs bd g::F) (.i (T.aC.ready aS)):=by
 obtain⟨X,hX⟩:∃X,X=T.aC.ready aS:=⟨_,rfl⟩;rw[←hX];unfold St.ready bZ.aC at hX;dsimp only at hX;refine aB.en func61 ntmps61 ?_;refine aj "atue]g~zeR" ?_;refine WL.val (V.load isAgg4 (ak rfl) (fun _=>bZ.FH 10 _ rfl)) rfl<|aj "gF" (aW (fun h1=> ?_) fun h1=> ?_)
 ·rw[h1] at hX;refine aj "I" ?_;exact qR (T.A bs bd g::F) rfl rfl cO ⟨by rw[hX];rfl,rfl⟩
 ·rw[h1] at hX;rw[if_neg Bool.false_ne_true] at hX;refine aj "e1cVV~~p~0" ?_;refine WL.bI (oj:=_) rfl rfl rfl GC.f (V.load isAgg124 (OV.g rfl id) (fun _=>bZ.FH 6 _ rfl)) rfl<|aj "~J~~QOgF" (aW (fun h2=> ?_) fun h2=> ?_)
  ·simp only[Bool.or_eq_true,Bool.or_eq_false_iff,cZ] at h2;rw[if_pos h2] at hX;refine aj "I" ?_;exact qR (T.A bs bd g::F) rfl rfl cO ⟨by rw[hX],rfl⟩
  ·simp only[Bool.or_eq_true,Bool.or_eq_false_iff,cZ] at h2;rw[if_neg (by rintro (h | h);exact h2.1 h;exact h2.2 h)] at hX;refine aj "iI" ?_;exact qR (T.A bs bd g::F) rfl rfl cO ⟨by rw[hX],rfl⟩
def bZ.told(T:bZ)(e:Int):bZ:= { T with dead:=T.dead||decide (e=70) }
theorem bZ.Ok.told{T:bZ}(h:T.Ok g)(e:Int):(T.told e).Ok g:=⟨h.len,h.aJ,h.next,h.at_,h.Md⟩
theorem qx{T:bZ}(e:Int):aB prog 65 #[ptr bs 0,.i e] K (T.A bs bd g::F) (fun v H'=>v= .i e∧H'=(T.told e).A bs bd g::F):=by
 refine aB.afd ?_;dsimp only[bZ.parts,cons_append,nil_append];refine aB.en func65 ntmps65 ?_;refine aj "aX@pcV~~ZOR~sbed" ?_;exact qR ((T.told e).A bs bd g::F) rfl rfl (fun w h=>Sat.all (l:=bZ.parts bs bd g (T.told e)) h) ⟨rfl,rfl⟩
theorem TP{T:bZ}{C:Cw}(hC:C.Ok)(hg:C.g=g):aK prog 66 #[ptr bs 0] K (C.A bc::dA bd bc g::T.A bs bd g::F) (.i (if C.aC.om=70 then 70 else 6)):=by
 refine aB.en func66 ntmps66 ?_;refine aj "afR" ?_;refine WL.val (V.load isAgg70 (ak rfl) (fun _=>Rd.up (Rd.up (bZ.FH 0 _ rfl)))) rfl<|WL.t3 call126 rfl rfl rfl (vN hC hg 0 0 aN) rfl<|aj "Ek9bU" (aW (fun h0=> ?_) fun h0=> ?_)
 ·refine aj "ed" ?_;exact qR (C.A bc::dA bd bc g::T.A bs bd g::F) rfl rfl cO ⟨by rw[if_pos (show C.aC.om=70 from h0)];exact congrArg _ h0,rfl⟩
 ·refine aj "iI" ?_;exact qR (C.A bc::dA bd bc g::T.A bs bd g::F) rfl rfl cO ⟨by rw[if_neg (show ¬C.aC.om=70 from h0)],rfl⟩
theorem ZV(hd:tZ t d m=some (p,k)):p.1.length=d.length:=by grind [tZ,ug]
theorem SQ(hr:raw.length=kI S B t)(he:(gK t S B raw).err=0):(gK t S B raw).d.length=S*B:=by
 unfold gK at he ⊢;split at he
 ·rename_i h;exact absurd he h
 ·rename_i h;rw[if_neg h];have key:∀(l:List (Option (LL×Nat))) (d:List Nat) (n:Nat),(∀o∈l,∀p k,o=some (p,k)→p.1.length=B)→(lV l d n).err=0→(lV l d n).d.length=d.length+l.length*B:=fun l=>by
   induction l with
   | nil=>intro d n _ _;show d.length=_;simp
   | cons o l ih =>
    intro d n h he;cases o with
    | none=>exact absurd he (by show ¬(50=0);decide)
    | some r =>
     obtain⟨p,k⟩:=r;rw[lV] at he ⊢;have h1:=ih (d++p.1) (max n k) (fun o ho=>h o (.tail _ ho)) he;have h2:=h _ (.head _) p k rfl;rw[length_append] at h1;rw[length_cons,succ_mul];omega
  have :=key ((List.range S).map (FY t B (B+aR t) raw)) [] 0 (fun o ho p k hp=>by
   obtain⟨j,hj,rfl⟩:=mem_map.1 ho;have hj:=mem_range.1 hj;unfold FY at hp;rw[ZV hp];unfold F4;have h3:(j+1)*(B+aR t)≤S*(B+aR t):=mul_le_mul_right _ hj;rw[succ_mul] at h3;rw[length_take,length_drop,hr];unfold kI;omega) he
  rw[length_map,length_range] at this
  simpa using this
theorem Cw.Ok.Si{C:Cw}(hC:C.Ok)(he:(C.aC.bY b p).err=0):(C.aC.bY b p).d.length=C.g.room.toNat:=by
 have hg:=hC.aU;unfold aD.bY at he ⊢;split at he
 ·rename_i h;exact absurd he h
 ·rename_i h;rw[if_neg h];have h0:(gK C.aC.g.fl.toNat C.aC.g.se.toNat C.aC.g.sb.toNat (C.aC.kI b p)).err=0:=by
   have Za:((gK C.aC.g.fl.toNat C.aC.g.se.toNat C.aC.g.sb.toNat (C.aC.kI b p)).err:Int)=0:=he;omega
  have h1:=SQ (by rw[(hC.uO b p).2.2,bQ.uZ hg,Int.toNat_natCast];rfl) h0;show (gK _ _ _ _).d.length=_;rw[h1,bQ.Jv hg,Int.toNat_natCast];rfl
theorem bQ.Ll{g:bQ}(hg:g.aU)(h:g.fits n=true):0≤g.bN n∧g.bN n≤g.pg-1∧n≤g.bN n*g.room∧(n≤0→g.bN n=0):=by
 have hr:=bQ.kP hg;have uJ:=hg;unfold bQ.aU at uJ;unfold bQ.fits at h;simp only[Bool.and_eq_true,decide_eq_true_eq] at h;have h1:=Int.emod_add_mul_ediv (n+g.room-1) g.room;have h2:=Int.emod_lt_of_pos (n+g.room-1) (show 0<g.room by omega);have h3:=Int.emod_nonneg (n+g.room-1) (show g.room≠0 by omega);have hq:g.bN n=(n+g.room-1)/g.room:=rfl;rw[←hq,Int.mul_comm] at h1;have h4:0≤g.bN n:=by rw[hq];exact Int.ediv_nonneg ay ay
 refine⟨h4, ?_,by omega,fun hn=> ?_⟩
 ·have h5:g.bN n*g.room≤g.cap+g.room-1:=by omega
  have h6:g.cap+g.room=g.pg*g.room:=by unfold bQ.cap;rw[Int.sub_mul,Int.one_mul];omega
  have h7:g.bN n*g.room<g.pg*g.room:=ay;have :=Int.lt_of_mul_lt_mul_right h7 ay;omega
 ·have :n=0:=by omega
  rw[hq,this];exact Int.ediv_eq_zero_of_lt ay ay
def iA(S:aD)(b:Int)(n0:Nat):Nat→aD.Got
 | 0=>⟨0,[],n0⟩
 | k+1=>if (iA S b n0 k).err≠0 then iA S b n0 k
  else if (S.bY b (1+(k:Int))).err≠0 then ⟨(S.bY b (1+(k:Int))).err,[],0⟩
  else ⟨0,(iA S b n0 k).d++(S.bY b (1+(k:Int))).d,max (iA S b n0 k).n (S.bY b (1+(k:Int))).n⟩
theorem KX(h:(iA S b n0 k).err≠0):∀m,iA S b n0 (k+m)=iA S b n0 k
 | 0=>rfl
 | m+1=>by rw[←Nat.add_assoc,iA,KX h m,if_pos h]
def dZ(S:aD)(T:St)(aS:Int):aD.Got×St :=
 if T.ready aS≠0 then (⟨T.ready aS,[],0⟩,T)
 else if T.lF aS<0 then (⟨5,[],0⟩,T)
 else if (S.bY (T.lF aS) 0).err≠0 then (⟨(S.bY (T.lF aS) 0).err,[],0⟩,T.told (S.bY (T.lF aS) 0).err)
 else if iR S.g (S.bY (T.lF aS) 0).d≠0 then (⟨iR S.g (S.bY (T.lF aS) 0).d,[],0⟩,T)
 else if (iA S (T.lF aS) (S.bY (T.lF aS) 0).n (S.g.bN (gQ S.g (S.bY (T.lF aS) 0).d).len).toNat).err≠0 then
  (⟨(iA S (T.lF aS) (S.bY (T.lF aS) 0).n (S.g.bN (gQ S.g (S.bY (T.lF aS) 0).d).len).toNat).err,[],0⟩,T.told (iA S (T.lF aS) (S.bY (T.lF aS) 0).n (S.g.bN (gQ S.g (S.bY (T.lF aS) 0).d).len).toNat).err)
 else (⟨0,(iA S (T.lF aS) (S.bY (T.lF aS) 0).n (S.g.bN (gQ S.g (S.bY (T.lF aS) 0).d).len).toNat).d.take (gQ S.g (S.bY (T.lF aS) 0).d).len.toNat,(iA S (T.lF aS) (S.bY (T.lF aS) 0).n (S.g.bN (gQ S.g (S.bY (T.lF aS) 0).d).len).toNat).n⟩,T)
theorem ad8(hn:n≤m):∀w,Sat K w (aV (.slice A m cap) E 1 m cs::F)→Sat K w (aV (.slice A n cap) E 1 n (cs.take n)::F):=fun w h=>by
 cases A with
 | none =>
  obtain⟨h1,h2,h3⟩:=aV.yM h;obtain rfl:n=0:=by omega
  subst h1 h2 h3;exact h
 | some a =>
  obtain⟨g,rfl⟩:=aV.addr h;obtain⟨r,⟨h1,h2,h3,h4⟩,h5⟩:=Sat.nU h;have h6:=Sat.BX (m:=n) (cap:=cap) (s:=1) h5 h1 ay h4;rw[Nat.mul_one,take_append_of_le_length ay] at h6;exact h6
theorem QV(hg:g.aU)(h:iR g d=0):(gQ g d).may g=true∧jr g d=some (gQ g d):=by
 unfold iR at h;unfold gQ;cases hp:jr g d with
 | none=>rw[hp] at h;dsimp only at h;split at h<;>cases h
 | some x=>exact⟨(um hg hp).2.1,rfl⟩
theorem AA{T:bZ}{C:Cw}(hC:C.Ok)(hg:C.g=g)(hT:T.Ok g)(aS:Int):aB prog 26 #[ptr bs 0,.i aS] K (C.A bc::dA bd bc g::T.A bs bd g::F)
 (fun v H'=>∃(A':Option Addr) (c':Nat) (T':bZ),T'.Ok g∧T'.aC=(dZ C.aC T.aC aS).2∧v= .tuple #[.slice A' (dZ C.aC T.aC aS).1.d.length c',.i ((dZ C.aC T.aC aS).1.n:Nat),.i (dZ C.aC T.aC aS).1.err] ∧
  H'=aV (.slice A' (dZ C.aC T.aC aS).1.d.length c') 5 1 (dZ C.aC T.aC aS).1.d.length (av .u8 (dZ C.aC T.aC aS).1.d)::C.A bc::dA bd bc g::T'.A bs bd g::F):=by
 have yO:g.aU:=by rw[←hg];exact hC.aU
 have Od:C.aC.g=g:=hg;have RN:=bQ.kP yO;have uJ:=yO;unfold bQ.aU at uJ;obtain⟨X,hX⟩:∃X,X=dZ C.aC T.aC aS:=⟨_,rfl⟩;rw[←hX];unfold dZ at hX;rw[Od] at hX;have BG:T.aC.ready aS=0→0≤aS∧aS<T.stands.length:=fun h=>by
  unfold St.ready bZ.aC at h;dsimp only at h;split at h
  ·cases h
  ·split at h
   ·cases h
   ·omega
 refine aB.en func26 ntmps26 ?_;refine aj "aoofc~~f" ?_;refine WL.c2 call61 rfl rfl (xk aS) rfl ?_;rintro _ _ ⟨rfl,rfl⟩;refine aj "~~gksb~e" (aW (fun h0=> ?_) fun h0=> ?_)
 ·rw[if_pos h0] at hX;refine aj "eoG" ?_;subst hX;exact aF.ret (H':=aV (.slice none 0 0) 5 1 0 []::C.A bc::dA bd bc g::T.A bs bd g::F) (bJ.Bl rfl rfl rfl rfl) (fun w h=>Sat.gI h _ _) ⟨none,0,T,hT,rfl,rfl,rfl⟩
 ·have KC:T.aC.ready aS=0:=ay;rw[if_neg (fun h=>h KC)] at hX;have Oe:=BG KC;obtain⟨b,hb⟩:∃b,b=T.aC.lF aS:=⟨_,rfl⟩;rw[←hb] at hX;have tu:∀ {X Y:aH},Rd K (X::Y::T.A bs bd g::F) (T.sA.map (·.add (aS.toNat*1))) (.i b):=fun {X Y}=>by rw[hb];exact Rd.up (Rd.up (bZ.rdS Oe))
  refine aj "WR" ?_;refine WL.val (V.load isAgg124 (ak rfl) (fun _=>Rd.up (Rd.up (bZ.FH 6 _ rfl)))) rfl<|WL.mv rfl rfl<|WL.val (V.dw eB (ak rfl) (ak rfl) (fun _=>Oe) (fun _=>tu)) rfl<|WL.val (V.load isAgg3 (ak rfl) (fun _=>tu)) rfl<|aj "f1bU" (aW (fun h1=> ?_) fun h1=> ?_)
  ·rw[if_pos h1] at hX;refine aj "aoG" ?_;subst hX;exact aF.ret (H':=aV (.slice none 0 0) 5 1 0 []::C.A bc::dA bd bc g::T.A bs bd g::F) (bJ.Bl rfl rfl rfl rfl) (fun w h=>Sat.gI h _ _) ⟨none,0,T,hT,rfl,rfl,rfl⟩
  ·rw[if_neg h1] at hX;refine aj "WR" ?_;refine WL.val (V.load isAgg70 (ak rfl) (fun _=>Rd.up (Rd.up (bZ.FH 0 _ rfl)))) rfl<|WL.mv rfl rfl (WL.c3 call90 rfl rfl rfl (xB hC hg b 0) rfl ?_);rintro _ _ ⟨Ad,cd,rfl,rfl⟩;obtain⟨G,hG⟩:∃G,G=C.aC.bY b 0:=⟨_,rfl⟩;have hGf:=hC.rQ b 0;rw[←hG] at hGf hX ⊢;refine aj "8~Toofsb~e" (aW (fun h2=> ?_) fun h2=> ?_)
   ·rw[if_pos h2] at hX;refine aj "ec" ?_;refine WL.sub (Sub.refl _) (fun w h=>h.bg 4 [3,1,2] rfl)<|WL.c2 call65 rfl rfl (qx G.err) rfl ?_;rintro _ _ ⟨rfl,rfl⟩;refine aj "oG" ?_;subst hX;exact aF.ret (H':=aV (.slice none 0 0) 5 1 0 []::C.A bc::dA bd bc g::(T.told G.err).A bs bd g::F) (bJ.Bl rfl rfl rfl rfl) (fun w h=>Sat.gI (h.bg 3 [1,2,0] rfl) _ _) ⟨none,0,T.told G.err,hT.told _,rfl,rfl,rfl⟩
   ·rw[if_neg (fun h=>h ay)] at hX;obtain⟨pe,ZF⟩:∃pe,pe=iR g G.d:=⟨_,rfl⟩;obtain⟨ph,hph⟩:∃ph,ph=gQ g G.d:=⟨_,rfl⟩;rw[←ZF,←hph] at hX;refine aj "WR" ?_;refine WL.val (V.fE (vs:=[.i g.bl,.i g.pg,.i g.se,.i g.sb,.i g.fl]) ⟨isAgg23,sizeOf23⟩ (ak rfl) rfl (fun _=>fH.up (fH.up (fH.up bZ.rdg)))) rfl<|WL.mv rfl rfl<|WL.t2 call91 rfl rfl (aK.eq (v':= .tuple #[ph.v,.i pe]) (IK (d:=G.d) yO (aV.seq (by rw[au,Nat.mul_one])) hGf.1 ay) (by rw[hph,ZF])) rfl<|aj "8v" fun b12=> ?_;refine aj "~7fsb~e" (aW (fun h3=> ?_) fun h3=> ?_)
    ·rw[if_pos h3] at hX;refine aj "eoG" ?_;subst hX;exact aF.ret (H':=aV (.slice none 0 0) 5 1 0 []::C.A bc::dA bd bc g::T.A bs bd g::F) (bJ.Bl rfl rfl rfl rfl) (fun w h=>Sat.gI (h.bg 5 [2,3,4] rfl) _ _) ⟨none,0,T,hT,rfl,rfl,rfl⟩
    ·have hp0:pe=0:=ay;rw[if_neg (fun h=>h hp0)] at hX;have Oj:ph.may g=true:=by rw[hph];exact (QV yO (by rw[←ZF];exact hp0)).1
     have JG:=Oj;unfold Hd.may at JG;simp only[Bool.and_eq_true,decide_eq_true_eq] at JG;have JD:=JG.1.1.1.1;have hfb:=JD;unfold bQ.fits at hfb;simp only[Bool.and_eq_true,decide_eq_true_eq] at hfb;have FR:=bQ.vL yO;have hpf:=bQ.Ll yO JD;obtain⟨N,hN⟩:∃N:Nat,g.bN ph.len=(N:Int):=⟨(g.bN ph.len).toNat,by omega⟩;rw[hN,Int.toNat_natCast] at hX;rw[hN] at hpf;obtain⟨ln,hln⟩:∃ln:Nat,ph.len=(ln:Int):=⟨ph.len.toNat,by omega⟩;refine aj "iat~m.~.~y" ?_;refine WQ.val (V.fE (vs:=[.i g.bl,.i g.pg,.i g.se,.i g.sb,.i g.fl]) ⟨isAgg23,sizeOf23⟩ (ak rfl) rfl (fun _=>by repeat (first | exact bZ.rdg | apply fH.up))) rfl<|aj "~y~H" ?_;refine WQ.call (vs:=[_,_]) call92 ⟨ak rfl,ak rfl,trivial⟩ (aK.eq (v':= .tuple #[.i (N:Int),.i 0]) (AL yO ay) (by rw[JD,hN];rfl)) rfl<|aj "." ?_;refine WQ.val (V.extract (ak rfl) rfl) rfl (WQ.val (V.extract (ak rfl) rfl) rfl (aj "~n~n~iPP" ?_));refine WC.sub (H':=C.A bc::dA bd bc g::T.A bs bd g::aV (.slice none 0 0) 5 1 0 []::ah b12 157 [.i ph.aS,.i ph.len,.i ph.num]::F) (Sub.refl _) (fun w h=>(Sat.gI (h.bg 5 [0,2,3,4] rfl) 5 1).bg 5 [2,3,4,0,1] rfl) ?_;have JQ:∀k,k≤N→(iA C.aC b G.n k).err=0→(iA C.aC b G.n k).d.length=k*g.room.toNat:=fun k=>by
      induction k with
      | zero=>intro _ _;show ([]:List Nat).length=_;simp
      | succ k ih =>
       intro hk he;rw[iA] at he ⊢;split at he
       ·rename_i h;exact absurd he h
       ·rename_i h;rw[if_neg h];split at he
        ·rename_i h';exact absurd he h'
        ·rename_i h';rw[if_neg h'];have h4:=hC.Si (b:=b) (p:=1+(k:Int)) ay;show ((iA C.aC b G.n k).d++(C.aC.bY b (1+(k:Int))).d).length=_;rw[length_append,ih ay ay,h4,hg,succ_mul]
     refine aj "hQ" ?_;refine WC.loop (σ:=Nat×Option Addr×Nat) (fun s=>[(0,ptr bs 0),(8,.i b),(10,.i ((iA C.aC b G.n s.1).n:Nat)),(12,ptr b12 0),(13,.slice s.2.1 (iA C.aC b G.n s.1).d.length s.2.2),(72,.i (N:Int)),(73,.i (s.1:Int))]) (fun s=>C.A bc::dA bd bc g::T.A bs bd g::aV (.slice s.2.1 (iA C.aC b G.n s.1).d.length s.2.2) 5 1 (iA C.aC b G.n s.1).d.length (av .u8 (iA C.aC b G.n s.1).d)::ah b12 157 [.i ph.aS,.i ph.len,.i ph.num]::F) (fun s=>s.1≤N∧(iA C.aC b G.n s.1).err=0) (fun s=>N-s.1) (0,none,0) ⟨zero_le _,rfl⟩ bC cO ?_;rintro⟨k,Ao,co⟩ ⟨hk,YX⟩;dsimp only at hk YX ⊢;obtain⟨r,hr⟩:∃r,r=iA C.aC b G.n k:=⟨_,rfl⟩;have pG:=JQ k hk YX;rw[←hr] at YX pG ⊢;have hkN:k*g.room.toNat≤63*4096:=Nat.mul_le_mul ay ay;refine aj "SU" (aW (fun mQ=> ?_) fun mQ=> ?_)
     ·have vX:k<N:=ay;have dL:iA C.aC b G.n (k+1)=if (C.aC.bY b (1+(k:Int))).err≠0 then ⟨(C.aC.bY b (1+(k:Int))).err,[],0⟩ else ⟨0,r.d++(C.aC.bY b (1+(k:Int))).d,max r.n (C.aC.bY b (1+(k:Int))).n⟩:=by rw[iA,←hr,if_neg (fun h=>h YX)]
      refine aj "4kR" ?_;refine WL.val (V.load isAgg70 (ak rfl) (fun _=>Rd.up (Rd.up (bZ.FH 0 _ rfl)))) rfl<|aj "z$" ?_;refine WL.c3 call90 rfl rfl rfl (xB hC hg b (1+(k:Int))) rfl ?_;rintro _ _ ⟨A2,c2,rfl,rfl⟩;have anU:=hC.rQ b (1+(k:Int));obtain⟨G2,hG2⟩:∃G2,G2=C.aC.bY b (1+(k:Int)):=⟨_,rfl⟩;rw[←hG2] at dL anU ⊢;refine aj "8~Toofsb~e" (aW (fun wQ=> ?_) fun wQ=> ?_)
      ·have h5:=wQ;rw[if_pos h5] at dL;have hNe:iA C.aC b G.n N=⟨G2.err,[],0⟩:=by
        have :=KX (S:=C.aC) (b:=b) (n0:=G.n) (k:=k+1) (by rw[dL];exact h5) (N-(k+1));rw[show k+1+(N-(k+1))=N by omega,dL] at this;exact this
       rw[hNe,if_pos h5] at hX;refine aj "ec" ?_;refine WL.sub (Sub.refl _) (fun w h=>h.bg 6 [3,1,2] rfl)<|WL.c2 call65 rfl rfl (qx G2.err) rfl ?_;rintro _ _ ⟨rfl,rfl⟩;refine aj "oG" ?_;subst hX;exact aF.ret (H':=aV (.slice none 0 0) 5 1 0 []::C.A bc::dA bd bc g::(T.told G2.err).A bs bd g::F) (bJ.Bl rfl rfl rfl rfl) (fun w h=>Sat.gI (h.bg 3 [1,2,0] rfl) _ _) ⟨none,0,T.told G2.err,hT.told _,rfl,rfl,rfl⟩
      ·have h5:=wQ;rw[if_neg (fun h=>h ay)] at dL;refine aj "Wc" ?_;refine WL.sub (Sub.refl _) (fun w h=>h.bg 5 [4,0,1,2,3] rfl)<|WL.append (m:=r.d.length) (q:=G2.d.length) (news:=av .u8 G2.d) underlying34 yL (ak rfl) (ak rfl) (aV.seq (by rw[au,Nat.mul_one])) (jB .u8 G2.d) ay rfl rfl (fun A5 c5 Zu wQ=>aj "gM~~dg6" ?_);refine⟨(k+1,A5,c5),⟨vX,by rw[dL]⟩,(by show N-(k+1)<N-k;omega),.cons rfl (.cons rfl (.cons (look_eq rfl (by dsimp only;rw[dL];dsimp only;refine congrArg (Value.int .i64) ?_;omega)) (.cons rfl (.cons (look_eq rfl (by dsimp only;rw[dL];dsimp only;rw[length_append])) bC)))),fun w h=> ?_⟩;dsimp only;rw[dL];dsimp only;rw[length_append,dx];exact h.bg 6 [2,3,4,0,5] rfl
     ·refine aj "T" ?_;obtain rfl:k=N:=by omega
      rw[←hr,if_neg (fun h=>h YX)] at hX;have hlr:ln≤r.d.length:=by
       have h6:=hpf.2.2.1;rw[hln] at h6;have h7:((k*g.room.toNat:Nat):Int)=(k:Int)*g.room:=by rw[Int.natCast_mul];congr 1;omega
       omega
      have hXd:X.1.d=r.d.take ln:=by rw[hX,hln];rfl
      have hXl:X.1.d.length=ln:=by rw[hXd,length_take];omega
      refine WC.lG (p:=r.d.length≤co) (fun w h=>by
       have h9:=h.bg 4 [3] rfl;obtain⟨_,cap',hv,hle,_⟩:=aV.shape h9.head;injection hv with _ _ e3
       rw[e3];exact hle) (fun JJ=> ?_)
      refine aj "hp" ?_;refine WL.val (V.aG (v':= .slice Ao ln co) (V.slice (l:=0) (h:=ln) (u:=co) dO (ak rfl) OO.none (OO.some (ak rfl) (fun _=>hln)) OO.none (by simp) (zero_le _) ay (Nat.le_refl _)) (fun _=>by rw[Nat.sub_zero,Nat.sub_zero,zK])) rfl<|aj "coG" ?_;refine aF.ret (H':=aV (.slice Ao X.1.d.length co) 5 1 X.1.d.length (av .u8 X.1.d)::C.A bc::dA bd bc g::T.A bs bd g::F) (bJ.Bl rfl rfl rfl rfl) (fun w h=> ?_) ⟨Ao,co,T,hT,by rw[hX],by rw[hXl,hX],rfl⟩;have h9:=ad8 hlr w (h.bg 5 [3,0,1,2] rfl);rw[dU,←hXd] at h9;rw[hXl];exact h9
def YN(b:Int)(xs:List Int):Int:=if b∈xs then (xs.idxOf b:Int) else-1
theorem ag9{xs:List Int}(h:i<xs.length)(hp:b∉xs.take i)(he:b=xs.getD i 0):YN b xs=(i:Int):=by
 have Kz:xs.getD i 0=xs[i]:=by simp[getD,h]
 rw[Kz] at he;have hx:xs=xs.take i++b::xs.drop (i+1):=by
  rw[he,←drop_eq_getElem_cons h,take_append_drop]
 have hb:b∈xs:=by rw[he];exact getElem_mem _
 unfold YN;rw[if_pos hb];have :xs.idxOf b=i:=by
  rw[hx,idxOf_append,if_neg hp,idxOf_cons_self,length_take];omega
 rw[this]
theorem aae:decide (YN b xs≥0)=decide (b∈xs):=by unfold YN;grind
theorem R6(hs:Seq K F A m 1 (ints .i64 xs))(hm:m≤1000000)(b:Int) :
 aK prog 187 #[.slice A m cap,.i b] K F (.i (YN b xs)):=by
 have hl:xs.length=m:=by simpa [ints] using hs.len
 refine aB.en func187 ntmps187 ?_;refine aj "afnQ" ?_;refine WC.loop (σ:=Nat) (fun i=>[(0,.slice A m cap),(1,.i b),(7,.i (m:Int)),(8,.i (i:Int))]) (fun i=>F) (fun i=>i≤m∧b∉xs.take i) (fun i=>m-i) 0 ⟨zero_le _,by simp⟩ bC cO ?_;rintro i ⟨hi,hp⟩;refine aj "SU" (aW (fun aL=> ?_) fun aL=> ?_)
 ·have him:i<m:=ay;have Bv:(i:Int).toNat=i:=ay;have Kz:xs.getD i 0=xs[i]'ay:=by simp[getD,show i<xs.length by omega]
  refine aj "4kz" ?_;refine WL.val (V.dw eB (ak rfl) (ak rfl) (fun hc=>by omega) (fun hc=>Seq.dD hs ay)) rfl<|WL.val (V.load isAgg3 (ak rfl) (fun hc=>Seq.dD hs ay)) rfl<|aj "9j" (aW (fun h1=> ?_) fun h1=> ?_)
  ·simp only[cZ,Bv] at h1;refine aj "ed" ?_;exact qR F rfl rfl cO ⟨by rw[ag9 ay hp h1],rfl⟩
  ·simp only[cZ,Bv] at h1;refine aj "i6" ?_;refine⟨i+1,⟨by show i+1≤m;omega, ?_⟩,(by show m-(i+1)<m-i;omega),.cons rfl bC,fun w h=>h⟩;rw[take_add_one,getElem?_eq_getElem ay,←Kz];simp only[Option.toList,mem_append,mem_singleton];rintro (h | h)
   ·exact hp h
   ·exact h1 h
 ·refine aj "NI" ?_;obtain rfl:i=m:=by omega
  rw[take_of_length_le ay] at hp;exact qR F rfl rfl cO ⟨by unfold YN;rw[if_neg hp],rfl⟩
theorem zU(hs:Seq K F A m 1 (ints .i64 xs))(hm:m≤1000000)(b:Int) :
 aK prog 119 #[.slice A m cap,.i b] K F (.bool (decide (b∈xs))):=by
 refine aB.en func119 ntmps119 ?_;refine aj "aX" ?_;refine WL.t2 call187 rfl rfl (R6 hs hm b) rfl<|aj "~jd" ?_;exact qR F rfl rfl cO ⟨by rw[aae],rfl⟩
theorem Xn(hb:Rd K F (some ⟨b3,0,none⟩) (.i b))(x:Int):aK prog 121 ([Value.int .i64 x]++[ptr b3 0]).toArray K F (.bool (decide (x=b))):=by
 simp only[cons_append,nil_append];refine aB.en func121 ntmps121 ?_;refine aj "ak" ?_;exact WL.val (V.load isAgg3 (ak rfl) (fun hc=>hb)) rfl<|aj "9d+" trivial
def gX(b:Int)(l:List Int):List Int:=l.filter fun x=> !decide (x=b)
def St.forget(T:St)(b:Int):St:= { T with cu:=T.cu.map (gX b) }
theorem Nj{T:bZ}(hT:T.Ok g)(b:Int):aB prog 63 #[ptr bs 0,.i b] K (T.A bs bd g::F)
 (fun v H'=>∃T':bZ,T'.Ok g∧T'.aC=T.aC.forget b∧H'=T'.A bs bd g::F):=by
 have arS:T.fA.length≤64:=by rw[hT.len];exact hT.aJ.2
 refine aB.afd ?_;dsimp only[bZ.parts,cons_append,nil_append];refine aB.en func63 ntmps63 ?_;refine aj "a~k" fun b3=> ?_;refine aj "be@pnQ" ?_;refine WC.loop (σ:=Nat×List bW) (fun s=>[(0,ptr bs 0),(3,ptr b3 0),(9,.slice (some ⟨T.b8,0,none⟩) T.fA.length T.fA.length),(10,.i (T.fA.length:Int)),(11,.i (s.1:Int))]) (fun s=>ah T.b8 124 (s.2.map bW.v)::bK (s.2.map bW.row)::ah b3 3 [.i b]::ah bs 127 (T.cells bd g)::T.sl::F) (fun s=>s.1≤T.fA.length∧s.2.length=T.fA.length∧s.2.map bW.l=(T.fA.take s.1).map (fun r=>gX b r.l)++(T.fA.drop s.1).map bW.l) (fun s=>T.fA.length-s.1) (0,T.fA) ⟨zero_le _,rfl,by simp⟩ bC (fun w h=>h.bg 5 [3,4,0,1,2] rfl) ?_;rintro⟨j,fA⟩ ⟨hj,GQ,ZA⟩;dsimp only at hj GQ ZA ⊢;have JM:(T.cells bd g)[7]? =some (.slice (some ⟨T.b8,0,none⟩) T.fA.length T.fA.length):=rfl;refine aj "SU" (aW (fun aL=> ?_) fun aL=> ?_)
 ·have Wx:j<T.fA.length:=ay;obtain⟨r,hr⟩:∃r,r=fA[j]'ay:=⟨_,rfl⟩;have RZ:fA[j]? =some r:=by rw[hr];exact getElem?_eq_getElem ay
  have hvg:(fA.map bW.v)[0+((j:Nat):Int).toNat*1]? =some r.v:=by rw[show 0+((j:Nat):Int).toNat*1=j by omega,getElem?_map,RZ];rfl
  have acy:(fA.map bW.row)[j]'(by rw[length_map];omega)=r.row:=by rw[getElem_map,hr]
  have pG:r.l=(T.fA[j]'ay).l:=by
   have h1:(fA.map bW.l)[j]? =some r.l:=by rw[getElem?_map,RZ];rfl
   rw[ZA,getElem?_append_right (by rw[length_map,length_take];omega),length_map,length_take,show j-min j T.fA.length=0 by omega,getElem?_map,getElem?_drop,Nat.add_zero,getElem?_eq_getElem ay] at h1;injection h1 with h1
   exact h1.symm
  refine aj "4~t" ?_;refine WL.val (V.load isAgg124 (ak rfl) (fun _=>Rd.here hvg)) rfl ?_;refine aj "og" ?_;refine WC.sub (H':=aV (.slice r.A r.l.length r.c) 3 1 r.l.length (ints .i64 r.l)::ah T.b8 124 (fA.map bW.v)::bK ((fA.map bW.row).eraseIdx j)::ah b3 3 [.i b]::ah bs 127 (T.cells bd g)::T.sl::F) (Sub.refl _) (fun w h=>by
   have h4:=Sat.FQ (k:=j) (by rw[length_map];omega) (h.bg 2 [1,0] rfl);rw[acy] at h4;exact h4.bg 3 [0,2,1] rfl) ?_
  refine WC.dM (bK ((fA.map bW.row).eraseIdx j)::ah b3 3 [.i b]::ah bs 127 (T.cells bd g)::T.sl::F) (by kernel_rfl)<|aj "m0[1Z2" ?_;refine WA.t 3 rfl (V.load isAgg125 (ak rfl) (fun _=>by repeat (first | exact Rd.here JM | apply Rd.up))) ?_;refine aj "m4m5" ?_;refine WA.t 6 rfl (V.makeFunc (us:=[]) (vs:=[_]) trivial ⟨ak rfl,trivial⟩) ?_;refine WA.o 7 rfl ?_;refine WL.c2 call120 rfl rfl (Tk (xs:=r.l) (p:=fun x=>decide (x=b)) (O1:=[ptr b3 0]) call121 (fun x _ X=>Xn lD x)) rfl ?_;rintro _ _ ⟨q,hq,rfl,rfl⟩;refine aj "b~c8l9" ?_;refine WL.store (cs:=[_]) sizeOf124 (ak rfl) (ak rfl) rfl rfl rfl (bT.up (bT.at_ (by rw[length_map];omega)))<|aj "bK6" ?_;refine⟨(j+1,fA.set j ⟨r.A,r.c,gX b r.l⟩),⟨Wx,by show (fA.set _ _).length=T.fA.length;rw[length_set];exact GQ, ?_⟩,(by show T.fA.length-(j+1)<T.fA.length-j;omega),.cons rfl bC,fun w h=> ?_⟩
  ·show (fA.set j _).map bW.l=(T.fA.take (j+1)).map (fun r=>gX b r.l)++(T.fA.drop (j+1)).map bW.l;rw[map_set,ZA,set_append_right _ _ (by rw[length_map,length_take];omega),length_map,length_take,show j-min j T.fA.length=0 by omega,drop_eq_getElem_cons (show j<T.fA.length by omega),map_cons,set_cons_zero,take_add_one,getElem?_eq_getElem ay,map_append,append_assoc];show _++gX b r.l::_=_++([gX b (T.fA[j]'ay).l]++_);rw[pG];rfl
  ·subst hq;have e1:aV (.slice r.A (r.l.filter fun x=> !decide (x=b)).length r.c) 3 1 (r.l.filter fun x=> !decide (x=b)).length (ints .i64 (r.l.filter fun x=> !decide (x=b)))=bW.row ⟨r.A,r.c,gX b r.l⟩:=rfl;rw[e1] at h;have h6:=Sat.Na (l:=fA.map bW.row) (k:=j) (by rw[length_map];omega) (h.bg 3 [0,2,1] rfl);have e2:(fA.map bW.v).set (0+(j:Int).toNat*1) (.slice r.A (r.l.filter fun x=> !decide (x=b)).length r.c)=(fA.set j ⟨r.A,r.c,gX b r.l⟩).map bW.v:=by
    rw[show 0+((j:Nat):Int).toNat*1=j by omega,map_set];rfl
   rw[e2,←map_set] at h6;exact h6.p1
 ·refine WC.exit ?_;obtain rfl:j=T.fA.length:=by omega
  obtain⟨T',Oo⟩:∃T':bZ,T'= { T with fA:=fA }:=⟨_,rfl⟩;refine aF.normal (H':=T'.A bs bd g::F) (bJ.none rfl) (fun w h=> ?_) ⟨T', ?_, ?_,rfl⟩
  ·refine Sat.all (l:=bZ.parts bs bd g T') (H:=F) ?_;rw[Oo];unfold bZ.parts bZ.cells;dsimp only;rw[GQ];exact h.bg 5 [3,4,0,1] rfl
  ·rw[Oo];exact⟨by show fA.length=T.stands.length;rw[GQ,hT.len],hT.aJ,hT.next,hT.at_,hT.Md⟩
  ·rw[Oo];unfold bZ.aC St.forget;dsimp only;rw[ZA,take_of_length_le ay,drop_eq_nil_of_le ay];simp
theorem X6:aB prog 62 #[ptr bs 0] K F (fun v H'=>∃b1,v= .func (.func 117) #[] #[ptr b1 0]∧H'=ah b1 28 [ptr bs 0]::F):=by
 refine aB.en func62 ntmps62 ?_;refine aj "a~k" fun b1=> ?_;refine aj "w~5d" ?_;exact qR (ah b1 _ _::F) rfl rfl cO ⟨b1,rfl,rfl⟩
theorem Xt{n:Nat}(hn:g.bl=(n:Int))(yO:g.aU)(Zb:0≤J5∧J5<g.bl)(I:Nat→Cw→bZ→Prop)(Stop:aH→List aH→Prop)
 (hI:∀j C T,I j C T→C.Ok∧C.g=g∧T.Ok g∧T.stands=Md∧T.at_=J5)
 (abe:∀j C T,j<n→¬((J5+(j:Int))%g.bl∈gd∧¬(J5+(j:Int))%g.bl∈Md)→I j C T→I (j+1) C T)
 (
  Ba:∀j C T X,j<n→((J5+(j:Int))%g.bl∈gd∧¬(J5+(j:Int))%g.bl∈Md)→I j C T→jY prog K none l #[.i ((J5+(j:Int))%g.bl)] (Y1::Y2::X::C.A bc::dA bd bc g::T.A bs bd g::ah b1 28 [ptr bs 0]::F)
   (fun b H'=>(b=true∧∃C' T',I (j+1) C' T'∧H'=Y1::Y2::X::C'.A bc::dA bd bc g::T'.A bs bd g::ah b1 28 [ptr bs 0]::F)∨(b=false∧Stop X H')))
  (L9:gd=C0.aC.dW) (h0:I 0 C0 T0) :
 aB prog 117 #[.func (.yield l) #[] #[],ptr b1 0] K (Y1::Y2::C0.A bc::dA bd bc g::T0.A bs bd g::ah b1 28 [ptr bs 0]::F)
  (fun v H'=>∃X,(∃C T,I n C T∧H'=Y1::Y2::X::C.A bc::dA bd bc g::T.A bs bd g::ah b1 28 [ptr bs 0]::F)∨Stop X H'):=by
 have uJ:=yO;unfold bQ.aU at uJ;obtain⟨hC0,akK,hT0,aho,ari⟩:=hI _ _ _ h0;have hgl:gd.length≤256:=by
  have h1:=aD.jK C0.aC C0.aC.g.bl.toNat;have h2:C0.aC.g.bl.toNat≤256:=by rw[show C0.aC.g=C0.g from rfl,akK];omega
  rw[L9];unfold aD.dW;omega
 refine aB.aaR func117 rfl ntmps117 rfl ?_;simp only[kV,reduceAdd];refine aj "a_R" ?_;refine WL.val (V.load isAgg70 (ak rfl) (fun _=>by repeat (first | exact bZ.FH 0 _ rfl | apply Rd.up))) rfl<|WL.sub (Sub.refl _) (fun w h=>h.bg 6 [2,3,0,1,4,5] rfl)<|WL.c1 call118 rfl (ER hC0 akK) rfl ?_;rintro _ _ ⟨Ag,cg,rfl,rfl⟩;rw[←L9];refine aj "w_R7" ?_;refine WL.val (V.load isAgg3 (ak rfl) (fun _=>by repeat (first | exact bZ.FH 1 _ rfl | apply Rd.up))) rfl<|aj "Q" ?_;obtain⟨X,hX⟩:∃X,X=aV (.slice Ag gd.length cg) 3 1 gd.length (ints .i64 gd):=⟨_,rfl⟩;rw[←hX];have Oi:∀ {H:List aH},Seq K (X::H) Ag gd.length 1 (ints .i64 gd):=fun {H}=>by rw[hX];exact aV.seq (by rw[bR,Nat.mul_one])
 refine WC.loop (σ:=Nat×Cw×bZ) (fun s=>[(0,.func (.yield l) #[] #[]),(1,ptr b1 0),(3,.slice Ag gd.length cg),(15,.i (n:Int)),(16,.i (s.1:Int))]) (fun s=>Y1::Y2::X::s.2.1.A bc::dA bd bc g::s.2.2.A bs bd g::ah b1 28 [ptr bs 0]::F) (fun s=>s.1≤n∧I s.1 s.2.1 s.2.2) (fun s=>n-s.1) (0,C0,T0) ⟨zero_le _,h0⟩ (.cons rfl (.cons rfl (.cons rfl (.cons (look_eq rfl (by rw[hn])) bC)))) (fun w h=>h.bg 7 [3,4,0,1,2,5,6] rfl) ?_;rintro⟨j,C,T⟩ ⟨hj,hIj⟩;dsimp only at hj hIj ⊢;obtain⟨hC,hCg,hT,dL,Zb⟩:=hI _ _ _ hIj;refine aj "SU" (aW (fun aL=> ?_) fun aL=> ?_)
 ·have Wx:j<n:=ay;obtain⟨b,hb⟩:∃b,b=(J5+(j:Int))%g.bl:=⟨_,rfl⟩;have hro:=Ba j C T X Wx;have hsk:=abe j C T Wx;rw[←hb] at hro hsk;refine aj "4t" ?_;refine WC.Rm (by kernel_rfl) (by kernel_rfl)<|aj "~~~m~.~y" ?_;refine WQ.val (V.aG (v':= .i J5) (V.load isAgg3 (ak rfl) (fun _=>by repeat (first | exact bZ.FH 9 _ rfl | apply Rd.up))) (fun _=>by rw[Zb])) rfl<|aj ".~~o~~~m~.~y~y" ?_;refine WQ.val (V.load isAgg3 (ak rfl) (fun _=>by repeat (first | exact bZ.FH 1 _ rfl | apply Rd.up))) rfl<|WQ.val (V.aG (v':= .i b) (V.Av (ak rfl) (ak rfl) (fun _=>by omega)) (fun _=>by rw[hb])) rfl<|aj "~n~irc" ?_;refine WL.t2 call119 rfl rfl (zU (by repeat (first | exact Oi | apply Seq.up)) ay b) rfl<|aj "%c" ?_;refine WL.bI (oj:=_) rfl rfl rfl GC.f (V.load isAgg28 (ak rfl) (fun hc=>by repeat (first | exact Rd.here rfl | apply Rd.up))) rfl<|aj "~~p~0" ?_;refine WL.bI (oj:=_) rfl rfl rfl GC.f (V.load isAgg124 (OV.g rfl id) (fun hc=>by repeat (first | exact bZ.FH 6 _ rfl | apply Rd.up))) rfl<|aj "V" ?_;refine WL.nL (oj:=_) (vs:=[_,_]) rfl rfl rfl GC.f call119 ⟨OV.g rfl id,OV.g rfl id,trivial⟩ (fun hg=>zU (by repeat (first | exact bZ.aks | apply Seq.up)) (by have :=hT.aJ;omega) b) rfl<|aj "Oj" (aW (fun h1=> ?_) fun h1=> ?_)
  ·rw[dL] at h1;refine aj "N6" ?_;exact⟨(j+1,C,T),⟨Wx,hsk (fun hn=>by simp only[Bool.or_eq_true,Bool.not_eq_true',cZ] at h1;rcases h1 with h | h;exact h hn.1;exact hn.2 h) hIj⟩,(by show n-(j+1)<n-j;omega),.cons rfl bC,fun w h=>h⟩
  ·rw[dL] at h1;refine aj "Wc" ?_;refine WL.afm (r:=none) (l:=l) (vs:=[_]) (ak rfl) ⟨ak rfl,trivial⟩ (hro (by simpa using h1) hIj) rfl ?_;rintro yb YH hy;refine aj "%j" (aW (fun h2=> ?_) fun h2=> ?_)
   ·simp only[Bool.not_eq_true',Bool.not_eq_false'] at h2;have alH:Stop X YH:=by
     rcases hy with ⟨h3,_⟩ | ⟨_,h3⟩
     ·rw[h3] at h2;cases h2
     ·exact h3
    exact WC.ret<|aF.ret (H':=YH) (bJ.none rfl) cO ⟨X,.inr alH⟩
   ·simp only[Bool.not_eq_true',Bool.not_eq_false'] at h2;obtain⟨C2,T2,hI2,rfl⟩:∃C2 T2,I (j+1) C2 T2∧YH=Y1::Y2::X::C2.A bc::dA bd bc g::T2.A bs bd g::ah b1 28 [ptr bs 0]::F:=by
     rcases hy with ⟨_,h3⟩ | ⟨h3,_⟩
     ·exact h3
     ·rw[h3] at h2;cases h2
    refine aj "i6" ?_;exact⟨(j+1,C2,T2),⟨Wx,hI2⟩,(by show n-(j+1)<n-j;omega),.cons rfl bC,fun w h=>h⟩
 ·refine WC.exit ?_;obtain rfl:j=n:=by omega
  exact aF.normal (H':=Y1::Y2::X::C.A bc::dA bd bc g::T.A bs bd g::ah b1 28 [ptr bs 0]::F) (bJ.none rfl) cO ⟨X,.inl ⟨C,T,hIj,rfl⟩⟩
def pJ(g:bQ)(h:Hd)(d:List Nat):Nat→List Nat
 | 0=>jP g h
 | p+1=>(d.drop (p*g.room.toNat)).take g.room.toNat++replicate (g.room.toNat-((d.drop (p*g.room.toNat)).take g.room.toNat).length) 0
def gu(S:aD)(b:Int)(pg:Nat→List Nat):Nat→aD×Int
 | 0=>(S,0)
 | k+1=>if (gu S b pg k).2≠0 then gu S b pg k else (gu S b pg k).1.dK b k (pg k)
def dI(S:aD)(num b aS:Int)(d:List Nat):aD×Int :=
 if (S.bB b).2≠0 then S.bB b
 else gu (S.bB b).1 b (pJ S.g ⟨aS,d.length,num⟩ d) ((S.g.bN d.length).toNat+1)
theorem QK(h:(gu S b pg k).2≠0):∀m,gu S b pg (k+m)=gu S b pg k
 | 0=>rfl
 | m+1=>by rw[←Nat.add_assoc,gu,QK h m,if_pos h]
theorem Bg(hd:aA 256 d):∀p,aA 256 (pJ g h d p)
 | 0=>yN g h
 | p+1=>by
  unfold pJ;intro x hx;rcases mem_append.1 hx with hx | hx
  ·exact aA.take (aA.drop hd) x hx
  ·rw[eq_of_mem_replicate hx];decide
theorem rG(hg:g.aU):∀p,(pJ g h d p).length=g.room.toNat
 | 0=>pQ hg h
 | p+1=>by
  unfold pJ;rw[length_append,length_replicate];have :=length_take_le (g.room.toNat) (d.drop (p*g.room.toNat));omega
theorem Sc{g:bQ}(hg:g.aU)(h:m≤k*g.room.toNat):(g.bN m).toNat≤k:=by
 have hr:=bQ.kP hg;have h1:g.bN m<(k:Int)+1:=by
  unfold bQ.bN;refine Int.ediv_lt_of_lt_mul ay ?_;have :((k*g.room.toNat:Nat):Int)=(k:Int)*g.room:=by rw[Int.natCast_mul];congr 1;omega
  rw[Int.add_mul,Int.one_mul];omega
 omega
theorem WW{g:bQ}(hg:g.aU)(h:k*g.room.toNat<m):k<(g.bN m).toNat:=by
 have hr:=bQ.kP hg;have h1:(k:Int)+1≤g.bN m:=by
  unfold bQ.bN;refine Int.le_ediv_of_mul_le ay ?_;have :((k*g.room.toNat:Nat):Int)=(k:Int)*g.room:=by rw[Int.natCast_mul];congr 1;omega
  rw[Int.add_mul,Int.one_mul];omega
 omega
theorem PG{T:bZ}{C:Cw}(hC:C.Ok)(hg:C.g=g)(hT:T.Ok g)(hd:Seq K F A m 1 (av .u8 d))(h8:aA 256 d)(Og:m≤cap)(hm:m≤1000000)
 (J7:0≤aS) (EC:Hd.may g ⟨aS,(d.length:Nat),T.next⟩=true):aB prog 64 #[ptr bs 0,.i b,.i aS,.slice A m cap] K (C.A bc::dA bd bc g::T.A bs bd g::F)
 (fun v H'=>∃C':Cw,C'.Ok∧C'.g=g∧C'.aC=(dI C.aC T.next b aS d).1∧v= .i (dI C.aC T.next b aS d).2∧H'=C'.A bc::dA bd bc g::T.A bs bd g::F):=by
 have yO:g.aU:=by rw[←hg];exact hC.aU
 have Od:C.aC.g=g:=hg;have RN:=bQ.kP yO;have wF:d.length=m:=by simpa [av] using hd.len
 obtain⟨X,hX⟩:∃X,X=dI C.aC T.next b aS d:=⟨_,rfl⟩;rw[←hX];unfold dI at hX;rw[Od,wF] at hX;rw[wF] at EC;obtain⟨R,hR⟩:∃R:Nat,g.room=(R:Int):=⟨g.room.toNat,by omega⟩;have hRn:g.room.toNat=R:=ay;have hRb:1≤R∧R≤4096:=ay;refine aB.en func64 ntmps64 ?_;refine aj "afR" ?_;refine WL.val (V.load isAgg70 (ak rfl) (fun _=>by repeat (first | exact bZ.FH 0 _ rfl | apply Rd.up))) rfl<|WL.mv rfl rfl (WL.c2 call104 rfl rfl (Ce hC hg b) rfl ?_);rintro _ _ ⟨C1,RP,EH,rfl,uM,rfl⟩;refine aj "ksb~e" (aW (fun h0=> ?_) fun h0=> ?_)
 ·rw[if_pos h0] at hX;refine aj "ed" ?_;subst hX;exact qR (C1.A bc::dA bd bc g::T.A bs bd g::F) rfl rfl cO ⟨C1,RP,EH,uM,rfl,rfl⟩
 ·rw[if_neg (fun h=>h ay)] at hX;refine aj "WR" ?_;refine WL.val (V.fE (vs:=[.i g.bl,.i g.pg,.i g.se,.i g.sb,.i g.fl]) ⟨isAgg23,sizeOf23⟩ (ak rfl) rfl (fun _=>by repeat (first | exact bZ.rdg | apply fH.up))) rfl<|WL.t1 call122 rfl (lW yO) rfl<|aj "Et" ?_;refine WC.dM (C1.A bc::dA bd bc g::T.A bs bd g::F) (by kernel_rfl)<|aj "m0[1Z2" ?_;refine WA.t 3 rfl (V.fE (vs:=[.i g.bl,.i g.pg,.i g.se,.i g.sb,.i g.fl]) ⟨isAgg23,sizeOf23⟩ (ak rfl) rfl (fun _=>by repeat (first | exact bZ.rdg | apply fH.up))) ?_;refine aj "m4m5~~;6m7[8Z9" ?_;refine WA.t 10 rfl (V.load isAgg3 (ak rfl) (fun _=>by repeat (first | exact bZ.FH 8 _ rfl | apply Rd.up))) ?_;refine WA.t 11 rfl (V.build (vs:=[(0,_),(1,_),(2,_)]) ⟨ak rfl,ak rfl,ak rfl,trivial⟩ rfl (u7 _ _ _)) ?_;refine WA.o 12 rfl ?_;refine WL.c2 call123 rfl rfl (Az yO ⟨aS,(m:Nat),T.next⟩ (by show (m:Int)≤_;omega) J7 (by show 0≤T.next;have :=hT.next;omega)) rfl ?_;rintro v5 H5 h5;obtain⟨Ap,cp,rfl,rfl⟩:∃Ap cp,v5= .tuple #[.slice Ap g.room.toNat cp,.i 0]∧H5=aV (.slice Ap g.room.toNat cp) 5 1 g.room.toNat (av .u8 (jP g ⟨aS,(m:Nat),T.next⟩))::C1.A bc::dA bd bc g::T.A bs bd g::F:=by
   rcases h5 with ⟨_,h⟩ | ⟨h,_⟩
   ·obtain⟨Ap,cp,h⟩:=h;exact⟨Ap,cp,h.1,h.2⟩
   ·rw[EC] at h;cases h
  refine aj "bm=~a>~a?~p@~pAKagu" ?_;obtain⟨pg,Dt⟩:∃pg,pg=pJ g ⟨aS,(m:Nat),T.next⟩ d:=⟨_,rfl⟩;obtain⟨N,hN⟩:∃N,N=(g.bN (m:Nat)).toNat:=⟨_,rfl⟩;rw[←Dt,←hN] at hX;have qY:∀p,aA 256 (pg p):=fun p=>by rw[Dt];exact Bg h8 p
  have l7:∀p,(pg p).length=R:=fun p=>by rw[Dt,rG yO p,hRn]
  have hpp:∀k,m≤k*R→N≤k:=fun k h=>by rw[hN];exact Sc yO (by rw[hRn];exact h)
  have JO:∀k,k*R<m→k<N:=fun k h=>by rw[hN];exact WW yO (by rw[hRn];exact h)
  rw[hRn];refine WC.loop (σ:=Cw×Nat×Option Addr×Nat×Option Addr×Nat) (fun s=>[(0,ptr bs 0),(1,.i b),(3,.slice s.2.2.1 (m-s.2.1*R) s.2.2.2.1),(10,.i (R:Int)),(12,.slice s.2.2.2.2.1 R s.2.2.2.2.2),(13,.i 0),(14,.i (s.2.1:Int))]) (fun s=>aV (.slice s.2.2.2.2.1 R s.2.2.2.2.2) 5 1 R (av .u8 (pg s.2.1))::s.1.A bc::dA bd bc g::T.A bs bd g::F) (fun s=>s.1.Ok∧s.1.g=g∧s.2.1≤N∧(gu (C.aC.bB b).1 b pg s.2.1).2=0∧s.1.aC=(gu (C.aC.bB b).1 b pg s.2.1).1∧Seq K F s.2.2.1 (m-s.2.1*R) 1 (av .u8 (d.drop (s.2.1*R)))∧m-s.2.1*R≤s.2.2.2.1) (fun s=>N-s.2.1) (C1,0,A,cap,Ap,cp) ⟨RP,EH,zero_le _,rfl,uM,by simpa using hd,by show m-0*R≤cap;omega⟩ (.cons rfl (.cons rfl (.cons (look_eq rfl (by simp)) (.cons (look_eq rfl (by rw[hR])) bC)))) (fun w h=>by dsimp only;rw[Dt];exact h) ?_;rintro⟨C2,p,Ad,cd,Aq,cq⟩ ⟨Bz,U1,hpN,hw0,hw1,UN,hcd⟩;dsimp only at Bz U1 hpN hw0 hw1 UN hcd ⊢;have dL:gu (C.aC.bB b).1 b pg (p+1)=C2.aC.dK b p (pg p):=by rw[gu,if_neg (fun h=>h hw0),←hw1]
  refine WC.lG (p:=R≤cq) (fun w h=>by
   obtain⟨_,cap',hv,hle,_⟩:=aV.shape h.head;injection hv with _ _ e3
   rw[e3];exact hle) (fun hrq=> ?_)
  refine aj "Pur9b2hR" ?_;refine WL.val (V.load isAgg70 (ak rfl) (fun _=>by repeat (first | exact bZ.FH 0 _ rfl | apply Rd.up))) rfl<|aj "zc~~g" ?_;refine WL.c4 call124 rfl rfl rfl rfl (M6 (d:=pg p) Bz U1 b p (aV.seq (by rw[au,Nat.mul_one,l7])) (qY p) hrq ay) rfl ?_;rintro _ _ ⟨C3,TS,hg3,rfl,hs3,rfl⟩;rw[←dL] at hs3 ⊢;refine aj "fscV~J~~ZOj" (aW (fun h2=> ?_) fun h2=> ?_)
  ·simp only[Bool.or_eq_true,Bool.or_eq_false_iff,oK] at h2;have acM:gu (C.aC.bB b).1 b pg (N+1)=gu (C.aC.bB b).1 b pg (p+1):=by
    by_cases he:(gu (C.aC.bB b).1 b pg (p+1)).2=0
    ·have h3:((m-p*R:Nat):Int)=0:=by rcases h2 with h | h;exact absurd he h;exact h
     have h4:=hpp p ay;rw[show p=N by omega]
    ·have :=QK he (N-p);rw[show p+1+(N-p)=N+1 by omega] at this;exact this
   rw[acM] at hX;refine aj "ed" ?_;subst hX;exact qR (C3.A bc::dA bd bc g::T.A bs bd g::F) rfl rfl (fun w h=>h.bg 4 [0,1,3] rfl) ⟨C3,TS,hg3,hs3,rfl,rfl⟩
  ·simp only[Bool.or_eq_true,Bool.or_eq_false_iff,oK] at h2;have he:(gu (C.aC.bB b).1 b pg (p+1)).2=0:=by have :=h2.1;omega
   have Bw:p*R<m:=by have :=h2.2;omega
   have aor:=JO p Bw;obtain⟨q,hq⟩:∃q,q=min R (m-p*R):=⟨_,rfl⟩;have Zd:=Seq.OH UN (show q≤m-p*R by omega) hcd;rw[kQ,drop_drop] at Zd;have XR:=Seq.take UN (show q≤m-p*R by omega);rw[dU] at XR;have pI:(p+1)*R=p*R+R:=succ_mul _ _;have hpb:=Nat.le_mul_of_pos_right p (show 0<R by omega);have amM:pg (p+1)=(d.drop (p*R)).take q++replicate (R-q) 0:=by
    rw[Dt];show (d.drop (p*g.room.toNat)).take g.room.toNat++replicate (g.room.toNat-((d.drop (p*g.room.toNat)).take g.room.toNat).length) 0=_;rw[hRn,length_take,length_drop,wF,←hq];have :(d.drop (p*R)).take R=(d.drop (p*R)).take q:=by
     have h9:q=min R (d.drop (p*R)).length:=by rw[length_drop,wF];exact hq
     rw[h9,←take_eq_take_min]
    rw[this]
   refine aj "Wcn" ?_;refine WL.val (V.aG (v':= .i (q:Int)) (V.min (ak rfl) (ak rfl)) (fun _=>by rw[hq];refine congrArg (Value.int .i64) ?_;omega)) rfl ?_;refine aj "X" ?_;refine WL.val (V.aG (v':= .slice Ad q cd) (V.slice (l:=0) (h:=q) (u:=cd) dO (ak rfl) OO.none (OO.some (ak rfl) (fun _=>rfl)) OO.none (by simp) (zero_le _) ay (Nat.le_refl _)) (fun _=>by rw[Nat.sub_zero,Nat.sub_zero,zK])) rfl<|WL.c1 call125 rfl (lY (by repeat (first | exact XR | apply Seq.up)) ay) rfl ?_;rintro _ _ ⟨A1,c1,rfl,rfl⟩;refine aj "z`" ?_;refine WL.Gx (m:=q) (q:=R-q) underlying34 underlying3 yL rfl rfl (ak rfl) (ak rfl) ay ay ay rfl (fun A5 c5 Zu wQ=>aj "gM" ?_);refine WL.val (V.slice (l:=q) (h:=m-p*R) (u:=cd) dO (ak rfl) (OO.some (ak rfl) (fun _=>rfl)) OO.none OO.none (by simp) ay ay (Nat.le_refl _)) rfl<|aj "gh$Y" ?_;have e1:q+(R-q)=R:=ay;have e2:m-p*R-q=m-(p+1)*R:=ay;refine⟨(C3,p+1,(if cd=q then Ad else Ad.map (·.add (q*1))),cd-q,A5,c5),⟨TS,hg3,aor,he,hs3, ?_, ?_⟩,(by show N-(p+1)<N-p;omega),.cons rfl (.cons rfl (.cons (look_eq rfl (by dsimp only;rw[e2])) (.cons rfl (.cons (look_eq rfl (by dsimp only;rw[e1])) (.cons (look_eq rfl (by rw[he])) bC))))),fun w h=> ?_⟩
   ·dsimp only;rw[e2] at Zd;have e3:d.drop (p*R+q)=d.drop ((p+1)*R):=by
     by_cases hRm:R≤m-p*R
     ·rw[show p*R+q=(p+1)*R by omega]
     ·rw[drop_eq_nil_of_le ay,drop_eq_nil_of_le ay]
    rw[e3] at Zd;exact Zd
   ·show m-(p+1)*R≤cd-q;omega
   ·dsimp only;rw[amM,dx,eD];rw[e1] at h;exact h.bg 5 [0,1,2,4] rfl
theorem bT.all(h:bT K (l++H) b o vs (l'++H)):bT K (bK l::H) b o vs (bK l'::H):=by
 have conv:∀(L:List aH) (k:Nat),(∃B∈L++H,B.jA k)→∃B∈bK L::H,B.jA k:=fun L k ⟨B,hB,hf⟩=>by
  rcases mem_append.1 hB with hB | hB
  ·exact⟨bK L,.head _,B,hB,hf⟩
  ·exact⟨B,.tail _ hB,hf⟩
 refine⟨fun B' Y7 k hk=> ?_,conv l b h.own,fun w hw=>h.may w (bO.all.1 hw),fun w hw=>bO.all.2 (h.sat w (bO.all.1 hw))⟩;rcases mem_cons.1 Y7 with rfl | Y7
 ·obtain⟨A,hA,hf⟩:=hk;exact conv l k (h.agY A (mem_append_left _ hA) k hf)
 ·exact⟨B',.tail _ Y7,hk⟩
theorem bT.slA(ho:o<m):bT K (aV (.slice (some ⟨gb,0,none⟩) m cap) E 1 m cs::H) gb o [v] (aV (.slice (some ⟨gb,0,none⟩) m cap) E 1 m (cs.set o v)::H):=by
 have nS:∀w:World,RA w w:=fun w=>⟨rfl,rfl,rfl,Nat.le_refl _⟩;refine⟨fun B' Y7 k hk=> ?_,⟨_,.head _,rfl⟩,fun w hw=> ?_,fun w hw=> ?_⟩
 ·rcases mem_cons.1 Y7 with rfl | h
  ·exact⟨_,.head _,hk⟩
  ·exact⟨_,.tail _ h,hk⟩
 ·obtain⟨r,⟨h1,h2,h3,h4⟩,h5⟩:=Sat.nU (K:=w) ⟨nS w,hw⟩;exact (bT.at_ (K:=w) (T:=E) (cs:=cs++r) (v:=v) (by rw[length_append];omega)).may w h5.2
 ·obtain⟨r,⟨h1,h2,h3,h4⟩,h5⟩:=Sat.nU (K:=w) ⟨nS w,hw⟩;have h6:=(bT.at_ (K:=w) (H:=H) (b:=gb) (T:=E) (o:=o) (cs:=cs++r) (v:=v) (by rw[length_append];omega)).sat w h5.2;have h7:=Sat.BX (K:=w.setCells gb o [v]) (s:=1) (m:=m) (cap:=cap) ⟨nS _,h6⟩ (by rw[length_set];exact h1) h3 h4;rw[set_append_left _ _ ay,Nat.mul_one,take_left' (by rw[length_set];omega)] at h7;exact h7.2
theorem bZ.akJ(T:bZ)(x:Int):bT K (T.A bs bd g::F) bs 8 [.i x] (bZ.A bs bd g { T with next:=x }::F):=bT.all (l:=bZ.parts bs bd g T) (l':=bZ.parts bs bd g { T with next:=x }) (bT.here rfl rfl)
theorem bZ.anJ(T:bZ)(x:Int):bT K (T.A bs bd g::F) bs 9 [.i x] (bZ.A bs bd g { T with at_:=x }::F):=bT.all (l:=bZ.parts bs bd g T) (l':=bZ.parts bs bd g { T with at_:=x }) (bT.here rfl rfl)
theorem bZ.ant{T:bZ}(hA:T.sA=some ⟨g1,0,none⟩)(hi:i<T.stands.length)(x:Int):bT K (T.A bs bd g::F) g1 i [.i x] (bZ.A bs bd g { T with stands:=T.stands.set i x }::F):=by
 refine bT.all (l:=bZ.parts bs bd g T) (l':=bZ.parts bs bd g { T with stands:=T.stands.set i x }) ?_;obtain⟨stands,sA,sc,b8,fA,nx,lF,dd⟩:=T;dsimp only at hA hi ⊢;subst hA;unfold bZ.parts bZ.cells bZ.sl;dsimp only;rw[length_set];refine bT.up ?_;have h1:=bT.slA (K:=K) (H:=[ah b8 124 (fA.map bW.v),bK (fA.map bW.row)]++F) (gb:=g1) (cap:=sc) (E:=3) (cs:=ints .i64 stands) (v:= .i x) hi;have h2:(ints .i64 stands).set i (.i x)=ints .i64 (stands.set i x):=by unfold ints;rw[map_set]
 rw[h2] at h1;exact h1
theorem bZ.afh{T:bZ}(h0:0<T.stands.length)(h:Sat K w (T.A bs bd g::F)):∃g1,T.sA=some ⟨g1,0,none⟩:=by
 have h1:Sat K w (bZ.parts bs bd g T++F):=h.yJ;have h2:Sat K w (T.sl::ah bs 127 (T.cells bd g)::ah T.b8 124 (T.fA.map bW.v)::bK (T.fA.map bW.row)::F):=h1.p1;cases hA:T.sA with
 | none =>
  unfold bZ.sl at h2;rw[hA] at h2;have :=(aV.yM h2).1;omega
 | some a =>
  unfold bZ.sl at h2;rw[hA] at h2;obtain⟨g1,rfl⟩:=aV.addr h2;exact⟨g1,rfl⟩
def St.mark(T:St)(aS:Int):St:=if 0≤T.lF aS then { T with cu:=T.cu.set aS.toNat (T.cu.getD aS.toNat []++[T.lF aS]) } else T
def St.done(T:St)(aS b bl:Int):St:= { T with stands:=T.stands.set aS.toNat b,next:=T.next+1,at_:=(b+1)%bl }
def Eb(aS:Int)(d:List Nat)(S:aD)(T:St)(b:Int):aD×St×Option Int :=
 if (dI S T.next b aS d).2=72 then ((dI S T.next b aS d).1,{ T.forget b with next:=min (T.next+1) 1000000001 },if 1000000000<min (T.next+1) 1000000001 then some 6 else none)
 else if (dI S T.next b aS d).2≠0 then ((dI S T.next b aS d).1,(T.forget b).told (dI S T.next b aS d).2,some (dI S T.next b aS d).2)
 else ((dI S T.next b aS d).1,((T.forget b).mark aS).done aS b S.g.bl,some 0)
def jy(aS:Int)(d:List Nat):List Int→aD→St→aD×St×Option Int
 | [],S,T=>(S,T,none)
 | b::bs,S,T=>if (Eb aS d S T b).2.2=none then jy aS d bs (Eb aS d S T b).1 (Eb aS d S T b).2.1 else Eb aS d S T b
def j4(gd Md:List Int)(J5 bl:Int)(n j:Nat):List Int:=((range' j (n-j)).map fun (i:Nat)=>(J5+(i:Int))%bl).filter fun b=>decide (b∈gd∧¬b∈Md)
theorem SV:j4 gd Md J5 bl n n=[]:=by unfold j4;rw[Nat.sub_self];rfl
theorem Tq{n:Nat}(hj:j<n)(h:(J5+(j:Int))%bl∈gd∧¬(J5+(j:Int))%bl∈Md):j4 gd Md J5 bl n j=(J5+(j:Int))%bl::j4 gd Md J5 bl n (j+1):=by
 unfold j4;rw[show n-j=(n-(j+1))+1 by omega,range'_succ,map_cons,filter_cons_of_pos (by simpa using h)]
theorem XB{n:Nat}(hj:j<n)(h:¬((J5+(j:Int))%bl∈gd∧¬(J5+(j:Int))%bl∈Md)):j4 gd Md J5 bl n j=j4 gd Md J5 bl n (j+1):=by
 unfold j4;rw[show n-j=(n-(j+1))+1 by omega,range'_succ,map_cons,filter_cons_of_neg (by simpa using h)]
def bq(S:aD)(T:St)(aS:Int)(d:List Nat):aD×St×Int :=
 if T.ready aS≠0 then (S,T,T.ready aS)
 else if S.g.cap<d.length then (S,T,2)
 else if 1000000000<T.next then (S,T,6)
 else match jy aS d (j4 S.dW T.stands T.at_ S.g.bl S.g.bl.toNat 0) S T with
  | (S',T',some e)=>(S',T',e)
  | (S',T',none)=>(S',T'.told (if S'.om=70 then 70 else 6),if S'.om=70 then 70 else 6)
set_option maxHeartbeats 1000000 in
theorem Da{T:bZ}{C:Cw}(hC:C.Ok)(hg:C.g=g)(hT:T.Ok g)(hd:Seq K F A m 1 (av .u8 d))(h8:aA 256 d)(Og:m≤cap)(hm:m≤1000000)(qZ:∀l∈T.aC.cu,l.length≤1000000) :
 aB prog 16 #[ptr bs 0,.i aS,.slice A m cap] K (C.A bc::dA bd bc g::T.A bs bd g::F)
 (fun v H'=>∃(C':Cw) (T':bZ),C'.Ok∧C'.g=g∧T'.Ok g∧C'.aC=(bq C.aC T.aC aS d).1∧T'.aC=(bq C.aC T.aC aS d).2.1∧v= .i (bq C.aC T.aC aS d).2.2∧H'=C'.A bc::dA bd bc g::T'.A bs bd g::F):=by
 have yO:g.aU:=by rw[←hg];exact hC.aU
 have Od:C.aC.g=g:=hg;have uJ:=yO;unfold bQ.aU at uJ;have wF:d.length=m:=by simpa [av] using hd.len
 have FR:=bQ.vL yO;obtain⟨n,hn⟩:∃n:Nat,g.bl=(n:Int):=⟨g.bl.toNat,by omega⟩;have hnn:g.bl.toNat=n:=ay;obtain⟨R,hR⟩:∃R,R=bq C.aC T.aC aS d:=⟨_,rfl⟩;rw[←hR];unfold bq at hR;rw[Od,wF] at hR;obtain⟨L,hL⟩:∃L,L=jy aS d (j4 C.aC.dW T.aC.stands T.aC.at_ g.bl g.bl.toNat 0) C.aC T.aC:=⟨_,rfl⟩;rw[←hL] at hR;have BG:T.aC.ready aS=0→0≤aS∧aS<T.stands.length:=fun h=>by
  unfold St.ready bZ.aC at h;dsimp only at h;split at h
  ·cases h
  ·split at h
   ·cases h
   ·omega
 refine aB.aaG func16 rfl ntmps16 rfl ?_;simp only[kV,reduceAdd];refine aj "a~k" fun b3=> ?_;refine aj "~k" fun b4=> ?_;refine aj "~k" fun b5=> ?_;refine aj "v" fun b6=> ?_;refine aj "DP" ?_;refine WC.sub (H':=T.A bs bd g::C.A bc::dA bd bc g::ah b6 32 [.i 0]::ah b5 34 [.slice A m cap]::ah b4 3 [.i aS]::ah b3 28 [ptr bs 0]::F) (Sub.refl _) (fun w h=>h.bg 7 [6,4,5,0,1,2,3] rfl)<|aj "q__" ?_;refine WL.t2 call61 rfl rfl (xk aS) rfl<|aj "ksb~e" (aW (fun h0=> ?_) fun h0=> ?_)
 ·rw[if_pos h0] at hR;refine aj "e~~h0" ?_;subst hR;exact mZ.ret (H':=C.A bc::dA bd bc g::T.A bs bd g::F) (bJ.one rfl (R1.JH rfl isAgg32 lD)) (fun w h=>h.bg 7 [1,2,0] rfl) ⟨C,T,hC,hg,hT,rfl,rfl,rfl,rfl⟩
 ·have KC:T.aC.ready aS=0:=ay;rw[if_neg (fun h=>h KC)] at hR;have Oe:=BG KC;refine aj "HP~m~H~~=~H" ?_;refine WQ.call (vs:=[_]) call50 ⟨ak rfl,trivial⟩ (X4 yO) rfl<|aj "~~q~n~i~e" (aW (fun aQ=> ?_) fun aQ=> ?_)
  ·have h1:=aQ;rw[if_pos ay] at hR;refine aj "a~~h0" ?_;subst hR;exact mZ.ret (H':=C.A bc::dA bd bc g::T.A bs bd g::F) (bJ.one rfl (R1.JH rfl isAgg32 lD)) (fun w h=>h.bg 7 [1,2,0] rfl) ⟨C,T,hC,hg,hT,rfl,rfl,rfl,rfl⟩
  ·have h1:=aQ;rw[if_neg ay] at hR;refine aj "a_R" ?_;refine WL.val (V.load isAgg3 (ak rfl) (fun _=>bZ.FH 8 _ rfl)) rfl<|aj "~Ng~e" (aW (fun h2=> ?_) fun h2=> ?_)
   ·rw[if_pos (show 1000000000<T.aC.next from by show 1000000000<T.next;omega)] at hR;refine aj "a~~h0" ?_;subst hR;exact mZ.ret (H':=C.A bc::dA bd bc g::T.A bs bd g::F) (bJ.one rfl (R1.JH rfl isAgg32 lD)) (fun w h=>h.bg 7 [1,2,0] rfl) ⟨C,T,hC,hg,hT,rfl,rfl,rfl,rfl⟩
   ·rw[if_neg (show ¬1000000000<T.aC.next from by show ¬1000000000<T.next;omega)] at hR;refine aj "~ba_" ?_;refine WL.c1 call62 rfl (X6) rfl ?_;rintro _ _ ⟨KR,rfl,rfl⟩;refine aj "bu" ?_;obtain⟨I,hI⟩:∃I:Nat→Cw→bZ→Prop,I=fun j C' T'=>C'.Ok∧C'.g=g∧T'.Ok g∧T'.stands=T.stands∧T'.at_=T.at_∧T'.next≤1000000000∧(∀l∈T'.aC.cu,l.length≤1000000)∧jy aS d (j4 C.aC.dW T.stands T.at_ g.bl n j) C'.aC T'.aC=L:=⟨_,rfl⟩;refine WC.sub (H':=C.A bc::dA bd bc g::T.A bs bd g::ah KR 28 [ptr bs 0]::ah b6 32 [.i 0]::ah b5 34 [.slice A m cap]::ah b4 3 [.i aS]::ah b3 28 [ptr bs 0]::F) (Sub.refl _) (fun w h=>h.bg 8 [2,3,1,0,4,5,6,7] rfl) ?_;refine WC.range (gf:=117) (lb:=[ptr KR 0]) (Done:=fun H1=>∃X C' T',I n C' T'∧H1=X::C'.A bc::dA bd bc g::T'.A bs bd g::ah KR 28 [ptr bs 0]::ah b6 32 [.i 0]::ah b5 34 [.slice A m cap]::ah b4 3 [.i aS]::ah b3 28 [ptr bs 0]::F) (X:=fun c H1=>∃(X:aH) (C':Cw) (T':bZ) (e:Int),c= .ret∧C'.Ok∧C'.g=g∧T'.Ok g∧L=(C'.aC,T'.aC,some e)∧H1=X::C'.A bc::dA bd bc g::T'.A bs bd g::ah KR 28 [ptr bs 0]::ah b6 32 [.i e]::ah b5 34 [.slice A m cap]::ah b4 3 [.i aS]::ah b3 28 [ptr bs 0]::F) rfl call117 (fun r l e1 e2 e3 hA=> ?_) (fun D H1 hd=> ?_) (fun D c H1 hx=>by
     obtain⟨X,C',T',e,rfl,Zx,N9,Oo,hLe,rfl⟩:=hx;rw[hLe] at hR;dsimp only at hR;subst hR;refine WC.ret ?_;exact mZ.agu (H':=C'.A bc::dA bd bc g::T'.A bs bd g::F) (X::C'.A bc::dA bd bc g::T'.A bs bd g::ah KR 28 [ptr bs 0]::ah b6 32 [.i e]::ah b5 34 [.slice A m cap]::ah b4 3 [.i aS]::ah b3 28 [ptr bs 0]::F) cO (bJ.one rfl (R1.JH rfl isAgg32 lD)) (fun w h=>h.bg 9 [1,2,3] rfl) ⟨C',T',Zx,N9,Oo,rfl,rfl,rfl,rfl⟩)
    have hIe:∀j C' T',I j C' T'→C'.Ok∧C'.g=g∧T'.Ok g∧T'.stands=T.stands∧T'.at_=T.at_:=fun j C' T' h=>by rw[hI] at h;exact⟨h.1,h.2.1,h.2.2.1,h.2.2.2.1,h.2.2.2.2.1⟩
    have ZH:I 0 C T:=by
     rw[hI];refine⟨hC,hg,hT,rfl,rfl,by omega,qZ, ?_⟩;rw[hL,hnn];rfl
    suffices Ba:∀j C' T' X,j<n→((T.at_+(j:Int))%g.bl∈C.aC.dW∧¬(T.at_+(j:Int))%g.bl∈T.stands)→I j C' T'→jY prog K none l #[.i ((T.at_+(j:Int))%g.bl)] (r.A l .ready none::jT r.D::X::C'.A bc::dA bd bc g::T'.A bs bd g::ah KR 28 [ptr bs 0]::ah b6 32 [.i 0]::ah b5 34 [.slice A m cap]::ah b4 3 [.i aS]::ah b3 28 [ptr bs 0]::F)
     (fun b H'=>(b=true∧∃C2 T2,I (j+1) C2 T2∧H'=r.A l .ready none::jT r.D::X::C2.A bc::dA bd bc g::T2.A bs bd g::ah KR 28 [ptr bs 0]::ah b6 32 [.i 0]::ah b5 34 [.slice A m cap]::ah b4 3 [.i aS]::ah b3 28 [ptr bs 0]::F) ∨
      (b=false∧∃(C2:Cw) (T2:bZ) (e:Int),C2.Ok∧C2.g=g∧T2.Ok g∧L=(C2.aC,T2.aC,some e)∧H'=r.A l .done (some .ret)::jT r.D::X::C2.A bc::dA bd bc g::T2.A bs bd g::ah KR 28 [ptr bs 0]::ah b6 32 [.i e]::ah b5 34 [.slice A m cap]::ah b4 3 [.i aS]::ah b3 28 [ptr bs 0]::F)) from by
     have h1:=Xt (b1:=KR) (Y1:=r.A l .ready none) (Y2:=jT r.D) hn yO hT.at_ I (fun X H'=>∃(C2:Cw) (T2:bZ) (e:Int),C2.Ok∧C2.g=g∧T2.Ok g∧L=(C2.aC,T2.aC,some e)∧H'=r.A l .done (some .ret)::jT r.D::X::C2.A bc::dA bd bc g::T2.A bs bd g::ah KR 28 [ptr bs 0]::ah b6 32 [.i e]::ah b5 34 [.slice A m cap]::ah b4 3 [.i aS]::ah b3 28 [ptr bs 0]::F) hIe
      (fun j C' T' hj uN h=>by
       rw[hI] at h ⊢;exact⟨h.1,h.2.1,h.2.2.1,h.2.2.2.1,h.2.2.2.2.1,h.2.2.2.2.2.1,h.2.2.2.2.2.2.1,by rw[←XB hj uN];exact h.2.2.2.2.2.2.2⟩) Ba rfl ZH
     exact h1.mono fun v H' ⟨X,h⟩=>by
      rcases h with ⟨C',T',hI2,e⟩ | ⟨C',T',e,k1,k2,k3,k4,eH⟩
      ·exact⟨none,_,e,X,C',T',hI2,rfl⟩
      ·exact⟨some .ret,_,eH,X,C',T',e,rfl,k1,k2,k3,k4,rfl⟩
    rintro j C' T' X hj afc hIj;obtain⟨b,hb⟩:∃b,b=(T.at_+(j:Int))%g.bl:=⟨_,rfl⟩;rw[←hb] at afc ⊢;refine jY.mono (CS (n:=115) (args:=[.i b]) (post:=fun jj H1=>(jj=none∧∃C2 T2,I (j+1) C2 T2∧H1=jT r.D::X::C2.A bc::dA bd bc g::T2.A bs bd g::ah KR 28 [ptr bs 0]::ah b6 32 [.i 0]::ah b5 34 [.slice A m cap]::ah b4 3 [.i aS]::ah b3 28 [ptr bs 0]::F) ∨
     (jj=some .ret∧∃(C2:Cw) (T2:bZ) (e:Int),C2.Ok∧C2.g=g∧T2.Ok g∧L=(C2.aC,T2.aC,some e)∧H1=jT r.D::X::C2.A bc::dA bd bc g::T2.A bs bd g::ah KR 28 [ptr bs 0]::ah b6 32 [.i e]::ah b5 34 [.slice A m cap]::ah b4 3 [.i aS]::ah b3 28 [ptr bs 0]::F)) (by rw[e1];rfl) (by rw[e1];simp) hA ?_) (fun b2 H' ⟨jj,H1,oH,hj2,eH⟩=>by
     rcases hj2 with ⟨rfl,C2,T2,hI2,rfl⟩ | ⟨rfl,C2,T2,e,k1,k2,k3,k4,rfl⟩
     ·exact .inl ⟨oH,C2,T2,hI2,eH⟩
     ·exact .inr ⟨oH,C2,T2,e,k1,k2,k3,k4,eH⟩)
    rw[e1,e2];rw[hI] at hIj;obtain⟨Zx,N9,Oo,acL,alb,anK,akm,FP⟩:=hIj;rw[Tq hj (by rw[←hb];exact afc),←hb] at FP;have hbb:0≤b∧b<g.bl:=by
     rw[hb];exact⟨Int.emod_nonneg _ ay,Int.emod_lt_of_pos _ ay⟩
    refine WC.sub (E:=(31,_)::_) (Sub.refl _) cO ?_
    ·skip
     refine aj "qg" ?_;refine⟨_,fun w h=>h, ?_⟩;rw[e3];refine aj "ua_c~~S" ?_;refine WL.c2 call63 rfl rfl (Nj Oo b) rfl ?_;rintro v34 _ ⟨T1,oZ,uM,rfl⟩;have ak1:T1.next=T'.next:=congrArg St.next uM;have agi:T1.stands=T.stands:=(congrArg St.stands uM).trans acL;have an2:T1.at_=T.at_:=(congrArg St.at_ uM).trans alb;have hnb:=Oo.next;have aly:∀l∈T1.aC.cu,l.length≤1000000:=fun l hl=>by
      rw[uM] at hl;obtain⟨l',Dp,rfl⟩:=mem_map.1 hl;exact Nat.le_trans (length_filter_le _ _) (akm l' Dp)
     have hlb:=hT.aJ;have EC:Hd.may g ⟨aS,(d.length:Nat),T1.next⟩=true:=by
      unfold Hd.may bQ.fits;simp only[Bool.and_eq_true,decide_eq_true_eq];rw[wF,ak1];exact⟨⟨⟨⟨⟨by omega,by omega⟩,by omega⟩,by omega⟩,by omega⟩,by omega⟩
     refine aj "L_c__" ?_;refine WL.sub (Sub.refl _) (fun w h=>h.bg 6 [4,5,0,1,2,3] rfl)<|WL.c4 call64 rfl rfl rfl rfl (PG (d:=d) Zx N9 oZ (by repeat (first | exact hd | apply Seq.up)) h8 Og hm Oe.1 EC) rfl ?_;rintro _ _ ⟨C2,Bz,U1,pI,rfl,rfl⟩;obtain⟨W,hW⟩:∃W,W=dI C'.aC T1.next b aS d:=⟨_,rfl⟩;rw[←hW] at pI ⊢;have aQ:Eb aS d C'.aC T'.aC b=if W.2=72 then (W.1,{ T1.aC with next:=min (T1.next+1) 1000000001 },if 1000000000<min (T1.next+1) 1000000001 then some 6 else none) else if W.2≠0 then (W.1,T1.aC.told W.2,some W.2) else (W.1,(T1.aC.mark aS).done aS b g.bl,some 0):=by
      unfold Eb;rw[show C'.aC.g=g from N9,show T'.aC.next=T1.next from ak1.symm,←hW,←uM]
     rw[jy,aQ] at FP;refine aj "f9bU" (aW (fun h3=> ?_) fun h3=> ?_)
     ·rw[if_pos h3] at FP;dsimp only at FP;refine WC.seq<|WC.sub (H':=T1.A bs bd g::C2.A bc::dA bd bc g::r.A l .busy none::jT r.D::X::ah KR 28 [ptr bs 0]::ah b6 32 [.i 0]::ah b5 34 [.slice A m cap]::ah b4 3 [.i aS]::ah b3 28 [ptr bs 0]::F) (Sub.refl _) (fun w h=>h.bg 3 [2,0,1] rfl)<|WC.Dj (C2.A bc::dA bd bc g::r.A l .busy none::jT r.D::X::ah KR 28 [ptr bs 0]::ah b6 32 [.i 0]::ah b5 34 [.slice A m cap]::ah b4 3 [.i aS]::ah b3 28 [ptr bs 0]::F) (by kernel_rfl)<|aj "^0^1[2Z3l4" ?_;refine WL.val (V.load isAgg3 (ak rfl) (fun _=>bZ.FH 8 _ rfl)) rfl<|aj "b~~@5" ?_;refine WA.t 6 rfl (V.min (ak rfl) (ak rfl)) ?_;refine aj "[7Z8l9" ?_;refine WL.store (cs:=[_]) sizeOf3 (ak rfl) (ak rfl) rfl rfl rfl (bZ.akJ T1 (min (T1.next+1) 1000000001))<|aj "bKPa_R" ?_;refine WL.val (V.load isAgg3 (ak rfl) (fun _=>bZ.FH 8 _ rfl)) rfl<|aj "~NbU" (aW (fun mQ=> ?_) fun mQ=> ?_)
      ·have h4:1000000000<min (T1.next+1) 1000000001∨¬1000000000<min (T1.next+1) 1000000001:=Decidable.em _;have h4:1000000000<min (T1.next+1) 1000000001:=by have :=mQ;exact this
       rw[if_pos h4,if_neg (fun h=>by cases h)] at FP;have BH:bZ.Ok g { T1 with next:=min (T1.next+1) 1000000001 }:=⟨oZ.len,oZ.aJ,by show 1≤min (T1.next+1) 1000000001∧min (T1.next+1) 1000000001≤1000000001;omega,oZ.at_,oZ.Md⟩;refine aj "a~s0" ?_;exact⟨_,fun w h=>h.bg 6 [3,4,5,1,2,0] rfl,.inr ⟨rfl,C2,_,6,Bz,U1,BH,by rw[←FP,pI];rfl,rfl⟩⟩
      ·have h4:1000000000<min (T1.next+1) 1000000001∨¬1000000000<min (T1.next+1) 1000000001:=Decidable.em _;have h4:¬1000000000<min (T1.next+1) 1000000001:=by have :=mQ;exact this
       rw[if_neg h4,if_pos rfl] at FP;have BH:bZ.Ok g { T1 with next:=min (T1.next+1) 1000000001 }:=⟨oZ.len,oZ.aJ,by show 1≤min (T1.next+1) 1000000001∧min (T1.next+1) 1000000001≤1000000001;omega,oZ.at_,oZ.Md⟩;refine aj "iN" ?_;refine⟨_,fun w h=>h.bg 6 [3,4,5,1,2,0] rfl,.inl ⟨rfl,C2,_, ?_,rfl⟩⟩;rw[hI];exact⟨Bz,U1,BH,agi,an2,by show min (T1.next+1) 1000000001≤1000000000;omega,aly,by rw[pI];exact FP⟩
     ·rw[if_neg h3] at FP;refine aj "irsb~e" (aW (fun wQ=> ?_) fun wQ=> ?_)
      ·have h5:=wQ;rw[if_pos h5,if_neg (fun h=>by cases h)] at FP;refine aj "a_c~~f" ?_;refine WL.c2 call65 rfl rfl (qx W.2) rfl ?_;rintro _ _ ⟨rfl,rfl⟩;refine aj "~s0" ?_;exact⟨_,fun w h=>h.bg 6 [3,4,5,1,2,0] rfl,.inr ⟨rfl,C2,_,W.2,Bz,U1,oZ.told _,by rw[←FP,pI];rfl,rfl⟩⟩
      ·have h5:=wQ;rw[if_neg (show ¬(W.2≠0) from fun h=>h ay),if_neg (fun h=>by cases h)] at FP;refine WC.skip<|WC.join (σ:=bZ) (fun _=>[(3,ptr b3 0),(4,ptr b4 0),(6,ptr b6 0),(8,.i b)])
        (fun T3=>T3.A bs bd g::C2.A bc::dA bd bc g::r.A l .busy none::jT r.D::X::ah KR 28 [ptr bs 0]::ah b6 32 [.i 0]::ah b5 34 [.slice A m cap]::ah b4 3 [.i aS]::ah b3 28 [ptr bs 0]::F) (fun T3=>T3.Ok g∧T3.aC=T1.aC.mark aS∧T3.stands=T1.stands) ?_ ?_
       ·skip
        refine WC.seq ?_;have acC:0≤aS∧aS<T1.stands.length:=by rw[agi];exact Oe
        refine WC.Rm (by kernel_rfl) (by kernel_rfl)<|aj "~H~.~y" ?_;refine WQ.val (V.load isAgg124 (ak rfl) (fun _=>by repeat (first | exact bZ.FH 6 _ rfl | apply Rd.up))) rfl<|aj "~H" ?_;refine WQ.val (V.dw eB (ak rfl) (ak rfl) (fun _=>acC) (fun _=>by repeat (first | exact bZ.rdS acC | apply Rd.up))) rfl<|WQ.val (V.load isAgg3 (ak rfl) (fun _=>by repeat (first | exact bZ.rdS acC | apply Rd.up))) rfl<|aj "~n~ie~jj" (aW (fun h6=> ?_) fun h6=> ?_)
        ·simp only[ge_iff_le,cZ] at h6;have hmk:T1.aC.mark aS= { T1.aC with cu:=T1.aC.cu.set aS.toNat (T1.aC.cu.getD aS.toNat []++[T1.aC.lF aS]) }:=by unfold St.mark;rw[if_pos ay]
         have GQ:=oZ.len;obtain⟨q,hq⟩:∃q,q=T1.fA[aS.toNat]'ay:=⟨_,rfl⟩;have hqg:T1.fA[aS.toNat]? =some q:=by rw[hq];exact getElem?_eq_getElem ay
         have hqv:(T1.fA.map bW.v)[0+aS.toNat*1]? =some q.v:=by rw[show 0+aS.toNat*1=aS.toNat by omega,getElem?_map,hqg];rfl
         have hqb:q.l.length≤1000000:=aly _ (mem_map.2 ⟨q,by rw[hq];exact getElem_mem _,rfl⟩);have aaq:(T1.fA.map bW.row)[aS.toNat]'(by rw[length_map];omega)=q.row:=by rw[getElem_map,hq]
         refine WC.sub (H':=aV (.slice q.A q.l.length q.c) 3 1 q.l.length (ints .i64 q.l)::ah T1.b8 124 (T1.fA.map bW.v)::bK ((T1.fA.map bW.row).eraseIdx aS.toNat)::ah bs 127 (T1.cells bd g)::T1.sl::C2.A bc::dA bd bc g::r.A l .busy none::jT r.D::X::ah KR 28 [ptr bs 0]::ah b6 32 [.i 0]::ah b5 34 [.slice A m cap]::ah b4 3 [.i aS]::ah b3 28 [ptr bs 0]::F) (Sub.refl _) (fun w h=>by
          have h9:Sat K w (bZ.parts bs bd g T1++(C2.A bc::dA bd bc g::r.A l .busy none::jT r.D::X::ah KR 28 [ptr bs 0]::ah b6 32 [.i 0]::ah b5 34 [.slice A m cap]::ah b4 3 [.i aS]::ah b3 28 [ptr bs 0]::F)):=(h.bg 3 [2,0,1] rfl).yJ;have RJ:=Sat.FQ (k:=aS.toNat) (by rw[length_map];omega) (h9.bg 4 [3,2,0,1] rfl);rw[aaq] at RJ;exact RJ.bg 5 [0,2,1,3,4] rfl) ?_
         refine WC.Dj (bK ((T1.fA.map bW.row).eraseIdx aS.toNat)::ah bs 127 (T1.cells bd g)::T1.sl::C2.A bc::dA bd bc g::r.A l .busy none::jT r.D::X::ah KR 28 [ptr bs 0]::ah b6 32 [.i 0]::ah b5 34 [.slice A m cap]::ah b4 3 [.i aS]::ah b3 28 [ptr bs 0]::F) (by kernel_rfl)<|aj "^0[1Z2^3^4^5[6Z7^8^9~c:m<" ?_;refine WA.two (i:=11) (j:=13) eO (by kernel_rfl) rfl rfl ?_ ?_
         ·refine WL.val (V.load isAgg124 (ak rfl) (fun _=>by repeat (first | exact Rd.here hqv | apply Rd.up))) rfl ?_;refine aj "bl=" ?_;refine WL.buildSlice (E:=3) (cs:=[_]) (vs:=[(0,_)]) ⟨ak rfl,trivial⟩ rfl (dJ _) rfl (fun b83=> ?_);refine aj "bl>=" ?_;refine WL.append (m:=q.l.length) (q:=1) (news:=[.i (T1.aC.lF aS)]) underlying124 Me (ak rfl) (ak rfl) (Seq.all rfl) (by intro u hu;rw[mem_singleton.1 hu];rfl) ay rfl rfl (fun A5 c5 Zu wQ=> ?_);refine aj "b~c?l@" ?_;refine WL.store (cs:=[_]) sizeOf124 (ak rfl) (ak rfl) rfl rfl rfl (bT.up (bT.up (bT.at_ (by rw[length_map];omega)))) ?_;refine aj "bK)" ?_;refine⟨{ T1 with fA:=T1.fA.set aS.toNat ⟨A5,c5,q.l++[T1.aC.lF aS]⟩ },⟨⟨by show (T1.fA.set _ _).length=_;rw[length_set];exact oZ.len,oZ.aJ,oZ.next,oZ.at_,oZ.Md⟩,by
           rw[hmk];unfold bZ.aC;dsimp only;rw[map_set];have e1:(T1.fA.map bW.l).getD aS.toNat []=q.l:=by
            simp only[getD,getElem?_map,hqg,Option.map_some,Option.getD_some]
           rw[e1],rfl⟩,.cons rfl bC,fun w h=> ?_⟩
          have h5:=h.bg 6 [0,3,2,4,5] rfl;have e1:aV (.slice A5 (q.l.length+1) c5) 3 1 (q.l.length+1) (ints .i64 q.l++[.i (T1.aC.lF aS)])=bW.row ⟨A5,c5,q.l++[T1.aC.lF aS]⟩:=by
           unfold bW.row;rw[gY,length_append];rfl
          rw[e1] at h5;have h6:=Sat.Na (l:=T1.fA.map bW.row) (k:=aS.toNat) (by rw[length_map];omega) h5;have e2:(T1.fA.map bW.v).set (0+aS.toNat*1) (.slice A5 (q.l.length+1) c5)=(T1.fA.set aS.toNat ⟨A5,c5,q.l++[T1.aC.lF aS]⟩).map bW.v:=by
           rw[show 0+aS.toNat*1=aS.toNat by omega,map_set];show _=(T1.fA.map bW.v).set aS.toNat (.slice A5 (q.l++[T1.aC.lF aS]).length c5);rw[length_append];rfl
          rw[e2,←map_set] at h6;exact Sat.all (l:=bZ.parts bs bd g { T1 with fA:=T1.fA.set aS.toNat ⟨A5,c5,q.l++[T1.aC.lF aS]⟩ }) (by
           unfold bZ.parts bZ.cells bZ.sl;dsimp only;rw[length_set];exact h6.bg 4 [2,3,1,0] rfl)
         ·refine WL.buildSlice (E:=3) (cs:=[_]) (vs:=[(0,_)]) ⟨ak rfl,trivial⟩ rfl (dJ _) rfl (fun b83=> ?_);refine aj "bl;" ?_;refine WL.val (V.load isAgg124 (ak rfl) (fun _=>by repeat (first | exact Rd.here hqv | apply Rd.up))) rfl ?_;refine aj "bl>=" ?_;refine WL.append (m:=q.l.length) (q:=1) (news:=[.i (T1.aC.lF aS)]) underlying124 Me (ak rfl) (ak rfl) (Seq.all rfl) (by intro u hu;rw[mem_singleton.1 hu];rfl) ay rfl rfl (fun A5 c5 Zu wQ=> ?_);refine aj "b~c?l@" ?_;refine WL.store (cs:=[_]) sizeOf124 (ak rfl) (ak rfl) rfl rfl rfl (bT.up (bT.up (bT.at_ (by rw[length_map];omega)))) ?_;refine aj "bK)" ?_;refine⟨{ T1 with fA:=T1.fA.set aS.toNat ⟨A5,c5,q.l++[T1.aC.lF aS]⟩ },⟨⟨by show (T1.fA.set _ _).length=_;rw[length_set];exact oZ.len,oZ.aJ,oZ.next,oZ.at_,oZ.Md⟩,by
           rw[hmk];unfold bZ.aC;dsimp only;rw[map_set];have e1:(T1.fA.map bW.l).getD aS.toNat []=q.l:=by
            simp only[getD,getElem?_map,hqg,Option.map_some,Option.getD_some]
           rw[e1],rfl⟩,.cons rfl bC,fun w h=> ?_⟩
          have h5:=h.bg 6 [0,3,2,4,5] rfl;have e1:aV (.slice A5 (q.l.length+1) c5) 3 1 (q.l.length+1) (ints .i64 q.l++[.i (T1.aC.lF aS)])=bW.row ⟨A5,c5,q.l++[T1.aC.lF aS]⟩:=by
           unfold bW.row;rw[gY,length_append];rfl
          rw[e1] at h5;have h6:=Sat.Na (l:=T1.fA.map bW.row) (k:=aS.toNat) (by rw[length_map];omega) h5;have e2:(T1.fA.map bW.v).set (0+aS.toNat*1) (.slice A5 (q.l.length+1) c5)=(T1.fA.set aS.toNat ⟨A5,c5,q.l++[T1.aC.lF aS]⟩).map bW.v:=by
           rw[show 0+aS.toNat*1=aS.toNat by omega,map_set];show _=(T1.fA.map bW.v).set aS.toNat (.slice A5 (q.l++[T1.aC.lF aS]).length c5);rw[length_append];rfl
          rw[e2,←map_set] at h6;exact Sat.all (l:=bZ.parts bs bd g { T1 with fA:=T1.fA.set aS.toNat ⟨A5,c5,q.l++[T1.aC.lF aS]⟩ }) (by
           unfold bZ.parts bZ.cells bZ.sl;dsimp only;rw[length_set];exact h6.bg 4 [2,3,1,0] rfl)
        ·simp only[ge_iff_le,cZ] at h6;have hmk:T1.aC.mark aS=T1.aC:=by unfold St.mark;rw[if_neg ay]
         refine aj "i)" ?_;exact⟨T1,⟨oZ,hmk.symm,rfl⟩,.cons rfl bC,fun w h=>h.bg 3 [2,0,1] rfl⟩
       ·skip
        rintro T3 ⟨abU,hs3,hd3⟩;rw[←hs3] at FP;have arf:0≤aS∧aS<T3.stands.length:=by rw[hd3,agi];exact Oe
        refine WC.lG (p:=∃g1,T3.sA=some ⟨g1,0,none⟩) (fun w h=>bZ.afh ay h) (fun ⟨g1,hA3⟩=> ?_);refine WC.seq<|WC.Dj (C2.A bc::dA bd bc g::r.A l .busy none::jT r.D::X::ah KR 28 [ptr bs 0]::ah b6 32 [.i 0]::ah b5 34 [.slice A m cap]::ah b4 3 [.i aS]::ah b3 28 [ptr bs 0]::F) (by kernel_rfl)<|aj "^0[1Z2^4m5l3" ?_;refine WL.val (V.aG (v':= .slice (some ⟨g1,0,none⟩) T3.stands.length T3.sc) (V.load isAgg124 (ak rfl) (fun _=>bZ.FH 6 _ rfl)) (fun _=>by rw[hA3])) rfl<|aj "b~c6l7" ?_;refine WL.store (cs:=[_]) sizeOf3 (ak rfl) (ak rfl) rfl rfl rfl (bZ.ant hA3 ay b)<|aj "bKa_R" ?_;refine WL.val (V.load isAgg3 (ak rfl) (fun _=>bZ.FH 8 _ rfl)) rfl ?_;have anC:=abU.next;refine WL.val (V.CX (ak rfl) (ak rfl) (fun _=>by dsimp only;omega)) rfl<|aj "R" ?_;refine WL.store (cs:=[_]) sizeOf3 (ak rfl) (ak rfl) rfl rfl rfl (bZ.akJ _ _)<|aj "D" ?_;refine WC.Dj (C2.A bc::dA bd bc g::r.A l .busy none::jT r.D::X::ah KR 28 [ptr bs 0]::ah b6 32 [.i 0]::ah b5 34 [.slice A m cap]::ah b4 3 [.i aS]::ah b3 28 [ptr bs 0]::F) (by kernel_rfl)<|aj "^0m1~~@2^3[4Z5Z6l7" ?_;refine WL.val (V.load isAgg3 (ak rfl) (fun _=>bZ.FH 1 _ rfl)) rfl<|WL.nil<|WA.t 8 rfl (V.Av (ak rfl) (ak rfl) (fun _=>by omega)) ?_;refine aj "[9Z:l;" ?_;refine WL.store (cs:=[_]) sizeOf3 (ak rfl) (ak rfl) rfl rfl rfl (bZ.anJ _ _)<|aj "bKa~s0" ?_;refine⟨_,fun w h=>h.bg 6 [3,4,5,1,2,0] rfl,.inr ⟨rfl,C2,_,0,Bz,U1, ?_, ?_,rfl⟩⟩
        ·have anC:=abU.next;have hn3:T3.next≤1000000000:=by
          have e1:T3.aC.next=T1.aC.next:=by rw[hs3];unfold St.mark;split<;>rfl
          have e2:T3.next=T1.next:=e1;omega
         have hrm:0≤(b+1)%g.bl∧(b+1)%g.bl<g.bl:=⟨Int.emod_nonneg _ ay,Int.emod_lt_of_pos _ ay⟩;refine⟨by show T3.fA.length=(T3.stands.set _ _).length;rw[length_set];exact abU.len,by show 1≤(T3.stands.set _ _).length∧_;rw[length_set];exact abU.aJ,by show 1≤T3.next+1∧T3.next+1≤1000000001;omega,hrm,fun x hx=> ?_⟩;rcases mem_or_eq_of_mem_set hx with hx | rfl
         ·exact abU.Md x hx
         ·omega
        ·rw[←FP,pI];unfold St.done bZ.aC;dsimp only;rw[show 0+aS.toNat*1=aS.toNat by omega]
    ·skip
     obtain⟨X,C',T',hIe,rfl⟩:=hd;rw[hI] at hIe;obtain⟨Zx,N9,Oo,acL,alb,anK,akm,FP⟩:=hIe;rw[SV,jy] at FP;rw[←FP] at hR;dsimp only at hR;refine WC.seq<|WC.sub (H':=C'.A bc::dA bd bc g::T'.A bs bd g::ah b6 32 [.i 0]::jT D::ah b5 34 [.slice A m cap]::ah b4 3 [.i aS]::ah b3 28 [ptr bs 0]::F) (Sub.refl _) (fun w h=>h.bg 7 [2,3,4,6,0] rfl)<|WC.dM (jT D::ah b5 34 [.slice A m cap]::ah b4 3 [.i aS]::ah b3 28 [ptr bs 0]::F) (by kernel_rfl)<|aj "^0^1l2" ?_;refine WL.t1 call66 rfl (TP Zx N9) rfl<|aj "bl3~~f" ?_;refine WL.c2 call65 rfl rfl (qx (if C'.aC.om=70 then 70 else 6)) rfl ?_;rintro _ _ ⟨rfl,rfl⟩;refine aj "bl4" ?_;refine WL.store (cs:=[_]) sizeOf32 (ak rfl) (ak rfl) rfl rfl rfl (bT.up (bT.up (bT.up (bT.here rfl rfl))))<|aj "bK~C" ?_;subst hR;exact mZ.agu (H':=C'.A bc::dA bd bc g::(T'.told (if C'.aC.om=70 then 70 else 6)).A bs bd g::F) ((T'.told (if C'.aC.om=70 then 70 else 6)).A bs bd g::C'.A bc::dA bd bc g::ah b6 32 [.i (if C'.aC.om=70 then 70 else 6)]::ah b5 34 [.slice A m cap]::ah b4 3 [.i aS]::ah b3 28 [ptr bs 0]::F) (fun w h=>h.bg 5 [4,0,1,2,3] rfl) (bJ.one rfl (R1.JH rfl isAgg32 lD)) (fun w h=>h.bg 7 [1,2,0] rfl) ⟨C',T'.told (if C'.aC.om=70 then 70 else 6),Zx,N9,Oo.told _,rfl,rfl,rfl,rfl⟩
def dP:List Int→aD→aD×Int
 | [],S=>(S,0)
 | x::xs,S=>if (S.bB x).2=70 then S.bB x else dP xs (S.bB x).1
def St.drop(T:St)(aS:Int):St:= { T with stands:=T.stands.set aS.toNat (-1),cu:=T.cu.set aS.toNat [] }
def dX(S:aD)(T:St)(aS:Int):aD×St×Int :=
 if T.ready aS≠0 then (S,T,T.ready aS)
 else if T.lF aS<0 then (S,T,0)
 else if (dP (T.cu.getD aS.toNat []++[T.lF aS]) S).2=70 then ((dP (T.cu.getD aS.toNat []++[T.lF aS]) S).1,T.told 70,70)
 else ((dP (T.cu.getD aS.toNat []++[T.lF aS]) S).1,T.drop aS,0)
theorem bZ.am0{T:bZ}{i:Nat}(hq:T.fA[i]? =some q):Seq K (T.A bs bd g::F) q.A q.l.length 1 (ints .i64 q.l) :=
 Seq.xM (A:=bK (T.fA.map bW.row)) (l:=bZ.parts bs bd g T) (.tail _ (.tail _ (.tail _ (.head _)))) (Seq.xM (A:=q.row) (mem_map.2 ⟨q,mem_of_getElem? hq,rfl⟩) (aV.seq (by rw[bR,Nat.mul_one])))
theorem bZ.rdR{T:bZ}(hq:T.fA[i]? =some q):Rd K (T.A bs bd g::F) (some ⟨T.b8,0+i*1,none⟩) q.v :=
 Rd.xM (A:=ah T.b8 124 (T.fA.map bW.v)) (l:=bZ.parts bs bd g T) (.tail _ (.tail _ (.head _))) (Rd.here (by rw[Nat.zero_add,Nat.mul_one,getElem?_map,hq];rfl))
theorem Pz{T:bZ}{C:Cw}(hC:C.Ok)(hg:C.g=g)(hT:T.Ok g)(aS:Int)(qZ:∀l∈T.aC.cu,l.length≤100000) :
 aB prog 37 #[ptr bs 0,.i aS] K (C.A bc::dA bd bc g::T.A bs bd g::F)
 (fun v H'=>∃(C':Cw) (T':bZ),C'.Ok∧C'.g=g∧T'.Ok g∧C'.aC=(dX C.aC T.aC aS).1∧T'.aC=(dX C.aC T.aC aS).2.1∧v= .i (dX C.aC T.aC aS).2.2∧H'=C'.A bc::dA bd bc g::T'.A bs bd g::F):=by
 obtain⟨R,hR⟩:∃R,R=dX C.aC T.aC aS:=⟨_,rfl⟩;rw[←hR];unfold dX at hR;have yO:g.aU:=by rw[←hg];exact hC.aU
 have uJ:=yO;unfold bQ.aU at uJ;have hlb:=hT.aJ;have BG:T.aC.ready aS=0→0≤aS∧aS<T.stands.length:=fun h=>by
  unfold St.ready bZ.aC at h;dsimp only at h;split at h
  ·cases h
  ·split at h
   ·cases h
   ·omega
 refine aB.en func37 ntmps37 ?_;refine aj "afc~~f" ?_;refine WL.c2 call61 rfl rfl (xk aS) rfl ?_;rintro _ _ ⟨rfl,rfl⟩;refine aj "~~gksb~e" (aW (fun h0=> ?_) fun h0=> ?_)
 ·rw[if_pos h0] at hR;refine aj "ed" ?_;subst hR;exact qR (C.A bc::dA bd bc g::T.A bs bd g::F) rfl rfl cO ⟨C,T,hC,hg,hT,rfl,rfl,rfl,rfl⟩
 ·have KC:T.aC.ready aS=0:=ay;rw[if_neg (fun h=>h KC)] at hR;have Oe:=BG KC;obtain⟨b,hb⟩:∃b,b=T.aC.lF aS:=⟨_,rfl⟩;rw[←hb] at hR;have tu:∀ {X Y:aH},Rd K (X::Y::T.A bs bd g::F) (T.sA.map (·.add (aS.toNat*1))) (.i b):=fun {X Y}=>by rw[hb];exact Rd.up (Rd.up (bZ.rdS Oe))
  refine aj "WR" ?_;refine WL.val (V.load isAgg124 (ak rfl) (fun _=>Rd.up (Rd.up (bZ.FH 6 _ rfl)))) rfl<|WL.mv rfl rfl<|WL.val (V.dw eB (ak rfl) (ak rfl) (fun _=>Oe) (fun _=>tu)) rfl<|WL.val (V.load isAgg3 (ak rfl) (fun _=>tu)) rfl<|aj "f1bU" (aW (fun h1=> ?_) fun h1=> ?_)
  ·rw[if_pos h1] at hR;refine aj "I" ?_;subst hR;exact qR (C.A bc::dA bd bc g::T.A bs bd g::F) rfl rfl cO ⟨C,T,hC,hg,hT,rfl,rfl,rfl,rfl⟩
  ·rw[if_neg h1] at hR;have GQ:=hT.len;obtain⟨q,hq⟩:∃q,q=T.fA[aS.toNat]'ay:=⟨_,rfl⟩;have hqg:T.fA[aS.toNat]? =some q:=by rw[hq];exact getElem?_eq_getElem ay
   have hqb:q.l.length≤100000:=qZ _ (mem_map.2 ⟨q,by rw[hq];exact getElem_mem _,rfl⟩);have U7:T.aC.cu.getD aS.toNat []=q.l:=by
    unfold bZ.aC;simp only[getD,getElem?_map,hqg,Option.map_some,Option.getD_some]
   obtain⟨xs,gL⟩:∃xs,xs=q.l++[b]:=⟨_,rfl⟩;have uI:xs.length=q.l.length+1:=by rw[gL,length_append];rfl
   rw[U7,←gL] at hR;refine aj "irR" ?_;refine WL.val (V.load isAgg125 (ak rfl) (fun _=>Rd.up (Rd.up (bZ.FH 7 _ rfl)))) rfl<|aj "c~t" ?_;refine WL.val (V.load isAgg124 (ak rfl) (fun _=>Rd.up (Rd.up (bZ.rdR hqg)))) rfl<|WL.c1 call103 rfl (Il (Seq.up (Seq.up (bZ.am0 hqg))) ay) rfl ?_;rintro _ _ ⟨A1,c1,rfl,rfl⟩;refine WL.mv rfl rfl<|WL.buildSlice (E:=3) (cs:=[_]) (vs:=[(0,_)]) ⟨ak rfl,trivial⟩ rfl (dJ _) rfl (fun b34=>aj "=" ?_);refine WL.append (m:=q.l.length) (q:=1) (news:=[.i b]) underlying124 Me (ak rfl) (ak rfl) (Seq.all rfl) (by intro u hu;rw[mem_singleton.1 hu];rfl) ay rfl rfl (fun A5 c5 Zu wQ=>aj "nQ" ?_);have hxe:ints .i64 q.l++[.i b]=ints .i64 xs:=by rw[gL,gY];rfl
   rw[hxe,←uI];obtain⟨n,hn⟩:∃n,n=xs.length:=⟨_,rfl⟩;rw[←hn] at uI ⊢;refine WC.loop (σ:=Nat×Cw) (fun s=>[(0,ptr bs 0),(1,.i aS),(35,.slice A5 n c5),(36,.i (n:Int)),(37,.i (s.1:Int))]) (fun s=>s.2.A bc::dA bd bc g::aV (.slice A5 n c5) 3 1 n (ints .i64 xs)::T.A bs bd g::F) (fun s=>s.1≤n∧s.2.Ok∧s.2.g=g∧dP (xs.drop s.1) s.2.aC=dP xs C.aC) (fun s=>n-s.1) (0,C) ⟨zero_le _,hC,hg,rfl⟩ (.cons rfl (.cons rfl (.cons (look_eq rfl (by rw[uI])) (.cons (look_eq rfl (by rw[uI])) bC)))) (fun w h=>h.bg 5 [2,3,0,4] rfl) ?_;rintro⟨i,C'⟩ ⟨hi,Zx,N9,FP⟩;dsimp only at hi Zx N9 FP ⊢;have Oi:∀ {H:List aH},Seq K (aV (.slice A5 n c5) 3 1 n (ints .i64 xs)::H) A5 n 1 (ints .i64 xs):=fun {H}=>aV.seq (by rw[bR,Nat.mul_one,hn]);refine aj "SU" (aW (fun bA=> ?_) fun bA=> ?_)
   ·have aeW:i<n:=ay;have Bv:(i:Int).toNat=i:=ay;have JI:xs.drop i=xs.getD i 0::xs.drop (i+1):=by rw[drop_eq_getElem_cons ay];simp[getD,show i<xs.length by omega]
    have kr:∀ {H:List aH},Rd K (aV (.slice A5 n c5) 3 1 n (ints .i64 xs)::H) (A5.map (·.add ((i:Int).toNat*1))) (.i (xs.getD i 0)):=fun {H}=>by
     have :=Seq.dD (Oi (H:=H)) (j:=(i:Int)) ay
     rwa [Bv] at this ⊢
    obtain⟨x,hx⟩:∃x,x=xs.getD i 0:=⟨_,rfl⟩;rw[←hx] at JI kr;rw[JI,dP] at FP;refine aj "Ha" ?_;refine WL.val (V.dw eB (ak rfl) (ak rfl) (fun _=>by omega) (fun _=>by repeat (first | exact kr | apply Rd.up))) rfl<|WL.val (V.load isAgg3 (ak rfl) (fun _=>by repeat (first | exact kr | apply Rd.up))) rfl<|aj "kR" ?_;refine WL.val (V.load isAgg70 (ak rfl) (fun _=>by repeat (first | exact bZ.FH 0 _ rfl | apply Rd.up))) rfl<|WL.mv rfl rfl (WL.c2 call104 rfl rfl (Ce Zx N9 x) rfl ?_);rintro _ _ ⟨C2,Bz,U1,rfl,pI,rfl⟩;refine aj "k9bU" (aW (fun h3=> ?_) fun h3=> ?_)
    ·rw[if_pos h3] at FP;rw[←FP,if_pos h3] at hR;refine aj "ec~~T" ?_;refine WL.c2 call65 rfl rfl (qx (C'.aC.bB x).2) rfl ?_;rintro _ _ ⟨rfl,rfl⟩;refine aj "d" ?_;subst hR;rw[h3];exact qR (C2.A bc::dA bd bc g::(T.told 70).A bs bd g::F) rfl rfl (fun w h=>h.bg 4 [1,2,0] rfl) ⟨C2,T.told 70,Bz,U1,hT.told _,pI,rfl,rfl,rfl⟩
    ·rw[if_neg h3] at FP;refine aj "i6" ?_;exact⟨(i+1,C2),⟨aeW,Bz,U1,by show dP (xs.drop (i+1)) C2.aC=_;rw[pI];exact FP⟩,(by show n-(i+1)<n-i;omega),.cons rfl bC,fun w h=>h⟩
   ·refine aj "T" ?_;obtain rfl:i=n:=by omega
    rw[drop_eq_nil_of_le ay,dP] at FP;rw[←FP,if_neg (by show ¬(0:Int)=70;decide)] at hR;dsimp only at hR;refine WC.lG (p:=∃g1,T.sA=some ⟨g1,0,none⟩) (fun w h=>bZ.afh (bs:=bs) (bd:=bd) (g:=g) ay (h.bg 4 [3] rfl)) (fun ⟨g1,UM⟩=> ?_);refine WC.sub (H':=ah T.b8 124 (T.fA.map bW.v)::T.sl::bK ((T.fA.map bW.row).set aS.toNat ir0.row)::ah bs 127 (T.cells bd g)::C'.A bc::dA bd bc g::F) (Sub.refl _) (fun w h=>by
     have h9:Sat K w (bZ.parts bs bd g T++(C'.A bc::dA bd bc g::F)):=(h.bg 4 [3,0,1] rfl).yJ;have RJ:=Sat.FQ (k:=aS.toNat) (by rw[length_map];omega) (h9.bg 4 [3,2,0,1] rfl);have h11:Sat K w (ir0.row::bK ((T.fA.map bW.row).eraseIdx aS.toNat)::ah T.b8 124 (T.fA.map bW.v)::ah bs 127 (T.cells bd g)::T.sl::C'.A bc::dA bd bc g::F):=Sat.gI RJ.tail _ _;exact (Sat.Na (by rw[length_map];omega) h11).bg 4 [1,3,0,2] rfl) ?_
    unfold bZ.sl;rw[UM];refine WC.dM (bK ((T.fA.map bW.row).set aS.toNat ir0.row)::ah bs 127 (T.cells bd g)::C'.A bc::dA bd bc g::F) (by kernel_rfl)<|aj "m0[1Z2" ?_;refine WA.t 3 rfl (V.aG (v':= .slice (some ⟨g1,0,none⟩) T.stands.length T.sc) (V.load isAgg124 (ak rfl) (fun _=>lD)) (fun _=>by rw[UM])) ?_;refine aj "m4m5[6Z7^8m9~c:l;" ?_;refine WL.store (cs:=[_]) sizeOf3 (ak rfl) (ak rfl) rfl rfl rfl (bT.up (bT.slA ay))<|aj "b~c<l=" ?_;refine WL.store (cs:=[_]) sizeOf124 (ak rfl) (ak rfl) rfl rfl rfl (bT.at_ (by rw[length_map];omega))<|aj "bKI" ?_;subst hR;obtain⟨T',Oo⟩:∃T':bZ,T'= { T with stands:=T.stands.set aS.toNat (-1),fA:=T.fA.set aS.toNat ir0 }:=⟨_,rfl⟩;refine qR (C'.A bc::dA bd bc g::T'.A bs bd g::F) rfl rfl (fun w h=> ?_) ⟨C',T',Zx,N9, ?_,rfl, ?_,rfl,rfl⟩
    ·refine (Sat.all (l:=bZ.parts bs bd g T') (H:=C'.A bc::dA bd bc g::F) (K:=K) (w:=w) ?_).bg 3 [1,2,0] rfl;unfold bZ.parts bZ.cells bZ.sl;rw[Oo];dsimp only;rw[length_set,length_set,UM,map_set,map_set];have e1:(ints .i64 T.stands).set (0+aS.toNat*1) (.i (-1))=ints .i64 (T.stands.set aS.toNat (-1)):=by unfold ints;rw[show 0+aS.toNat*1=aS.toNat by omega,map_set]
     rw[←e1];have h2:=h.bg 6 [3,1,0,2,4,5] rfl;rw[show 0+aS.toNat*1=aS.toNat by omega] at h2 ⊢;unfold bZ.cells at h2;rw[UM] at h2;exact h2
    ·rw[Oo];refine⟨by show (T.fA.set _ _).length=(T.stands.set _ _).length;rw[length_set,length_set];exact hT.len,by show 1≤(T.stands.set _ _).length∧_;rw[length_set];exact hT.aJ,hT.next,hT.at_,fun x hx=> ?_⟩;rcases mem_or_eq_of_mem_set hx with hx | rfl
     ·exact hT.Md x hx
     ·omega
    ·rw[Oo];unfold bZ.aC St.drop;dsimp only;rw[map_set];rfl
theorem P6{S:aD}(hg:S.g.aU)(hu:S.up=true):S.om=0:=by
 unfold bQ.aU at hg;have e1:¬((0:Int)<0∨S.g.bl≤0∨(0:Int)<0∨S.g.pg≤0∨(decide ((0:Int)≤0)&&decide (0≤S.g.pg))=false):=by
  simp;omega
 have e2:S.ahead 0 0 (decide ((0:Int)≤0)&&decide (0≤S.g.pg))=if S.bad 0=true then 73 else 0:=by
  unfold aD.ahead;rw[if_neg (by rw[hu];decide),if_neg e1]
 unfold aD.om aD.mX;rw[e2];cases S.bad 0<;>rfl
namespace aD
theorem qo{S:aD}(h:S.left=0):S.bE=S:=by
 unfold bE cut;rw[h];obtain⟨a,b,c,d,e,f,g,up,l,k⟩:=S;dsimp only at h;subst h;simp
theorem Mg{S:aD}(h:0≤b∧b<S.g.bl∧0≤p∧p<S.g.pg):S.oG b p=true:=by
 unfold oG block;simp;omega
theorem CB{S:aD}(h:0≤b∧b<S.g.bl):S.block b=true:=by
 unfold block;simp;omega
theorem Cg{S:aD}(hu:S.up=true)(h:0≤b∧b<S.g.bl∧0≤p∧p<S.g.pg)(hm:S.marked b=false):S.ahead b p true=0:=by simp_all [ahead,bad,if_neg,Bool.and_false]
theorem KT{S:aD}(hu:S.up=true)(h:0≤b∧b<S.g.bl∧0≤p∧p<S.g.pg)(hm:S.marked b=true):S.ahead b p true=73:=by simp_all [ahead,bad,if_neg,if_pos]
theorem aa1{S:aD}(hg:S.g.aU)(h8:aA 256 d)(hl:d.length=S.room):((bH (fF S.g d)).length:Int)=S.raw:=by
 have hN:=zS.of (bl:=S.g.bl) (pg:=S.g.pg) (by rw[←lS hg];exact hg);unfold fF bH;rw[length_map,Ch hN.t h8 hl];exact (bQ.uZ hg).symm
theorem Pf{S:aD}(hu:S.up=true)(h:0≤b∧b<S.g.bl∧0≤p∧p<S.g.pg)(hm:S.marked b=false)(hl:d.length=S.room):S.dK b p d=done b (S.program b p (bH (fF S.g d))):=by
 have e:decide (d.length=S.room)=true:=decide_eq_true hl;unfold dK;rw[e,if_neg (by rw[Cg hu h hm];decide)]
theorem DZ{S:aD}(hp:S.aX (b,p)=some (bH xs))(hw:S.bM (b,p)=none):S.kI b p=xs:=by
 unfold kI reads;rw[hp,hw];exact sG xs
theorem TQ{S:aD}(hg:S.g.aU)(hu:S.up=true)(h:0≤b∧b<S.g.bl∧0≤p∧p<S.g.pg)(hm:S.marked b=false)(h8:aA 256 d)(hl:d.length=S.room)(hp:S.aX (b,p)=some (bH (fF S.g d)))(hw:S.bM (b,p)=none) :
 S.bY b p=⟨0,d,0⟩:=by
 have hN:=zS.of (bl:=S.g.bl) (pg:=S.g.pg) (by rw[←lS hg];exact hg);unfold bY;rw[if_neg (by rw[Cg hu h hm];decide),DZ hp hw];unfold fF;rw[Yk hN.t h8 hl];rfl
theorem XG{raw:List Nat}(h:raw.getD (S*n) 0=255):jf t S n raw=60∨jf t S n raw=61:=by
 unfold jf;rw[h,if_neg aN,if_neg (fun h=>h rfl)];split
 ·exact .inl rfl
 ·exact .inr rfl
end aD
def agL:bQ:=⟨4,3,1,16,1⟩
def akc:List Nat:=[97,98,99]
def ajJ:aD:=aD.new agL []
def am2:St:=oh ajJ 2
def c11:aD×St×Int:=bq ajJ am2 0 akc
theorem WC.scope(hQ:∀M l e H,Q M (.goto l) e H→False)(h:WC ⟨none,ds⟩ P K n c Q e H):WC ⟨none,ds⟩ P K n (.scope c) Q e H:=fun a w ha hw =>
 wp_scope_straight (wp_mono (h a w ha hw) (fun x a w hx=>by
  cases x<;>first | exact hx | (obtain⟨_,_,_,_,_,h3⟩:=hx;exact hQ _ _ _ _ h3)))
def Vh(slot seg:Int):Bool:=(decide (slot=0)||decide (slot=1))&&decide (-1≤seg)&&decide (seg≤3)
def kZ(slot seg:Int):Int×Int:=if Vh slot seg then (2+5*slot+seg,0) else (0,1)
theorem xR(slot seg:Int)(K:World)(F:List aH):aK prog 23 #[.i slot,.i seg] K F (.tuple #[.i (kZ slot seg).1,.i (kZ slot seg).2]):=by
 obtain⟨X,hX⟩:∃X,X=kZ slot seg:=⟨_,rfl⟩;rw[←hX];unfold kZ Vh at hX;refine aB.en func23 ntmps23 ?_;refine aj "aofsc!~~~g3cV~,OcV~~~rOj" (aW (fun aL=> ?_) fun aL=> ?_)
 ·simp only[Bool.or_eq_true,Bool.or_eq_false_iff,Gi,Bool.not_eq_true',Bool.not_eq_false'] at aL;rw[if_neg (by simp;omega)] at hX;refine aj "aG" ?_;subst hX;exact aF.ret (H':=F) (bJ.eU rfl rfl rfl) eO ⟨rfl,rfl⟩
 ·simp only[Bool.or_eq_true,Bool.or_eq_false_iff,Gi,Bool.not_eq_true',Bool.not_eq_false'] at aL;rw[if_pos (by simp;omega)] at hX;refine aj "W~L$$c$G" ?_;subst hX;refine aF.ret (H':=F) (bJ.eU rfl rfl rfl) eO ⟨?_,rfl⟩;dsimp only;rw[show (1+slot*5+1+seg:Int)=2+5*slot+seg by omega]
def lK(S:aD)(T:St):aY×Int×St :=
 if (dZ S T 0).1.err=70 then (aY.zero,70,(dZ S T 0).2)
 else if (dZ S T 0).1.err=0∧(aY.parse (bH (dZ S T 0).1.d)).2=0 then ((aY.parse (bH (dZ S T 0).1.d)).1,0,(dZ S T 0).2)
 else (aY.zero,0,(dZ S T 0).2)
theorem Cw.Ok.wT{C:Cw}(hC:C.Ok)(b:Int)(n0:Nat):∀k,aA 256 (iA C.aC b n0 k).d
 | 0=>fun y hy=>by cases hy
 | k+1=>by
  rw[iA];split
  ·exact hC.wT b n0 k
  ·split
   ·exact fun y hy=>by cases hy
   ·exact (hC.wT b n0 k).append (hC.rQ _ _).1
theorem Cw.Ok.yj{C:Cw}(hC:C.Ok)(T:St)(aS:Int):aA 256 (dZ C.aC T aS).1.d:=by
 unfold dZ;repeat (split;exact fun y hy=>by cases hy)
 exact (hC.wT _ _ _).take
theorem QS:aK prog 24 #[.pointer none] K F (.tuple #[aY.zero.v,.i 3]):=by
 refine aB.en func24 ntmps24 ?_;refine aj "av" fun b2=> ?_;refine aj "tue]g2a?Cd" ?_;exact aF.ret (H':=F) (rA rfl rfl ⟨isAgg58,sizeOf58⟩ rfl) eO ⟨rfl,rfl⟩
theorem vB{T:bZ}{C:Cw}(hC:C.Ok)(hg:C.g=g)(hT:T.Ok g)(hl:11≤(T.stands.length:Int)):aB prog 24 #[ptr bs 0] K (C.A bc::dA bd bc g::T.A bs bd g::F)
 (fun v H'=>∃T':bZ,T'.Ok g∧T'.aC=(lK C.aC T.aC).2.2∧v= .tuple #[(lK C.aC T.aC).1.v,.i (lK C.aC T.aC).2.1]∧H'=C.A bc::dA bd bc g::T'.A bs bd g::F):=by
 obtain⟨X,hX⟩:∃X,X=lK C.aC T.aC:=⟨_,rfl⟩;rw[←hX];unfold lK at hX;have nS:=hC.yj T.aC 0;refine aB.en func24 ntmps24 ?_;refine aj "av" fun b2=> ?_;refine aj "tue]g~ze" ?_;refine WL.sub (Sub.refl _) (fun w h=>h.bg 4 [3,1,2,0] rfl)<|WL.c1 call87 rfl (Ut) rfl ?_;rintro _ _ ⟨rfl,rfl⟩;refine WL.sub (Sub.refl _) (fun w h=>h.bg 4 [1,2,0,3] rfl)<|aj "1g~3W" ?_;refine WL.c2 call26 rfl rfl (AA hC hg hT 0) rfl ?_;rintro _ _ ⟨A1,c1,T1,oZ,t1,rfl,rfl⟩;obtain⟨R,hR⟩:∃R,R=dZ C.aC T.aC 0:=⟨_,rfl⟩;rw[←hR] at t1 hX nS ⊢;refine aj "8~Toof9j" (aW (fun h2=> ?_) fun h2=> ?_)
 ·simp only[iC] at h2;rw[if_pos h2] at hX;refine aj "a?cCd" ?_;subst hX;refine aF.ret (H':=C.A bc::dA bd bc g::T1.A bs bd g::F) (rA rfl rfl ⟨isAgg58,sizeOf58⟩ rfl) (fun w h=>h.bg 5 [1,2,3] rfl) ⟨T1,oZ,t1,by rw[h2];rfl,rfl⟩
 ·simp only[iC] at h2;rw[if_neg h2] at hX;refine aj "ir" ?_;refine WL.t1 call88 rfl (Ot (xs:=bH R.1.d) (kR nS) _ _ (by rw[←jX];exact aV.seq (by rw[au,Nat.mul_one]))) rfl<|aj "8v" fun b7=> ?_;refine aj "Ck9c!~K3j" (aW (fun h3=> ?_) fun h3=> ?_)
  ·simp only[iC] at h3;rw[if_pos h3] at hX;refine aj "aBCd" ?_;subst hX;refine aF.ret (H':=C.A bc::dA bd bc g::T1.A bs bd g::F) (rA rfl rfl ⟨isAgg58,sizeOf58⟩ rfl) (fun w h=>h.bg 6 [2,3,4] rfl) ⟨T1,oZ,t1,rfl,rfl⟩
  ·simp only[iC] at h3;rw[if_neg ay] at hX;refine aj "ia" ?_;refine WL.call (vs:=[]) call89 trivial (OW _ _) rfl ?_;rintro _ H0 ⟨rfl,h0⟩;subst H0;refine aj "Cd" ?_;subst hX;refine aF.ret (H':=C.A bc::dA bd bc g::T1.A bs bd g::F) (rA rfl rfl ⟨isAgg58,sizeOf58⟩ rfl) (fun w h=>h.bg 6 [2,3,4] rfl) ⟨T1,oZ,t1,rfl,rfl⟩
abbrev adR(e:Int):Value:= .agg #[.i 0,.i 0,.i 0,.slice none 0 0,.i e]
theorem NK{s:aY}(ho:s.order=[])(K:World)(F:List aH):aB prog 67 #[s.v] K F (fun v H'=>∃A cap,v= .tuple #[.slice A 0 cap,.i s.V3]∧H'=aV (.slice A 0 cap) 3 1 0 []::F):=by
 have h:=EW s K F;rw[ho] at h;exact h
theorem S9{T:bZ}{C:Cw}(hC:C.Ok)(hg:C.g=g)(hT:T.Ok g)(hl:11≤(T.stands.length:Int))(ho:(lK C.aC T.aC).1.order=[])(aO:Int):aB prog 17 #[ptr bs 0,.slice A m cap,.i aO] K (C.A bc::dA bd bc g::T.A bs bd g::F)
 (fun v H'=>∃T':bZ,T'.Ok g∧T'.aC=(lK C.aC T.aC).2.2∧v=adR (if (lK C.aC T.aC).2.1≠0 then (lK C.aC T.aC).2.1 else 240)∧H'=C.A bc::dA bd bc g::T'.A bs bd g::F):=by
 obtain⟨X,hX⟩:∃X,X=lK C.aC T.aC:=⟨_,rfl⟩;rw[←hX] at ho ⊢;refine aB.en func17 ntmps17 ?_;refine aj "av" fun b6=> ?_;refine WL.nil<|WC.scope (fun _ _ _ _ h=>h)<|aj "e~=" ?_;refine WL.c1 call24 rfl (vB hC hg hT hl) rfl ?_;rintro _ _ ⟨T1,oZ,t1,rfl,rfl⟩;rw[←hX] at t1 ⊢;refine aj "8v" fun b7=> ?_;refine aj "Cfsj" (aW (fun h0=> ?_) fun h0=> ?_)
 ·simp only[iC] at h0;refine aj "e" ?_;refine WL.val (V.build (vs:=[(4,_)]) ⟨ak rfl,trivial⟩ rfl (rZ _)) rfl (aj "C0" ?_);exact aF.ret (H':=C.A bc::dA bd bc g::T1.A bs bd g::F) (bJ.one rfl (R1.jQ (vs:=[_,_,_,_,_]) rfl ⟨isAgg37,sizeOf37⟩ rfl tN)) (fun w h=>h.bg 5 [1,2,3] rfl) ⟨T1,oZ,t1,by rw[if_pos h0],rfl⟩
 ·simp only[iC] at h0;refine aj "iaB" ?_;refine WL.c1 call67 rfl (NK ho _ _) rfl ?_;rintro _ _ ⟨A1,c1,rfl,rfl⟩;refine aj "Et" ?_;refine WC.label (aj "rnQ" ?_);refine WC.rounds 1 (aj "S~zNa" ?_);refine WL.val (V.build (vs:=[(4,_)]) ⟨ak rfl,trivial⟩ rfl (rZ _)) rfl (aj "C0" ?_);exact aF.ret (H':=C.A bc::dA bd bc g::T1.A bs bd g::F) (bJ.one rfl (R1.jQ (vs:=[_,_,_,_,_]) rfl ⟨isAgg37,sizeOf37⟩ rfl tN)) (fun w h=>h.bg 6 [2,3,4] rfl) ⟨T1,oZ,t1,by rw[if_neg ay],rfl⟩
def F9(slot sec err:Int):Bool:=decide (err=0)&&(decide (slot=0)||decide (slot=1))&&decide (0≤sec)&&decide (sec≤64)
abbrev bU(s:aY):List Nat:=iB s.bytes
def sF(S:aD)(T:St)(slot sec err:Int):aD×St×Int :=
 if F9 slot sec err=false then (S,T,1)
 else if (lK S T).2.1≠0 then (S,(lK S T).2.2,(lK S T).2.1)
 else if (bq S (lK S T).2.2 0 (bU ((lK S T).1.dR slot).1)).2.2≠0 then bq S (lK S T).2.2 0 (bU ((lK S T).1.dR slot).1)
 else if (bq S (lK S T).2.2 0 (bU ((lK S T).1.dR slot).1)).1.Ma<sec then (((bq S (lK S T).2.2 0 (bU ((lK S T).1.dR slot).1)).1.oP sec).1,(bq S (lK S T).2.2 0 (bU ((lK S T).1.dR slot).1)).2.1,((bq S (lK S T).2.2 0 (bU ((lK S T).1.dR slot).1)).1.oP sec).2)
 else ((bq S (lK S T).2.2 0 (bU ((lK S T).1.dR slot).1)).1,(bq S (lK S T).2.2 0 (bU ((lK S T).1.dR slot).1)).2.1,0)
theorem QY(S:aD)(T:St)(aS:Int):(dZ S T aS).2.cu=T.cu∧(dZ S T aS).2.stands=T.stands:=by
 unfold dZ;repeat (first | exact⟨rfl,rfl⟩ | split)
theorem Xr(S:aD)(T:St):(lK S T).2.2.cu=T.cu∧(lK S T).2.2.stands=T.stands:=by grind [QY,lK]
theorem aaP(S:aD)(T:St):(lK S T).1.ok=true:=by
 unfold lK;split
 ·rfl
 ·split
  ·rename_i h;have h2:=h.2;unfold aY.parse at h2 ⊢;split at h2
   ·rename_i h3;rw[if_pos h3];unfold aY.dW at h3;simp only[Bool.and_eq_true] at h3;exact h3.1.2
   ·cases h2
  ·rfl
theorem Ay{s:aY}(hs:s.ok=true)(h:slot=0∨slot=1):(s.dR slot).1.ok=true:=by
 have h1:=aY.lJ hs;unfold aY.dR;rw[if_neg (by unfold aY.Ol;rw[hs];rcases h with rfl | rfl<;>decide)];rcases h with rfl | rfl
 all_goals
  simp[aY.put,aY.ok];omega
theorem Ld{T:bZ}{C:Cw}(hC:C.Ok)(hg:C.g=g)(hT:T.Ok g)(hx:x.ok=true)(qZ:∀l∈T.aC.cu,l.length≤1000000):aB prog 69 #[ptr bs 0,x.v] K (C.A bc::dA bd bc g::T.A bs bd g::F)
 (fun v H'=>∃(C':Cw) (T':bZ),C'.Ok∧C'.g=g∧T'.Ok g∧C'.aC=(bq C.aC T.aC 0 (bU x)).1∧T'.aC=(bq C.aC T.aC 0 (bU x)).2.1∧v= .i (bq C.aC T.aC 0 (bU x)).2.2∧H'=C'.A bc::dA bd bc g::T'.A bs bd g::F):=by
 have hb:=aY.gJ hx;have hl9:(bU x).length=9:=by unfold bU;rw[gZ,aY.fC hx]
 obtain⟨X,hX⟩:∃X,X=bq C.aC T.aC 0 (bU x):=⟨_,rfl⟩;rw[←hX];refine aB.en func69 ntmps69 ?_;refine aj "a*" fun b3=> ?_;refine aj "wB" ?_;refine WL.c1 call131 rfl (EP x _ _) rfl ?_;rintro _ _ (⟨_,bb,rfl,rfl⟩ | ⟨uN,rfl,rfl⟩)
 rotate_left
 ·rw[hx] at uN;cases uN
 refine aj "Efs5Wc" ?_;refine WL.sub (Sub.refl _) (fun w h=>h.bg 5 [2,3,4,0] rfl)<|WL.c3 call16 rfl rfl rfl (Da hC hg hT (aS:=0) (d:=bU x) (by rw[show av .u8 (bU x)=ints .u8 x.bytes by unfold bU;rw[mJ hb]];exact Seq.allI (aY.fC hx)) (iP hb) aN aN qZ) rfl ?_;rintro _ _ ⟨C1,T1,RP,g1,oZ,s1,t1,rfl,rfl⟩;rw[←hX] at s1 t1 ⊢;refine aj "d" ?_;exact qR (C1.A bc::dA bd bc g::T1.A bs bd g::F) rfl rfl (fun w h=>h.bg 4 [0,1,2] rfl) ⟨C1,T1,RP,g1,oZ,s1,t1,rfl,rfl⟩
theorem ahk(S:aD)(n:Int):(S.oP n).1.g=S.g:=by unfold aD.oP aD.all;repeat (first | exact rfl | split)
theorem M4{T:bZ}{C:Cw}(hC:C.Ok)(hg:C.g=g)(hT:T.Ok g)(hl:11≤(T.stands.length:Int))(qZ:∀l∈T.aC.cu,l.length≤1000000)(slot en sec err:Int):aB prog 28 #[ptr bs 0,ptr bc 0,.agg #[.i slot,.i en,.i sec,lw,.i err]] K (C.A bc::dA bd bc g::T.A bs bd g::F)
 (fun v H'=>∃(C':Cw) (T':bZ),C'.Ok∧C'.g=g∧T'.Ok g∧C'.aC=(sF C.aC T.aC slot sec err).1∧T'.aC=(sF C.aC T.aC slot sec err).2.1∧v= .i (sF C.aC T.aC slot sec err).2.2∧H'=C'.A bc::dA bd bc g::T'.A bs bd g::F):=by
 obtain⟨X,hX⟩:∃X,X=sF C.aC T.aC slot sec err:=⟨_,rfl⟩;rw[←hX];unfold sF at hX;refine aB.en func28 ntmps28 ?_;refine aj "a*" fun b5=> ?_;refine aj "f]cV~~VO5~bapsc~g~f~~u~~K" ?_;refine WL.bI (oj:=_) rfl rfl rfl GC.ct (V.fieldAddr ach (ak rfl)) rfl<|aj "~~~n~~(~~LOc~g~f~,Oc~g~f~lOj" (aW (fun h1=> ?_) fun h1=> ?_)
 ·have hk:F9 slot sec err=false:=by unfold F9;simp at h1 ⊢;omega
  rw[if_pos hk] at hX;refine aj "I" ?_;subst hX;exact qR (C.A bc::dA bd bc g::T.A bs bd g::F) rfl rfl (fun w h=>h.bg 4 [1,2,3] rfl) ⟨C,T,hC,hg,hT,rfl,rfl,rfl,rfl⟩
 ·have hk:F9 slot sec err=true:=by unfold F9;simp at h1 ⊢;omega
  rw[if_neg (by rw[hk];decide)] at hX;have mR:(slot=0∨slot=1)∧0≤sec∧sec≤64:=by unfold F9 at hk;simp at hk;omega
  refine aj "W~=" ?_;refine WL.c1 call24 rfl (vB hC hg hT hl) rfl ?_;rintro _ _ ⟨T1,oZ,t1,rfl,rfl⟩;obtain⟨X1,hX1⟩:∃X1,X1=lK C.aC T.aC:=⟨_,rfl⟩;have jh:=aaP C.aC T.aC;have dL:=(Xr C.aC T.aC).1;rw[←hX1] at t1 hX jh dL ⊢;refine aj "8v" fun b7=> ?_;refine aj "Cfsj" (aW (fun h2=> ?_) fun h2=> ?_)
  ·simp only[iC] at h2;rw[if_pos h2] at hX;refine aj "ed" ?_;subst hX;exact qR (C.A bc::dA bd bc g::T1.A bs bd g::F) rfl rfl (fun w h=>h.bg 5 [1,2,3] rfl) ⟨C,T1,hC,hg,oZ,rfl,t1,rfl,rfl⟩
  ·simp only[iC] at h2;rw[if_neg ay] at hX;refine aj "iaBp" ?_;refine WL.t2 call94 rfl rfl (JY X1.1 slot _ _) rfl<|aj "8CbrB" ?_;refine WL.sub (Sub.refl _) (fun w h=>h.bg 5 [1,2,3,0,4] rfl)<|WL.c2 call69 rfl rfl (Ld hC hg oZ (Ay jh mR.1) (by rw[t1,dL];exact qZ)) rfl ?_;rintro _ _ ⟨C2,T2,Bz,g2,BH,s2,t2,rfl,rfl⟩;obtain⟨X2,hX2⟩:∃X2,X2=bq C.aC T1.aC 0 (bU (X1.1.dR slot).1):=⟨_,rfl⟩;rw[←t1,←hX2] at hX;rw[←hX2] at s2 t2 ⊢;refine aj "ksj" (aW (fun h3=> ?_) fun h3=> ?_)
   ·simp only[iC] at h3;rw[if_pos h3] at hX;refine aj "ed" ?_;subst hX;exact qR (C2.A bc::dA bd bc g::T2.A bs bd g::F) rfl rfl (fun w h=>h.bg 5 [0,1,2] rfl) ⟨C2,T2,Bz,g2,BH,s2,t2,rfl,rfl⟩
   ·simp only[iC] at h3;rw[if_neg ay] at hX;refine aj "~bP~m~y~H." ?_;refine WQ.call (vs:=[_]) call27 ⟨ak rfl,trivial⟩ (K4 (C:=C2)) rfl<|aj "~~q~iF" (aW (fun h4=> ?_) fun h4=> ?_)
    ·simp only[iC] at h4;rw[s2] at h4;rw[if_pos ay] at hX;refine aj "ep" ?_;refine WL.c2 call95 rfl rfl (Yh Bz sec) rfl ?_;rintro _ _ ⟨C3,TS,rfl,s3,rfl⟩;have g3:C3.g=g:=by rw[show C3.g=C3.aC.g from rfl,s3];rw[ahk];exact g2
     rw[s2];refine aj "d" ?_;subst hX;exact qR (C3.A bc::dA bd bc g::T2.A bs bd g::F) rfl rfl (fun w h=>h.bg 5 [0,1,2] rfl) ⟨C3,T2,TS,g3,BH,by rw[s3,s2],t2,rfl,rfl⟩
    ·simp only[iC] at h4;rw[s2] at h4;rw[if_neg ay] at hX;refine aj "iI" ?_;subst hX;exact qR (C2.A bc::dA bd bc g::T2.A bs bd g::F) rfl rfl (fun w h=>h.bg 5 [0,1,2] rfl) ⟨C2,T2,Bz,g2,BH,s2,t2,rfl,rfl⟩
end Go.Proofs.YtcedojacbhnbiaaGreat
