import Derived.Test.YtcedojacbhnbiaaGreatP0
import Derived.MapKept
import Derived.Test.YtcedojacbhnbiaaGreatProg
import Derived.Lib.SliceRun
import Derived.RangeFuncNested
import Derived.OrdersIn
import Derived.Defers
import Derived.Lib.AppendZeros
set_option autoImplicit true
set_option linter.all false
set_option maxRecDepth 20000
set_option relaxedAutoImplicit true
namespace Go.Sl
open Go.RowKit Go.BigFrame List Nat
section
variable{κ:Type}[DecidableEq κ]
structure CU(P:Program)(kt:TypeId)(enc:κ→Value):Prop where
 check:∀(b:Bool) (k:κ) (w:World),(Instr.checkKey b 10000 kt (enc k)).run P w= .ok () w
 eq:∀(k k':κ) (w:World),(Op.equal kt (enc k) (enc k')).run P w= .ok (decide (k=k')) w
 und:∃d,P.underlying kt=some d∧∀k k':κ,Instr.sameNow d (enc k) (enc k')=none∨Instr.sameNow d (enc k) (enc k')=some (decide (k=k'))
 bits:∀k:κ,Instr.sameBits 10000 (enc k) (enc k)=true
def yS(enc:κ→Value)(e:κ×Value×Nat):MapEntry:=⟨enc e.1,e.2.1,e.2.2⟩
def findAt(k:κ):List (κ×Value×Nat)→Nat→Option (Nat×Value)
 | [],_=>none
 | e::es,i=>if k=e.1 then some (i,e.2.1) else findAt k es (i+1)
variable{P:Program}{kt:TypeId}{enc:κ→Value}
theorem CU.findKey(L:CU P kt enc)(k:κ)(es:List (κ×Value×Nat))(w:World):(Instr.findKey kt (enc k) (es.map (yS enc))).run P w= .ok (findAt k es 0) w:=by
 obtain⟨d,hd,b⟩:=L.und;have j:∀(es:List (κ×Value×Nat)) i,Instr.findNow d (enc k) (es.map (yS enc)) i=none∨Instr.findNow d (enc k) (es.map (yS enc)) i=some (findAt k es i):=by
  intro es
  induction es with
  | nil=>intro i;exact .inr Z
  | cons e es ih =>
   intro i;simp only[map_cons,Instr.findNow,findAt];rcases b k e.1 with h | h
   ·left;simp[yS,h]
   ·simp only[yS,h];by_cases a:k=e.1
    ·simp[a]
    ·simpa [a] using ih (i+1)
 have l:∀(es:List (κ×Value×Nat)) i,(Instr.findAsking kt (enc k) (es.map (yS enc)) i).run P w= .ok (findAt k es i) w:=by
  intro es
  induction es with
  | nil=>intro i;rfl
  | cons e es ih =>
   intro i;simp only[map_cons,Instr.findAsking,findAt,Sem.run_bind];have :=L.eq k e.1 w;simp only[yS] at this ⊢;rw[this];by_cases a:k=e.1
   ·simp[a]
   ·simpa [a] using ih (i+1)
 unfold Instr.findKey;simp only[Sem.run_bind,run_underlying hd,Result.andThen_ok];rcases j es 0 with h | h
 ·rw[h];exact l es 0
 ·rw[h];rfl
theorem sD:∀ {es:List (κ×Value×Nat)} {i j:Nat},findAt k es i=some (j,v)→∃q,j=i+q∧∃b,es[q]? =some (k,v,b)
 | [],_,_,h=>by simp[findAt] at h
 | e::es,i,j,h=>by
  simp only[findAt] at h;split at h
  ·rename_i hk;simp at h;obtain⟨rfl,rfl⟩:=h;exact⟨0,Z,e.2.2,by simp[hk]⟩
  ·obtain⟨q,rfl,b,a⟩:=sD h;exact⟨q+1,by omega,b,by simpa using a⟩
theorem vM:∀(es:List (κ×Value×Nat)) (i:Nat),(findAt k es i).map (·.2)=(findAt k es 0).map (·.2)
 | [],_=>rfl
 | e::es,i=>by
  simp only[findAt];split
  ·rfl
  ·rw[vM es (i+1),vM es 1]
def looks(es:List (κ×Value×Nat))(k:κ):Option Value:=(findAt k es 0).map (·.2)
theorem gN(e:κ×Value×Nat)(es:List (κ×Value×Nat))(k:κ):looks (e::es) k=if k=e.1 then some e.2.1 else looks es k:=by
 unfold looks;simp only[findAt];split
 ·rfl
 ·exact vM es 1
theorem Bq{k:κ}(h:findAt k es 0=none):∀e∈es,e.1≠k:=by
 have d:looks es k=none:=by unfold looks;rw[h];rfl
 clear h
 induction es with
 | nil=>intro e b;cases b
 | cons a es ih =>
  intro e b;rw[gN] at d;split at d
  ·cases d
  ·rename_i j;rcases mem_cons.1 b with rfl | b
   ·exact λh=>j h.symm
   ·exact ih d e b
theorem UK(h:∀e∈es,e.1≠k)(k':κ):looks (es++[(k,v,b)]) k'=if k'=k then some v else looks es k':=by
 induction es with
 | nil=>rw[nil_append,gN]
 | cons a es ih =>
  rw[cons_append,gN,gN,ih (λe j=>h e (.tail _ j))];have :=h a (.head _);by_cases d:k'=a.1
  ·rw[if_pos d,if_neg (by rw[d];exact this),if_pos d]
  ·rw[if_neg d,if_neg d]
theorem Cz:∀ {es:List (κ×Value×Nat)} {q:Nat} {v0:Value} {b:Nat},es[q]? =some (k,v0,b)→(es.map (·.1)).Nodup→∀k',looks (es.modify q λe=>(k,v,e.2.2)) k'=if k'=k then some v else looks es k'
 | [],_,_,_,h,_,_=>by simp at h
 | e::es,0,v0,b,h,_,k'=>by
  simp at h;subst h;rw[modify_zero_cons,gN,gN];by_cases h1:k'=k<;>simp[h1]
 | e::es,q+1,v0,b,h,hn,k'=>by
  rw[modify_succ_cons,gN,gN,Cz (v:=v) (by simpa using h) (nodup_cons.1 (by simpa using hn)).2];by_cases h1:k'=e.1
  ·have h2:e.1≠k:=λh2=>by
    simp only[map_cons,nodup_cons] at hn;exact hn.1 (h2 ▸ mem_map.2 ⟨_,mem_of_getElem? (by simpa using h),Z⟩)
   rw[if_pos h1,if_pos h1,if_neg (by rw[h1];exact h2)]
  ·rw[if_neg h1,if_neg h1]
theorem yu:∀ {es:List (κ×Value×Nat)} {q:Nat} {v0:Value} {b:Nat},es[q]? =some (k,v0,b)→(es.map (·.1)).Nodup→∀k',looks (es.eraseIdx q) k'=if k'=k then none else looks es k'
 | [],_,_,_,h,_,_=>by simp at h
 | e::es,0,v0,b,h,hn,k'=>by
  simp at h;subst h;rw[eraseIdx_cons_zero,gN];by_cases h1:k'=k
  ·subst h1;simp only[if_true];have h0:k'∉es.map (·.1):=by simp only[map_cons,nodup_cons] at hn;exact hn.1
   clear hn
   induction es with
   | nil=>rfl
   | cons a es ih =>
    rw[gN,if_neg (λh=>h0 (by simp[h])),ih (λh=>h0 (by simp[h]))]
  ·simp[h1]
 | e::es,q+1,v0,b,h,hn,k'=>by
  rw[eraseIdx_cons_succ,gN,gN,yu (by simpa using h) (nodup_cons.1 (by simpa using hn)).2];by_cases h1:k'=e.1
  ·have d:e.1≠k:=λd=>by
    simp only[map_cons,nodup_cons] at hn;exact hn.1 (d ▸ mem_map.2 ⟨_,mem_of_getElem? (by simpa using h),Z⟩)
   rw[if_pos h1,if_pos h1,if_neg (by rw[h1];exact d)]
  ·rw[if_neg h1,if_neg h1]
def gD(b:Nat)(enc:κ→Value)(f:κ→Option Value):aH where
 jA x:=x=b
 holds w:=∃(l:List (κ×Value×Nat)) (c:Nat),w.heap[b]? =some (.map (l.map (yS enc)).toArray c)∧(l.map (·.1)).Nodup∧∀k,looks l k=f k
 loc w w' h hw:=by rw[h b Z];exact hw
def FT(f:κ→Option Value)(k:κ)(v:Option Value):κ→Option Value:=λa=>if a=k then v else f a
variable{Mo:Mode}{K:World}{n:Nat}{Q:iX}{e:Env}{H:List aH}{c:Bool}{dst:Option Tmp}{ty:TypeId}{pos:String}{af:Array Edge}{gd:Option (Nat×Bool)}{ops:Array Oper}{rest:List Oper}
def J2(K:World)(H:List aH)(b:Nat)(enc:κ→Value)(f:κ→Option Value):Prop:=∀w,Sat K w H→(gD b enc f).holds w
theorem J2.here:J2 K (gD b enc f::H) b enc f:=λw a=>a.head
theorem J2.up{A:aH}{b:Nat}{f:κ→Option Value}(h:J2 K H b enc f):J2 K (A::H) b enc f:=λw a=>h w a.tail
theorem V.lookup{T et:Nat}(hT:P.underlying T=some (.map kt et))(hz:∀w,(zeroValue et).run P w= .ok z w)(L:CU P kt enc)(hx:OV c e x (.map (some b)))(hy:OV c e y (enc k))
 (hm:c=true→J2 K H b enc f):eX Mo P K n c e H ⟨dst,.lookup T x y false,ty,pos,af,gd⟩ ((f k).getD z):=λd a w h r=>by
 show ((do pure (Next.value (←Instr.lookup T (a.eval x) (a.eval y) false))):Sem Next).run P w=_;rw[hx.ev d h,hy.ev d h];obtain⟨l,D,j,C,m⟩:=hm d w r;have u:=L.findKey k l w;have B:f k=(findAt k l 0).map (·.2):=(m k).symm;simp only[Instr.lookup,Sem.run_bind,run_underlying hT,Result.andThen_ok,MapKept.run_getObj_map j,L.check,u,Sem.run_pure];rw[B];cases findAt k l 0 with
 | none=>simp[hz w]
 | some p=>simp
theorem V.Qu{T et:Nat}(hT:P.underlying T=some (.map kt et))(hz:∀w,(zeroValue et).run P w= .ok z w)(L:CU P kt enc)(hx:OV c e x (.map (some b)))(hy:OV c e y (enc k))
 (hm:c=true→J2 K H b enc f):eX Mo P K n c e H ⟨dst,.lookup T x y true,ty,pos,af,gd⟩ (.tuple #[(f k).getD z,.bool (f k).isSome]):=λd a w h r=>by
 show ((do pure (Next.value (←Instr.lookup T (a.eval x) (a.eval y) true))):Sem Next).run P w=_;rw[hx.ev d h,hy.ev d h];obtain⟨l,D,j,C,m⟩:=hm d w r;have u:=L.findKey k l w;have B:f k=(findAt k l 0).map (·.2):=(m k).symm;simp only[Instr.lookup,Sem.run_bind,run_underlying hT,Result.andThen_ok,MapKept.run_getObj_map j,L.check,u,Sem.run_pure];rw[B];cases findAt k l 0 with
 | none=>simp[hz w]
 | some p=>simp
theorem Sat.DT(hw:Sat K w (gD b enc f::H))(h2:(l.map (·.1)).Nodup)(h3:∀k,looks l k=g k) :
 Sat K { w with heap:=w.heap.setIfInBounds b (.map (l.map (yS enc)).toArray ck) } (gD b enc g::H):=by
 have d:=hw.2.2.1 b Z;refine⟨hw.1.grow Z Z Z (by simp),hw.2.set (by simp) (λx a _=> ?_) ⟨l,ck, ?_,h2,h3⟩ (λx a=> .inl a)⟩
 ·have pq:b≠x:=λh=>a h.symm;show (w.heap.setIfInBounds b _)[x]? =_;rw[Array.getElem?_setIfInBounds,if_neg pq]
 ·show (w.heap.setIfInBounds b _)[b]? =_;rw[Array.getElem?_setIfInBounds,if_pos Z,if_pos d]
theorem WL.mapUpdate{T et:Nat}(hT:P.underlying T=some (.map kt et))(L:CU P kt enc)(hx:OV true e x (.map (some b)))(hy:OV true e y (enc k))(hz:OV true e z v)
 (h:WL Mo P K n ops rest Q e (gD b enc (FT f k (some v))::H)):WL Mo P K n ops (⟨none,.mapUpdate T x y z,ty,pos,af,none⟩::rest) Q e (gD b enc f::H):=by
 refine WL.aeo (R:=λI=>I=gD b enc (FT f k (some v))::H) (λa w m C=> ?_) (λI S=>by subst S;exact h);obtain⟨l,ck,r,u,J⟩:=C.head;have G:=L.findKey k l w;have Y3:∀D,(Instr.mapUpdate T (.map (some b)) (enc k) v).run P w= .ok () D→(execOp a.eval ⟨none,.mapUpdate T x y z,ty,pos,af,none⟩).run P w= .ok .skip D:=λD N=>by
  show ((do Instr.mapUpdate T (a.eval x) (a.eval y) (a.eval z);pure Next.skip):Sem Next).run P w=_;rw[hx.ev Z m,hy.ev Z m,hz.ev Z m];simp[N]
 cases hf:findAt k l 0 with
 | none =>
  have uN:=Bq hf;refine⟨_,_,.inl (Y3 _ ?_),C.DT (l:=l++[(k,v,ck)]) (ck:=ck+1) (g:=FT f k (some v)) ?_ ?_,Z⟩
  ·simp only[Instr.mapUpdate,Sem.run_bind,run_underlying hT,Result.andThen_ok,MapKept.run_getObj_map r,L.check,G,hf];rw[MapKept.run_setObj_map _ r];simp[yS]
  ·rw[map_append,map_cons,map_nil];refine nodup_append.2 ⟨u,by simp,λa m b F=> ?_⟩;simp at F;subst F;obtain⟨O,Za,rfl⟩:=mem_map.1 m;exact uN O Za
  ·intro M;rw[UK uN,J];rfl
 | some p =>
  obtain⟨j,U⟩:=p;obtain⟨q,rfl,V,B⟩:=sD hf;simp only[Nat.zero_add] at hf;refine⟨_,_,.inl (Y3 _ ?_),C.DT (l:=l.modify q λe=>(k,v,e.2.2)) (ck:=ck) (g:=FT f k (some v)) ?_ ?_,Z⟩
  ·have ao2:((l.map (yS enc)).toArray[q]?).map (·.key)=some (enc k):=by simp[B,yS]
   simp only[Instr.mapUpdate,Sem.run_bind,run_underlying hT,Result.andThen_ok,MapKept.run_getObj_map r,L.check,G,hf,ao2,Option.getD_some,Instr.keyThatStays,L.bits,if_true,Sem.run_pure];rw[MapKept.run_setObj_map _ r];have :(l.map (yS enc)).toArray.modify q (λe=> { e with key:=enc k,val:=v })=((l.modify q λe=>(k,v,e.2.2)).map (yS enc)).toArray:=by
    apply Array.ext_getElem?;intro i;simp only[Array.getElem?_modify,getElem?_toArray,getElem?_map,getElem?_modify];by_cases d:q=i
    ·simp only[d,if_true];cases l[i]? <;>simp[yS]
    ·simp only[d,if_false];cases l[i]? <;>simp
   rw[this]
  ·have :(l.modify q λe=>(k,v,e.2.2)).map (·.1)=l.map (·.1):=by
    apply ext_getElem?;intro i;simp only[getElem?_map,getElem?_modify];by_cases d:q=i
    ·subst d;simp[B]
    ·simp only[d,if_false];cases l[i]? <;>simp
   rw[this];exact u
  ·intro M;rw[Cz B u,J];rfl
theorem WL.delete{T T' et:Nat}(hT:P.underlying T=some (.map kt et))(L:CU P kt enc)(hx:OV true e x (.map (some b)))(hy:OV true e y (enc k))(hd:blt d n=true)
 (h:WL Mo P K n ops rest Q ((d,.tuple #[])::e) (gD b enc (FT f k none)::H)):WL Mo P K n ops (⟨some d,.call ⟨.builtin .delete,#[x,y],#[T,T']⟩,ty,pos,af,none⟩::rest) Q e (gD b enc f::H):=by
 refine WL.RQ (R:=λv I=>v= .tuple #[]∧I=gD b enc (FT f k none)::H) (λa w J C=> ?_) hd (λv I ⟨S,O⟩=>by subst S O;exact h);obtain⟨l,ck,m,r,B⟩:=C.head;have G:=L.findKey k l w;have Km:=hx.ev Z J;have Qt:=hy.ev Z J;have Y3:∀D,(Builtin.delete_ #[T,T'] ty #[.map (some b),enc k]).run P w= .ok (.tuple #[]) D→(execOp a.eval ⟨some d,.call ⟨.builtin .delete,#[x,y],#[T,T']⟩,ty,pos,af,none⟩).run P w= .ok (.value (.tuple #[])) D:=λD N=>by
  rw[execOp_builtin,builtin_delete];simp[Km,Qt,N]
 cases hf:findAt k l 0 with
 | none =>
  have uN:=Bq hf;refine⟨_,_,_,Y3 _ ?_,C.DT (l:=l) (ck:=ck) (g:=FT f k none) r ?_,Z,Z⟩
  ·simp only[Builtin.delete_,getElem?_toArray,getElem?_cons_zero,getElem?_cons_succ,Sem.run_bind,run_underlying hT,Result.andThen_ok,MapKept.run_getObj_map m,L.check,G,hf];rw[MapKept.run_setObj_map _ m];simp
  ·intro F;rw[B];unfold FT;by_cases M:F=k
   ·subst M;rw[if_pos Z,←B];unfold looks;rw[hf];rfl
   ·rw[if_neg M]
 | some p =>
  obtain⟨j,U⟩:=p;obtain⟨q,rfl,V,u⟩:=sD hf;simp only[Nat.zero_add] at hf;refine⟨_,_,_,Y3 _ ?_,C.DT (l:=l.eraseIdx q) (ck:=ck) (g:=FT f k none) ?_ ?_,Z,Z⟩
  ·simp only[Builtin.delete_,getElem?_toArray,getElem?_cons_zero,getElem?_cons_succ,Sem.run_bind,run_underlying hT,Result.andThen_ok,MapKept.run_getObj_map m,L.check,G,hf];rw[MapKept.run_setObj_map _ m];have :(l.map (yS enc)).toArray.eraseIdxIfInBounds q=((l.eraseIdx q).map (yS enc)).toArray:=by
    have o7:q<l.length:=by
     rcases Nat.lt_or_ge q l.length with h | h
     ·exact h
     ·rw[getElem?_eq_none h] at u;cases u
    simp[Array.eraseIdxIfInBounds,o7];apply ext_getElem?;intro i;simp only[getElem?_eraseIdx,getElem?_map];split<;>rfl
   simp[this]
  ·exact Nodup.sublist ((eraseIdx_sublist _ _).map _) r
  ·intro F;rw[yu u r,B];rfl
theorem WL.makeMap{T:Nat}(enc:κ→Value)(hd:blt d n=true)
 (h:∀b,WL Mo P K n ops rest Q ((d,.map (some b))::e) (gD b enc (λ_=>none)::H)):WL Mo P K n ops (⟨some d,.makeMap T none,ty,pos,af,none⟩::rest) Q e H:=by
 refine WL.RQ (R:=λv m=>∃b,v= .map (some b)∧m=gD b enc (λ_=>none)::H) (λa w x l=> ?_) hd (λv m ⟨b,u,r⟩=>by subst u r;exact h b);refine⟨.map (some w.heap.size),w.alloc (.map #[] 0),_, ?_,⟨l.1.grow Z Z Z (by simp),l.2.push (A:=gD w.heap.size enc (λ_=>none)) (by simp) (λb j=> ?_) ⟨[],0, ?_,by simp,λ_=>Z⟩ (λb j=> ?_)⟩,w.heap.size,Z,Z⟩
 ·rfl
 ·exact Below.heap_alloc _ _ _ j
 ·exact heap_alloc_new w _
 ·simp only[gD] at j;subst j;simp
end
def nJ{κ:Type}(m:κ→Bool):κ→Option Value:=λk=>if m k then some (.bool true) else none
theorem Ej{κ:Type}(m:κ→Bool)(k:κ):(nJ m k).getD (.bool false)= .bool (m k):=by
 unfold nJ;cases m k<;>rfl
theorem KO{κ:Type}[DecidableEq κ](m:κ→Bool)(k:κ):FT (nJ m) k (some (.bool true))=nJ (λk'=>if k'=k then true else m k'):=by unfold FT nJ;grind
theorem CU.int(h:P.underlying kt=some (.int k)):CU P kt (λi:Int=>Value.int k i) where
 check b i w:=MapKept.run_checkKey h (by simp[MapKept.IsKey]) b 9999
 eq i j w:=run_equalIn_int w 9999 kt k k i j h
 und:=⟨_,h,λi j=> .inr (by simp[Instr.sameNow];rfl)⟩
 bits i:=by simp[Instr.sameBits]
theorem bO.ad2{w w':World}{A:aH}(h:∀b,A.jA b→w'.heap[b]? =w.heap[b]?)(hb:∀b,A.jA b→b<w.heap.size):∀b,A.jA b→b<w'.heap.size:=by grind
theorem bO.loc:∀ {l:List aH},(∀b,(∃A∈l,A.jA b)→w'.heap[b]? =w.heap[b]?)→bO w l→bO w' l
 | [],_,_=>trivial
 | A::l,hk,h=>⟨A.loc w w' (λb hb=>hk b ⟨A,.head _,hb⟩) h.1,bO.ad2 (λb hb=>hk b ⟨A,.head _,hb⟩) h.2.1,h.2.2.1,bO.loc (λb ⟨B,hB,hb⟩=>hk b ⟨B,.tail _ hB,hb⟩) h.tail⟩
def bK(l:List aH):aH where
 jA x:=∃A∈l,A.jA x
 holds w:=bO w l
 loc w w' h hw:=bO.loc h hw
theorem bO.append:∀ {l H:List aH},bO w (l++H)↔bO w l∧bO w H∧∀b,(∃A∈l,A.jA b)→∀B∈H,¬B.jA b
 | [],H=>by simp[bO]
 | A::l,H=>by
  have ih:=bO.append (w:=w) (l:=l) (H:=H);constructor
  ·intro h;obtain⟨r,m,u⟩:=ih.1 h.tail;refine⟨⟨h.1,h.2.1,λb d B a=>h.2.2.1 b d B (mem_append_left _ a),r⟩,m,λb ⟨B,a,d⟩ C j=> ?_⟩;rcases mem_cons.1 a with rfl | a
   ·exact h.2.2.1 b d C (mem_append_right _ j)
   ·exact u b ⟨B,a,d⟩ C j
  ·rintro⟨h1,h2,h3⟩;refine⟨h1.1,h1.2.1,λb d B a=> ?_,ih.2 ⟨h1.tail,h2,λb ⟨B,a,d⟩=>h3 b ⟨B,.tail _ a,d⟩⟩⟩;rcases mem_append.1 a with a | a
   ·exact h1.2.2.1 b d B a
   ·exact h3 b ⟨A,.head _,d⟩ B a
theorem bO.adi(h:bO w l)(hb:∃A∈l,A.jA b):b<w.heap.size:=by
 obtain⟨A,d,a⟩:=hb;exact (h.mem d).2 b a
theorem bO.all:bO w (bK l::H)↔bO w (l++H):=by
 rw[bO.append];exact⟨λh=>⟨h.1,h.tail,h.2.2.1⟩,λh=>⟨h.1,λb a=>h.1.adi a,h.2.2,h.2.1⟩⟩
theorem Sat.yJ(h:Sat K w (bK l::H)):Sat K w (l++H):=⟨h.1,bO.all.1 h.2⟩
theorem Sat.all(h:Sat K w (l++H)):Sat K w (bK l::H):=⟨h.1,bO.all.2 h.2⟩
theorem Sat.Bc(h:Sat K w (A::bK l::H)):Sat K w (bK (A::l)::H) :=
 Sat.all ⟨h.1,⟨h.2.1,h.2.2.1,λb d B a=>by
  rcases mem_append.1 a with a | a
  ·exact λj=>h.2.2.2.1 b d (bK l) (.head _) ⟨B,a,j⟩
  ·exact h.2.2.2.1 b d B (.tail _ a),bO.all.1 h.2.tail⟩⟩
theorem Sat.amR(h:Sat K w (bK l::H))(hA:A∈l):Sat K w [A] :=
 ⟨h.1,(bO.mem h.2.1 hA).1,(bO.mem h.2.1 hA).2,λ_ _ _ a=>by simp at a,trivial⟩
theorem Sat.one(h:Sat K w (A::H)):Sat K w [A]:=⟨h.1,h.2.1,h.2.2.1,λ_ _ _ a=>by simp at a,trivial⟩
def iK(l:List aH)(A:Option Addr)(m s:Nat)(vs:List Value):Prop:=vs.length=m*s∧∀K w,Sat K w [bK l]→∀i v,vs[i]? =some v→∃a,A.map (·.add i)=some a∧w.cell? a=some v
theorem iK.seq(h:iK l A m s vs):Seq K (bK l::H) A m s vs:=⟨h.1,λi v a w b=>h.2 K w b.one i v a⟩
theorem iK.mono(h:iK l A m s vs)(hl:∀K w,Sat K w [bK l']→Sat K w [bK l]):iK l' A m s vs:=⟨h.1,λK w a=>h.2 K w (hl K w a)⟩
theorem iK.up{l:List aH}{B:aH}{A:Option Addr}{m s:Nat}{vs:List Value}(h:iK l A m s vs):iK (B::l) A m s vs:=h.mono λK w a=>by
 have b:=a.yJ;exact Sat.all (l:=l) (H:=[]) b.tail
theorem iK.here(h:∀K,Seq K [B] A m s vs):iK (B::l) A m s vs:=by
 refine⟨(h default).len,λK w b i v a=>(h K).rd i v a w ?_⟩;exact b.yJ.one
theorem iK.nil:iK l none 0 s []:=⟨by simp,λK w _ i v a=>by simp at a⟩
theorem mD(cs:List Value):∀(vs:List Value) (o:Nat),o+vs.length≤cs.length→oU cs o vs=cs.take o++vs++cs.drop (o+vs.length):=by
 intro vs
 induction vs generalizing cs with
 | nil=>intro o h;simp[oU]
 | cons v vs ih =>
  intro o h;simp only[length_cons] at h;rw[oU,ih _ _ (by simp;omega)];apply ext_getElem?;intro i;simp only[getElem?_append,getElem?_take,getElem?_drop,length_append,length_take,length_set,getElem?_set,length_cons,getElem?_cons];rcases Nat.lt_trichotomy i o with d | d | d
  ·have j:i<min (o+1) cs.length+vs.length:=by omega
   have a:i<min (o+1) cs.length:=ay;have b:i<min o cs.length:=ay;have l:i<min o cs.length+(vs.length+1):=ay;simp[j,a,b,l,show i<o+1 by omega,show o≠i by omega,d]
  ·subst d;have j:i<min (i+1) cs.length+vs.length:=ay;have a:i<min (i+1) cs.length:=ay;have l:i<min i cs.length+(vs.length+1):=ay;have b:¬i<min i cs.length:=ay;simp[j,a,b,l,show i-min i cs.length=0 by omega,show i<cs.length by omega]
  ·have y:min (o+1) cs.length=o+1:=by omega
   have m2:min o cs.length=o:=ay;rw[y,m2];have a:¬i<o+1:=ay;have b:¬i<o:=ay;have u:i-o≠0:=ay;simp only[a,b,if_false];by_cases m:i<o+1+vs.length
   ·simp[m,show i<o+(vs.length+1) by omega,u,show i-(o+1)=i-o-1 by omega]
   ·have r:o≠o+(vs.length+1)+(i-(o+(vs.length+1))):=by omega
    simp[m,show ¬i<o+(vs.length+1) by omega,show o+1+vs.length+(i-(o+1+vs.length))=o+(vs.length+1)+(i-(o+(vs.length+1))) by omega];intro x;exact absurd x r
theorem bT.at_(ho:o<cs.length):bT K (ah b T cs::H) b o [v] (ah b T (cs.set o v)::H):=bT.here (by simp;omega) Z
theorem bT.front(ho:vs.length≤cs.length):bT K (ah b T cs::H) b 0 vs (ah b T (vs++cs.drop vs.length)::H):=by simp_all [bT.here,mD]
theorem WL.yY{T':Nat}(hT:fq P T E 1)(hx:OV true e x (.slice (some ⟨b,0,none⟩) dl dc))(hy:OV true e y (.slice B q cap'))
 (hn:Seq K H B q 1 news) (hl:q≤dl) (h1:∀v∈news,v.oneCell'=true) (hu:bT K H b 0 news H') (hd:blt d n=true)
 (h:WL Mo P K n ops rest Q ((d,.i (q:Int))::e) H'):WL Mo P K n ops (⟨some d,.call ⟨.builtin .copy,#[x,y],#[T,T']⟩,ty,pos,af,none⟩::rest) Q e H:=by
 refine WL.RQ (R:=λv ou=>v= .i (q:Int)∧ou=H') (λa w r m=> ?_) hd (λv ou ⟨I,F⟩=>by subst I F;exact h);obtain⟨M,G⟩:=hu.run (P:=P) m h1;refine⟨_,_,H', ?_,G,Z,Z⟩;have l:news.length=q:=by rw[hn.len,Nat.mul_one]
 have J:q.min dl=q:=Nat.min_eq_left hl;rw[execOp_builtin,builtin_copy];have Km:=hx.ev Z r;have Qt:=hy.ev Z r;have C:(Builtin.firstCells 1 q (.slice B q cap')).run P w= .ok news.toArray w:=by
  cases B with
  | none =>
   have :news=[]:=by
    cases news with
    | nil=>rfl
    | cons u us=>obtain⟨p,h1,_⟩:=hn.rd 0 u Z w m;simp at h1
   subst this;rfl
  | some pb =>
   have :=run_loadCells_list (P:=P) w pb news (λj v L=>by
    obtain⟨p,h1,D⟩:=hn.cell m L;simp at h1;subst h1;exact D)
   rw[l] at this
   simpa [Builtin.firstCells] using this
 simp[Builtin.copy_,Km,Qt,hT.1 w,hT.2 w,Builtin.lenOf,J,C,M,goInt]
inductive p8 (A A':aH):List aH→List aH→Prop
 | here {H:List aH}:p8 A A' (A::H) (A'::H)
 | up {B:aH} {H H':List aH} (h:p8 A A' H H'):p8 A A' (B::H) (B::H')
theorem p8.front(h:p8 A A' H H'):∃R,(∀w,bO w H→bO w (A::R))∧(∀w,bO w (A'::R)→bO w H')∧(∀B∈H',B=A'∨B∈R)∧(∀B∈R,B∈H)∧A∈H:=by
 induction h with
 | here=>exact⟨_,λw h=>h,λw h=>h,λB b=>mem_cons.1 b,λB b=> .tail _ b,.head _⟩
 | @up B H H' h ih =>
  obtain⟨R,m,r,d,j,l⟩:=ih;refine⟨B::R,λw h=>(h.vk (m w) (λC a=> ?_)).swap,λw h=>h.swap.vk (r w) (λC a=> ?_),λC a=> ?_,λC a=> ?_,.tail _ l⟩
  ·rcases mem_cons.1 a with rfl | a
   ·exact l
   ·exact j C a
  ·rcases d C a with rfl | h
   ·exact .head _
   ·exact .tail _ h
  ·rcases mem_cons.1 a with rfl | a
   ·exact .inr (.head _)
   ·exact (d C a).imp id (.tail _)
  ·rcases mem_cons.1 a with rfl | a
   ·exact .head _
   ·exact .tail _ (j C a)
theorem WL.U9(hR:p8 A A' H H')(Wp:∀R,WL Mo P K n ops rest Q e (A'::R)→WL Mo P K n ops (o::rest) Q e (A::R))(h:WL Mo P K n ops rest Q e H'):WL Mo P K n ops (o::rest) Q e H:=by
 obtain⟨R,b,d,_⟩:=hR.front;exact WL.sub (Sub.refl _) (λw a=>⟨a.1,b w a.2⟩) (Wp R (WL.sub (Sub.refl _) (λw a=>⟨a.1,d w a.2⟩) h))
theorem WL.u6{κ:Type}[DecidableEq κ]{enc:κ→Value}{T et:Nat}{k:κ}{f:κ→Option Value}(hT:P.underlying T=some (.map kt et))(L:CU P kt enc)(hx:OV true e x (.map (some b)))(hy:OV true e y (enc k))(hz:OV true e z v)
 (hR:p8 (gD b enc f) (gD b enc (FT f k (some v))) H H') (h:WL Mo P K n ops rest Q e H'):WL Mo P K n ops (⟨none,.mapUpdate T x y z,ty,pos,af,none⟩::rest) Q e H :=
 WL.U9 hR (λR h=>WL.mapUpdate hT L hx hy hz h) h
theorem V.makeFunc(hf:Ga c e first us)(hv:Ga c e captured vs):eX Mo P K n c e H ⟨dst,.makeFunc fn first.toArray captured.toArray,ty,pos,af,gd⟩ (.func fn us.toArray vs.toArray):=λd a w b h=>by
 show ((do pure (Next.value (←Instr.makeFunc fn (first.toArray.map a.eval) (captured.toArray.map a.eval)))):Sem Next).run P w=_;rw[map_toArray,map_toArray,hf.ev b d,hv.ev b d];rfl
def alk(A B:aH):Prop:=∀b,A.jA b→¬B.jA b
theorem bO.iff:∀ {l:List aH},bO w l↔(∀A∈l,A.holds w∧∀b,A.jA b→b<w.heap.size)∧∀(i j:Nat) (A B:aH),i≠j→l[i]? =some A→l[j]? =some B→alk A B
 | []=>by simp[bO]
 | A::l=>by
  constructor
  ·intro h;obtain⟨k1,k2⟩:=bO.iff.1 h.tail;refine⟨λB d=> ?_,λi j B C ZI a m=> ?_⟩
   ·rcases mem_cons.1 d with rfl | d
    ·exact⟨h.1,h.2.1⟩
    ·exact k1 B d
   ·cases i with
    | zero =>
     cases j with
     | zero=>exact absurd Z ZI
     | succ j =>
      simp at a m;subst a;exact λb r=>h.2.2.1 b r C (mem_of_getElem? m)
    | succ i =>
     cases j with
     | zero =>
      simp at a m;subst m;exact λb r wE=>h.2.2.1 b wE B (mem_of_getElem? a) r
     | succ j=>exact k2 i j B C (λh=>ZI (by rw[h])) (by simpa using a) (by simpa using m)
  ·rintro⟨k1,k2⟩;refine⟨(k1 A (.head _)).1,(k1 A (.head _)).2,λb r B d=> ?_,bO.iff.2 ⟨λB d=>k1 B (.tail _ d),λi j B C ZI a m=>k2 (i+1) (j+1) B C (λh=>ZI ay) (by simpa using a) (by simpa using m)⟩⟩;obtain⟨i,a⟩:=getElem?_of_mem d;exact k2 0 (i+1) A B ay Z (by simpa using a) b r
def Qi(l:List aH):List Nat→List aH
 | []=>[]
 | i::is=>match l[i]? with | some A=>A::Qi l is | none=>Qi l is
theorem BL:∀ {is:List Nat} {A:aH},A∈Qi l is→∃i∈is,l[i]? =some A
 | [],_,h=>by simp[Qi] at h
 | i::is,A,h=>by
  simp only[Qi] at h;split at h
  ·rename_i B hB;rcases mem_cons.1 h with rfl | h
   ·exact⟨i,.head _,hB⟩
   ·obtain⟨j,h1,h2⟩:=BL h;exact⟨j,.tail _ h1,h2⟩
  ·obtain⟨j,h1,h2⟩:=BL h;exact⟨j,.tail _ h1,h2⟩
theorem bO.bg(h:bO w l):∀ {is:List Nat},is.Nodup→bO w (Qi l is)
 | [],_=>trivial
 | i::is,hn=>by
  obtain⟨k1,k2⟩:=bO.iff.1 h;have a:=nodup_cons.1 hn;simp only[Qi];split
  ·rename_i A m;have d:=k1 A (mem_of_getElem? m);refine⟨d.1,d.2,λb y B x=> ?_,h.bg a.2⟩;obtain⟨j,r,u⟩:=BL x;exact k2 i j A B (λe=>a.1 (e ▸ r)) m u b y
  ·exact h.bg a.2
theorem Sat.bg(n:Nat)(is:List Nat)(hn:decide is.Nodup=true)(h:Sat K w H):Sat K w (Qi (H.take n) is++H.drop n):=by
 refine⟨h.1, ?_⟩;have x:bO w (H.take n++H.drop n):=by rw[take_append_drop];exact h.2
 obtain⟨d,j,m⟩:=bO.append.1 x;refine bO.append.2 ⟨d.bg (of_decide_eq_true hn),j,λb ⟨A,l,u⟩ B r=>m b ⟨A, ?_,u⟩ B r⟩;obtain⟨i,_,a⟩:=BL l;exact mem_of_getElem? a
theorem WL.adV{κ:Type}[DecidableEq κ]{enc:κ→Value}{T T' et:Nat}{k:κ}{f:κ→Option Value}(hT:P.underlying T=some (.map kt et))(L:CU P kt enc)(hx:OV true e x (.map (some b)))(hy:OV true e y (enc k))
 (h:WL Mo P K n ops rest Q e (gD b enc (FT f k none)::H)):WL Mo P K n ops (⟨none,.call ⟨.builtin .delete,#[x,y],#[T,T']⟩,ty,pos,af,none⟩::rest) Q e (gD b enc f::H):=by
 refine WL.aeo (R:=λG=>G=gD b enc (FT f k none)::H) (λa w I B=> ?_) (λG N=>by subst N;exact h);obtain⟨l,ck,d,m,u⟩:=B.head;have F:=L.findKey k l w;have Km:=hx.ev Z I;have Qt:=hy.ev Z I;have Y3:∀C,(Builtin.delete_ #[T,T'] ty #[.map (some b),enc k]).run P w= .ok (.tuple #[]) C→(execOp a.eval ⟨none,.call ⟨.builtin .delete,#[x,y],#[T,T']⟩,ty,pos,af,none⟩).run P w= .ok (.value (.tuple #[])) C:=λC M=>by
  rw[execOp_builtin,builtin_delete];simp[Km,Qt,M]
 cases hf:findAt k l 0 with
 | none =>
  have uN:=Bq hf;refine⟨_,_,.inr ⟨_,Y3 _ ?_⟩,B.DT (l:=l) (ck:=ck) (g:=FT f k none) m ?_,Z⟩
  ·simp only[Builtin.delete_,getElem?_toArray,getElem?_cons_zero,getElem?_cons_succ,Sem.run_bind,run_underlying hT,Result.andThen_ok,MapKept.run_getObj_map d,L.check,F,hf];rw[MapKept.run_setObj_map _ d];simp
  ·intro D;rw[u];unfold FT;by_cases J:D=k
   ·subst J;rw[if_pos Z,←u];unfold looks;rw[hf];rfl
   ·rw[if_neg J]
 | some p =>
  obtain⟨j,O⟩:=p;obtain⟨q,rfl,S,r⟩:=sD hf;simp only[Nat.zero_add] at hf;refine⟨_,_,.inr ⟨_,Y3 _ ?_⟩,B.DT (l:=l.eraseIdx q) (ck:=ck) (g:=FT f k none) ?_ ?_,Z⟩
  ·simp only[Builtin.delete_,getElem?_toArray,getElem?_cons_zero,getElem?_cons_succ,Sem.run_bind,run_underlying hT,Result.andThen_ok,MapKept.run_getObj_map d,L.check,F,hf];rw[MapKept.run_setObj_map _ d];have :(l.map (yS enc)).toArray.eraseIdxIfInBounds q=((l.eraseIdx q).map (yS enc)).toArray:=by
    have o7:q<l.length:=by
     rcases Nat.lt_or_ge q l.length with h | h
     ·exact h
     ·rw[getElem?_eq_none h] at r;cases r
    simp[Array.eraseIdxIfInBounds,o7];apply ext_getElem?;intro i;simp only[getElem?_eraseIdx,getElem?_map];split<;>rfl
   simp[this]
  ·exact Nodup.sublist ((eraseIdx_sublist _ _).map _) m
  ·intro D;rw[yu r m,u];rfl
theorem WL.Ck{κ:Type}[DecidableEq κ]{enc:κ→Value}{T T' et:Nat}{k:κ}{f:κ→Option Value}(hT:P.underlying T=some (.map kt et))(L:CU P kt enc)(hx:OV true e x (.map (some b)))(hy:OV true e y (enc k))
 (hR:p8 (gD b enc f) (gD b enc (FT f k none)) H H') (h:WL Mo P K n ops rest Q e H'):WL Mo P K n ops (⟨none,.call ⟨.builtin .delete,#[x,y],#[T,T']⟩,ty,pos,af,none⟩::rest) Q e H :=
 WL.U9 hR (λR h=>WL.adV hT L hx hy h) h
theorem GX(k:IntKind)(m:Nat)(x:Int):ints k (replicate m x)=replicate m (.int k x):=by simp[ints]
theorem ints_set(k:IntKind)(xs:List Int)(i:Nat)(x:Int):(ints k xs).set i (.int k x)=ints k (xs.set i x):=by simp[ints,map_set]
theorem GR{x:Int}(h:i<m):(replicate i x++replicate (m-i) y).set i x=replicate (i+1) x++replicate (m-(i+1)) y:=by
 apply ext_getElem?;intro j;simp only[getElem?_set,getElem?_append,length_replicate,length_append,getElem?_replicate];by_cases a:i=j
 ·subst a;simp;omega
 ·by_cases b:j<i
  ·simp[a,b,show j<i+1 by omega]
  ·simp[a,b,show ¬j<i+1 by omega,show j-i<m-i↔j-(i+1)<m-(i+1) by omega]
theorem zK{A:Option Addr}:(if u=0 then A else A.map (·.add (0*s)))=A:=by
 split
 ·rfl
 ·cases A with
  | none=>rfl
  | some a=>simp[Addr.add]
theorem Seq.take(hs:Seq K H A m 1 vs)(hh:h≤m):Seq K H A h 1 (vs.take h):=by
 have b:=hs.len;refine⟨by rw[length_take];omega,λi v a=>hs.rd i v ?_⟩;rw[getElem?_take] at a;split at a
 ·exact a
 ·cases a
theorem LY(k:IntKind)(xs:List Int)(n:Nat):(ints k xs).take n=ints k (xs.take n):=by simp[ints]
theorem K7(k:IntKind)(xs:List Int)(n:Nat):(ints k xs).drop n=ints k (xs.drop n):=by simp[ints]
theorem bF.take(h:bF xs)(n:Nat):bF (xs.take n):=λx a=>h x (mem_of_mem_take a)
theorem bF.append(h:bF xs)(h':bF ys):bF (xs++ys):=λx a=>(mem_append.1 a).elim (h x) (h' x)
theorem bF.wJ(h:0≤x∧x<256):bF (replicate n x):=λy a=>by rw[eq_of_mem_replicate a];exact h
theorem bF.drop(h:bF xs)(n:Nat):bF (xs.drop n):=λx a=>h x (mem_of_mem_drop a)
theorem aB.lG{p:Prop}(hp:∀w,Sat K w F→p)(h:p→aB P f args K F post):aB P f args K F post:=λw a=>h (hp w a) w a
theorem Seq.Rb(hs:Seq K F none m s vs)(hw:Sat K w F):vs=[]:=by
 cases vs with
 | nil=>rfl
 | cons v vs=>obtain⟨a,h,_⟩:=hs.rd 0 v Z w hw;cases h
theorem bO.perm(h:l.Perm l'):bO w l→bO w l':=by
 induction h with
 | nil=>exact id
 | cons x h ih=>exact λa=>a.vk ih (λB b=>h.mem_iff.2 b)
 | swap x y l=>exact λa=>a.swap
 | trans _ _ h1 h2=>exact λa=>h2 (h1 a)
theorem bO.aa3(h:l.Perm l'):bO w (l++H)→bO w (l'++H):=bO.perm (h.append_right H)
theorem aal{α β:Type}{f:α→β}{l:List β}:∀ {m:List β},m.Perm l→∀ {dn:List α},dn.map f=m→∃dn',dn.Perm dn'∧dn'.map f=l:=by
 intro m h
 induction h with
 | nil=>intro dn hd;exact⟨dn,.refl _,hd⟩
 | cons x h ih =>
  intro dn hd;cases dn with
  | nil=>cases hd
  | cons a dn =>
   simp only[map_cons,List.cons.injEq] at hd;obtain⟨dn',d,j⟩:=ih hd.2;exact⟨a::dn',d.cons a,by simp[hd.1,j]⟩
 | swap x y l =>
  intro dn hd
  match dn,hd with
  | a::b::dn,hd =>
   simp only[map_cons,List.cons.injEq] at hd;exact⟨b::a::dn,.swap b a dn,by simp[hd]⟩
 | trans _ _ d j =>
  intro dn hd;obtain⟨F,B,C⟩:=d hd;obtain⟨r,D,u⟩:=j C;exact⟨r,B.trans D,u⟩
structure Xo where
 i:Nat
 d:Nat
 v:Nat→Value
 A:Nat→aH
def GU(ops:Array Oper)(UJ:Array Bool):Nat→Array Bool→List Nat→Bool
 | 0,L,R=>R.isEmpty&&(L==UJ)
 | k+1,L,R=>(Region.ready .any ops L==R)&& !R.isEmpty&&(List.range R.length).all λj=>GU ops UJ k (L.setIfInBounds (R.getD j 0) true) (R.eraseIdx j)
theorem WA.aey(es:List Xo)(vZ:(es.map (·.d)).Nodup)(h0:∀x∈es,look e0 x.d=none)
 (Wp:∀x∈es,∃o,ops[x.i]? =some o∧∀e' H' Q',Sub e0 e'→(∀b,WL ⟨none,ds⟩ P K n ops [] Q' ((x.d,x.v b)::e') (x.A b::H'))→WL ⟨none,ds⟩ P K n ops [o] Q' e' H') (fuel:Nat)
 (hF:∀w,Sat K w H→Sat K w F0)
 (h:∀bs:List Nat,bs.length=es.length→WA ⟨none,ds⟩ P K n F0 ops Q fuel UJ ((es.zip bs).map (λp=>(p.1.d,p.1.v p.2))++e0) ((es.zip bs).map (λp=>p.1.A p.2)++H)) :
 ∀ (k:Nat) (rem:List Xo) (dn:List (Xo×Nat)) (listed:Array Bool) (e':Env),rem.length=k→(rem++dn.map (·.1)).Perm es→GU ops UJ k listed (rem.map (·.i))=true→Sub e0 e' →
  (∀p∈dn,look e' p.1.d=some (p.1.v p.2))→WA ⟨none,ds⟩ P K n F0 ops Q (k+fuel) listed e' (dn.map (λp=>p.1.A p.2)++H):=by
 intro k
 induction k with
 | zero =>
  intro rem dn listed e' L C y B hd;obtain rfl:rem=[]:=eq_nil_of_length_eq_zero L;simp only[GU,Bool.and_eq_true,beq_iff_eq] at y;obtain⟨_,rfl⟩:=y;obtain⟨m,G,F⟩:=aal (f:=λp:Xo×Nat=>p.1) (show (dn.map (·.1)).Perm es from C) (dn:=dn) Z;have W:es.zip (m.map (·.2))=m:=by
   rw[←F];clear G F h0 Wp h
   induction m with
   | nil=>rfl
   | cons a l ih=>simp[ih]
  have J:=h (m.map (·.2)) (by rw[←F];simp);rw[W] at J;rw[Nat.zero_add];intro a w O u;refine J a w (O.sub ?_) ?_
  ·intro t v d;have BG:∀(l:List (Xo×Nat)),(∀p∈l,p∈dn)→look (l.map (λp=>(p.1.d,p.1.v p.2))++e0) t=some v→look e' t=some v:=by
    intro l;clear d
    induction l with
    | nil=>intro _ h;exact B t v h
    | cons p l ih =>
     intro M d;simp only[map_cons,cons_append,look] at d;cases hk:beq p.1.d t with
     | true =>
      simp only[hk,cond_true] at d;obtain rfl:=eq_of_beq_eq_true hk;rw[hd p (M p (.head _)),d]
     | false =>
      simp only[hk,cond_false] at d;exact ih (λq U=>M q (.tail _ U)) d
   exact BG m (λp BA=>G.mem_iff.2 BA) d
  ·exact⟨u.1,bO.aa3 (G.map _) u.2⟩
 | succ k ih =>
  intro rem dn listed e' L C y B hd;simp only[GU,Bool.and_eq_true,beq_iff_eq,all_eq_true,mem_range] at y;obtain⟨⟨T,pq⟩,nT⟩:=y;rw[show k+1+fuel=(k+fuel)+1 by omega];have I:∀w,Sat K w (dn.map (λp=>p.1.A p.2)++H)→Sat K w F0:=λw u=>hF w ⟨u.1,(bO.append.1 u.2).2.1⟩;refine WA.step I T (by cases h:(rem.map (·.i)).isEmpty<;>simp_all) λi V=> ?_;obtain⟨j,r⟩:=getElem?_of_mem V;rw[getElem?_map] at r;cases hx:rem[j]? with
  | none=>rw[hx] at r;cases r
  | some x =>
   rw[hx] at r;simp only[Option.map_some,Option.some.injEq] at r;subst r;have BF:j<rem.length:=by
    rcases Nat.lt_or_ge j rem.length with h | h
    ·exact h
    ·rw[getElem?_eq_none h] at hx;cases hx
   have Dx:x∈es:=C.mem_iff.1 (mem_append_left _ (mem_of_getElem? hx));obtain⟨o,R,aoF⟩:=Wp x Dx;refine⟨o,R,aoF e' _ _ B λb=>WL.nil ?_⟩;have ahZ:(x::rem.eraseIdx j).Perm rem:=by
    have D:rem=rem.take j++x::rem.drop (j+1):=by
     conv=>lhs;rw[←take_append_drop j rem]
     congr 1;rw[drop_eq_getElem_cons BF];congr 1;rw[getElem?_eq_getElem BF] at hx;exact Option.some.inj hx
    rw[eraseIdx_eq_take_drop_succ]
    conv=>rhs;rw[D]
    exact perm_middle.symm
   have RV:(rem.eraseIdx j++((x,b)::dn).map (·.1)).Perm es:=by
    refine Perm.trans ?_ C;simp only[map_cons];refine Perm.trans perm_middle ?_;exact ahZ.append_right (dn.map (·.1))
   have abR:((rem.eraseIdx j++((x,b)::dn).map (·.1)).map (·.d)).Nodup:=((RV.map _).nodup_iff).2 vZ;refine ih (rem.eraseIdx j) ((x,b)::dn) _ _ ?_ RV ?_ ?_ ?_
   ·rw[length_eraseIdx,if_pos BF];omega
   ·have :=nT j (by rw[length_map];exact BF);have D:(rem.map (·.i)).getD j 0=x.i:=by rw[getD,getElem?_map,hx];rfl
    have N:(rem.map (·.i)).eraseIdx j=(rem.eraseIdx j).map (·.i):=by
     apply ext_getElem?;intro q;simp only[getElem?_eraseIdx,getElem?_map];split<;>rfl
    rw[D,N] at this;exact this
   ·intro t v d;have ahB:x.d≠t:=λe=>by rw[←e,h0 x Dx] at d;cases d
    simp only[look];have :beq x.d t=false:=by
     cases hb:beq x.d t
     ·rfl
     ·exact absurd (eq_of_beq_eq_true hb) ahB
    rw[this];exact B t v d
   ·intro p BA;rcases mem_cons.1 BA with rfl | BA
    ·simp[look]
    ·have ahB:x.d≠p.1.d:=by
      rw[map_append,map_cons,map_cons] at abR;have S:=(nodup_append.1 abR).2.1;intro e;exact (nodup_cons.1 S).1 (e ▸ mem_map.2 ⟨p.1,mem_map.2 ⟨p,BA,Z⟩,Z⟩)
     simp only[look];have :beq x.d p.1.d=false:=by
      cases hb:beq x.d p.1.d
      ·rfl
      ·exact absurd (eq_of_beq_eq_true hb) ahB
     rw[this];exact hd p BA
theorem WA.par(es:List Xo)(listed:Array Bool)(hm:es.length+fuel=m)(vZ:decide (es.map (·.d)).Nodup=true)(h0:es.all (λx=>(look e0 x.d).isNone)=true)(hE:Sub e0 e)(hc:GU ops UJ es.length listed (es.map (·.i))=true)
 (Wp:∀x∈es,∃o,ops[x.i]? =some o∧∀e' H' Q',Sub e0 e'→(∀b,WL ⟨none,ds⟩ P K n ops [] Q' ((x.d,x.v b)::e') (x.A b::H'))→WL ⟨none,ds⟩ P K n ops [o] Q' e' H')
 (hF:∀w,Sat K w H→Sat K w F0)
 (h:∀bs:List Nat,bs.length=es.length→WA ⟨none,ds⟩ P K n F0 ops Q fuel UJ ((es.zip bs).map (λp=>(p.1.d,p.1.v p.2))++e0) ((es.zip bs).map (λp=>p.1.A p.2)++H)) :
 WA ⟨none,ds⟩ P K n F0 ops Q m listed e H:=by
 subst hm;exact WA.aey es (of_decide_eq_true vZ) (λx a=>by simpa using all_eq_true.1 h0 x a) Wp fuel hF h es.length es [] listed e Z (by simp) hc hE (λp d=>by cases d)
theorem YO(hT:P.underlying t=some (.slice E)):(Op.equalIn (9999+1) t (.slice A m cap) (.slice none 0 0)).run P w= .ok A.isNone w:=by
 rw[Op.equalIn];cases A<;>simp[run_underlying hT]
theorem V.abq{cap:Nat}(hT:P.underlying t=some (.slice E))(hx:OV c e x (.slice A m cap)) :
 eX Mo P K n c e H ⟨dst,.binOp .eql t x (.const (.slice none 0 0)) t',ty,pos,af,gd⟩ (.bool A.isNone):=λh a w b _=>by
 have d:binOp .eql t (.slice A m cap) (.slice none 0 0)=((Op.equalIn (9999+1) t (.slice A m cap) (.slice none 0 0) >>= λr=>pure (Value.bool r)):Sem Value):=rfl;refine rX (y:= .const (.slice none 0 0)) (v:= .slice none 0 0) (hx.ev h b) Z (by simp[eqGuard]) ?_;rw[d,Sem.run_bind,YO hT];rfl
end Go.Sl
namespace Go.Proofs.YtcedojacbhnbiaaGreat
open Go.Sl Tryz List Nat
theorem afb:tC prog 256 64 5 1:=⟨runUnderlying256,sizeOf5⟩
theorem Di:tC prog 309 8 306 1:=⟨runUnderlying309,sizeOf306⟩
theorem nK:tC prog 318 4 306 1:=⟨runUnderlying318,sizeOf306⟩
theorem afq:tC prog 348 64 339 1:=⟨runUnderlying348,sizeOf339⟩
theorem EL:tC prog 349 8 339 1:=⟨runUnderlying349,sizeOf339⟩
theorem zJ:tC prog 97 32 5 1:=⟨runUnderlying97,sizeOf5⟩
theorem Mj:jC prog 140 2 2:=λ_ _=>by kernel_rfl
theorem Vv:jC prog 237 0 0:=λ_ _=>by kernel_rfl
theorem ach:jC prog 37 0 0:=λ_ _=>by kernel_rfl
theorem ahu:jC prog 37 2 2:=λ_ _=>by kernel_rfl
theorem abW:jC prog 99 1 1:=λ_ _=>by kernel_rfl
theorem Uq:jC prog 99 2 33:=λ_ _=>by kernel_rfl
theorem apu:fq prog 101 105 2:=⟨runUnderlying101,sizeOf105⟩
theorem eB:fq prog 124 3 1:=⟨runUnderlying124,sizeOf3⟩
theorem zX:fq prog 170 237 5:=⟨runUnderlying170,sizeOf237⟩
theorem alZ:fq prog 183 190 2:=⟨runUnderlying183,sizeOf190⟩
theorem aj0:fq prog 206 132 1:=⟨runUnderlying206,sizeOf132⟩
theorem TH:fq prog 24 99 34:=⟨runUnderlying24,sizeOf99⟩
theorem abj:fq prog 25 9 1:=⟨runUnderlying25,sizeOf9⟩
theorem z8:fq prog 329 306 1:=⟨runUnderlying329,sizeOf306⟩
theorem Ls:fq prog 330 306 1:=⟨runUnderlying330,sizeOf306⟩
theorem akG:fq prog 333 219 64:=⟨runUnderlying333,sizeOf219⟩
theorem dO:fq prog 34 5 1:=⟨runUnderlying34,sizeOf5⟩
theorem akq:fq prog 40 140 34:=⟨runUnderlying40,sizeOf140⟩
theorem adb:fq prog 47 34 1:=⟨runUnderlying47,sizeOf34⟩
theorem aeh:fq prog 79 4 1:=⟨runUnderlying79,sizeOf4⟩
theorem Me:dH prog 3 1 8 (.i 0):=dH.mk (i:=Tryz.t3) (by kernel_rfl) Z Z Z Z Z
theorem el4:dH prog 4 1 1 (.bool false):=dH.mk (i:=Tryz.t4) (by kernel_rfl) Z Z Z Z Z
theorem yL:dH prog 5 1 1 (.int .u8 0):=dH.mk (i:=Tryz.t5) (by kernel_rfl) Z Z Z Z Z
theorem el9:dH prog 9 1 16 (.string .empty):=dH.mk (i:=Tryz.t9) (by kernel_rfl) Z Z Z Z Z
theorem aiF:dH prog 34 1 24 (.slice none 0 0):=dH.mk (i:=Tryz.t34) (by kernel_rfl) Z Z Z Z Z
theorem ace:dH prog 118 2 32 (.agg #[(.i 0),(.slice none 0 0)]):=dH.mk (i:=Tryz.t118) (by kernel_rfl) Z Z Z Z Z
theorem akd:dH prog 124 1 24 (.slice none 0 0):=dH.mk (i:=Tryz.t124) (by kernel_rfl) Z Z Z Z Z
theorem aj1:dH prog 140 34 48 (.agg #[(.i 0),(.i 0),ζ,ζ,ζ,ζ,ζ,ζ,ζ,ζ,ζ,ζ,ζ,ζ,ζ,ζ,ζ,ζ,ζ,ζ,ζ,ζ,ζ,ζ,ζ,ζ,ζ,ζ,ζ,ζ,ζ,ζ,ζ,ζ]):=dH.mk (i:=Tryz.t140) (by kernel_rfl) Z Z Z Z Z
theorem akR:dH prog 170 1 24 (.slice none 0 0):=dH.mk (i:=Tryz.t170) (by kernel_rfl) Z Z Z Z Z
theorem aql:dH prog 190 2 32 (.agg #[(.i 0),(.slice none 0 0)]):=dH.mk (i:=Tryz.t190) (by kernel_rfl) Z Z Z Z Z
theorem aa6:dH prog 237 5 40 (.agg #[(.i 0),(.i 0),(.i 0),(.i 0),(.bool false)]):=dH.mk (i:=Tryz.t237) (by kernel_rfl) Z Z Z Z Z
theorem ajG:dH prog 296 3 40 (.agg #[(.slice none 0 0),(.i 0),(.i 0)]):=dH.mk (i:=Tryz.t296) (by kernel_rfl) Z Z Z Z Z
theorem Vn:dH prog 306 1 8 (.int .u64 0):=dH.mk (i:=Tryz.t306) (by kernel_rfl) Z Z Z Z Z
theorem FU(x0 x1 x2 x3 x4:Int)(w:World):(Instr.build 23 [(0,.i x0),(1,.i x1),(2,.i x2),(3,.i x3),(4,.i x4)].toArray).run prog w= .ok (.agg #[.i x0,.i x1,.i x2,.i x3,.i x4]) w:=by kernel_rfl
theorem WX(x1 x2:Int)(w:World):(Instr.build 37 [(1,.i x1),(2,.i x2)].toArray).run prog w= .ok (.agg #[(.i 0),.i x1,.i x2,(.slice none 0 0),(.i 0)]) w:=by kernel_rfl
theorem rZ(x4:Int)(w:World):(Instr.build 37 [(4,.i x4)].toArray).run prog w= .ok (.agg #[(.i 0),(.i 0),(.i 0),(.slice none 0 0),.i x4]) w:=by kernel_rfl
theorem air(x2:Int)(x4a:Option Addr)(x4m x4c:Nat)(w:World):(Instr.build 42 [(2,.i x2),(4,.slice x4a x4m x4c)].toArray).run prog w= .ok (.agg #[(.i 0),(.i 0),.i x2,(.i 0),.slice x4a x4m x4c]) w:=by kernel_rfl
theorem ah5(x0:Int)(w:World):(Instr.build 55 [(0,.i x0)].toArray).run prog w= .ok (.agg #[.i x0,(.bool false)]) w:=by kernel_rfl
theorem qj(x0:Int)(x1:Bool)(w:World):(Instr.build 55 [(0,.i x0),(1,.bool x1)].toArray).run prog w= .ok (.agg #[.i x0,.bool x1]) w:=by kernel_rfl
theorem Xg(x00 x01 Qp Pw:Value)(w:World):(Instr.build 56 [(0,.agg #[x00,x01]),(1,.agg #[Qp,Pw])].toArray).run prog w= .ok (.agg #[x00,x01,Qp,Pw]) w:=by kernel_rfl
theorem Xw(x0:Int)(Qp Pw Vm x13:Value)(w:World):(Instr.build 58 [(0,.i x0),(1,.agg #[Qp,Pw,Vm,x13])].toArray).run prog w= .ok (.agg #[.i x0,Qp,Pw,Vm,x13]) w:=by kernel_rfl
theorem LV(VN:Option Addr)(Vr VQ:Nat)(Vs:Option Addr)(VE VT:Nat)(w:World):(Instr.build 81 [(0,.slice VN Vr VQ),(1,.slice Vs VE VT)].toArray).run prog w= .ok (.agg #[.slice VN Vr VQ,.slice Vs VE VT]) w:=by kernel_rfl
theorem PV(w:World):(Instr.build 97 [].toArray).run prog w= .ok (.agg #[ζ,ζ,ζ,ζ,ζ,ζ,ζ,ζ,ζ,ζ,ζ,ζ,ζ,ζ,ζ,ζ,ζ,ζ,ζ,ζ,ζ,ζ,ζ,ζ,ζ,ζ,ζ,ζ,ζ,ζ,ζ,ζ]) w:=by kernel_rfl
theorem Rq(x0 x1 x2:Int)(w:World):(Instr.build 97 [(0,.int .u8 x0),(1,.int .u8 x1),(2,.int .u8 x2)].toArray).run prog w= .ok (.agg #[.int .u8 x0,.int .u8 x1,.int .u8 x2,ζ,ζ,ζ,ζ,ζ,ζ,ζ,ζ,ζ,ζ,ζ,ζ,ζ,ζ,ζ,ζ,ζ,ζ,ζ,ζ,ζ,ζ,ζ,ζ,ζ,ζ,ζ,ζ,ζ]) w:=by kernel_rfl
theorem iQ(x0 x1 x2 x3 x4 x5 x6 x7 x8 x9 Qp Pw Vm x13 x14 x15 x31:Int)(w:World):(Instr.build 97 [(0,.int .u8 x0),(1,.int .u8 x1),(2,.int .u8 x2),(3,.int .u8 x3),(4,.int .u8 x4),(5,.int .u8 x5),(6,.int .u8 x6),(7,.int .u8 x7),(8,.int .u8 x8),(9,.int .u8 x9),(10,.int .u8 Qp),(11,.int .u8 Pw),(12,.int .u8 Vm),(13,.int .u8 x13),(14,.int .u8 x14),(15,.int .u8 x15),(31,.int .u8 x31)].toArray).run prog w= .ok (.agg #[.int .u8 x0,.int .u8 x1,.int .u8 x2,.int .u8 x3,.int .u8 x4,.int .u8 x5,.int .u8 x6,.int .u8 x7,.int .u8 x8,.int .u8 x9,.int .u8 Qp,.int .u8 Pw,.int .u8 Vm,.int .u8 x13,.int .u8 x14,.int .u8 x15,ζ,ζ,ζ,ζ,ζ,ζ,ζ,ζ,ζ,ζ,ζ,ζ,ζ,ζ,ζ,.int .u8 x31]) w:=by kernel_rfl
theorem aiv(x0:Int)(Qp Pw Vm x13 x14 x15 x16 x17 x18 x19 apn aqi x112 x113 x114 x115 apH apx apT apl ap3 aqf apK apF apr apQ apO aqn apt apG ap2 apD:Value)(w:World):(Instr.build 99 [(0,.i x0),(1,.agg #[Qp,Pw,Vm,x13,x14,x15,x16,x17,x18,x19,apn,aqi,x112,x113,x114,x115,apH,apx,apT,apl,ap3,aqf,apK,apF,apr,apQ,apO,aqn,apt,apG,ap2,apD])].toArray).run prog w= .ok (.agg #[.i x0,Qp,Pw,Vm,x13,x14,x15,x16,x17,x18,x19,apn,aqi,x112,x113,x114,x115,apH,apx,apT,apl,ap3,aqf,apK,apF,apr,apQ,apO,aqn,apt,apG,ap2,apD,(.bool false)]) w:=by kernel_rfl
theorem Iu(x0:Int)(Vs:Option Addr)(VE VT:Nat)(w:World):(Instr.build 118 [(0,.i x0),(1,.slice Vs VE VT)].toArray).run prog w= .ok (.agg #[.i x0,.slice Vs VE VT]) w:=by kernel_rfl
theorem Uo(x0 x1:Int)(w:World):(Instr.build 122 [(0,.i x0),(1,.i x1)].toArray).run prog w= .ok (.agg #[.i x0,.i x1]) w:=by kernel_rfl
theorem Tp(x0:Option Addr)(Qp Pw Vm x13 x14:Value)(w:World):(Instr.build 127 [(0,.pointer x0),(1,.agg #[Qp,Pw,Vm,x13,x14])].toArray).run prog w= .ok (.agg #[.pointer x0,Qp,Pw,Vm,x13,x14,(.slice none 0 0),(.slice none 0 0),(.i 0),(.i 0),(.bool false)]) w:=by kernel_rfl
theorem ac2(x0 x1:Int)(w:World):(Instr.build 140 [(0,.i x0),(1,.i x1)].toArray).run prog w= .ok (.agg #[.i x0,.i x1,ζ,ζ,ζ,ζ,ζ,ζ,ζ,ζ,ζ,ζ,ζ,ζ,ζ,ζ,ζ,ζ,ζ,ζ,ζ,ζ,ζ,ζ,ζ,ζ,ζ,ζ,ζ,ζ,ζ,ζ,ζ,ζ]) w:=by kernel_rfl
theorem u7(x0 x1 x2:Int)(w:World):(Instr.build 157 [(0,.i x0),(1,.i x1),(2,.i x2)].toArray).run prog w= .ok (.agg #[.i x0,.i x1,.i x2]) w:=by kernel_rfl
theorem vG(x00 x01 x02 x03 x04:Value)(x1:Int)(x2 x3:Option Nat)(x4a:Option Addr)(x4m x4c:Nat)(x5 x6:Option Nat)(x8:Bool)(w:World):(Instr.build 165 [(0,.agg #[x00,x01,x02,x03,x04]),(1,.i x1),(2,.map x2),(3,.map x3),(4,.slice x4a x4m x4c),(5,.map x5),(6,.map x6),(8,.bool x8)].toArray).run prog w= .ok (.agg #[x00,x01,x02,x03,x04,.i x1,.map x2,.map x3,.slice x4a x4m x4c,.map x5,.map x6,(.i 0),.bool x8,(.i 0),(.i 0)]) w:=by kernel_rfl
theorem Sj(x0:Option Addr)(Qp Pw Vm x13 x14:Value)(w:World):(Instr.build 169 [(0,.pointer x0),(1,.agg #[Qp,Pw,Vm,x13,x14])].toArray).run prog w= .ok (.agg #[.pointer x0,Qp,Pw,Vm,x13,x14]) w:=by kernel_rfl
theorem ac1(x0:Int)(Vs:Option Addr)(VE VT:Nat)(w:World):(Instr.build 190 [(0,.i x0),(1,.slice Vs VE VT)].toArray).run prog w= .ok (.agg #[.i x0,.slice Vs VE VT]) w:=by kernel_rfl
theorem aby(VN:Option Addr)(Vr VQ:Nat)(w:World):(Instr.build 212 [(0,.slice VN Vr VQ)].toArray).run prog w= .ok (.agg #[.slice VN Vr VQ]) w:=by kernel_rfl
theorem NW(x0:Int)(Qp Pw Vm:Value)(x2:Bool)(w:World):(Instr.build 237 [(0,.i x0),(1,.agg #[Qp,Pw,Vm]),(2,.bool x2)].toArray).run prog w= .ok (.agg #[.i x0,Qp,Pw,Vm,.bool x2]) w:=by kernel_rfl
theorem iT(x0 x1:Int)(w:World):(Instr.build 292 [(0,.i x0),(1,.i x1)].toArray).run prog w= .ok (.agg #[.i x0,.i x1]) w:=by kernel_rfl
theorem vP(x0 x1 x2 x3 x4 x5 x6 x7:Int)(w:World):(Instr.build 309 [(0,.int .u64 x0),(1,.int .u64 x1),(2,.int .u64 x2),(3,.int .u64 x3),(4,.int .u64 x4),(5,.int .u64 x5),(6,.int .u64 x6),(7,.int .u64 x7)].toArray).run prog w= .ok (.agg #[.int .u64 x0,.int .u64 x1,.int .u64 x2,.int .u64 x3,.int .u64 x4,.int .u64 x5,.int .u64 x6,.int .u64 x7]) w:=by kernel_rfl
theorem aap(w:World):(Instr.build 318 [].toArray).run prog w= .ok (.agg #[θ,θ,θ,θ]) w:=by kernel_rfl
theorem IE(x0:Int)(w:World):(Instr.build 318 [(0,.int .u64 x0)].toArray).run prog w= .ok (.agg #[.int .u64 x0,(.int .u64 0),(.int .u64 0),(.int .u64 0)]) w:=by kernel_rfl
theorem II(x0 x1 x2 x3:Int)(w:World):(Instr.build 318 [(0,.int .u64 x0),(1,.int .u64 x1),(2,.int .u64 x2),(3,.int .u64 x3)].toArray).run prog w= .ok (.agg #[.int .u64 x0,.int .u64 x1,.int .u64 x2,.int .u64 x3]) w:=by kernel_rfl
theorem uS(x0 x1 x2 x3 x4 x5 x6 x7:Int)(w:World):(Instr.build 349 [(0,.int .u32 x0),(1,.int .u32 x1),(2,.int .u32 x2),(3,.int .u32 x3),(4,.int .u32 x4),(5,.int .u32 x5),(6,.int .u32 x6),(7,.int .u32 x7)].toArray).run prog w= .ok (.agg #[.int .u32 x0,.int .u32 x1,.int .u32 x2,.int .u32 x3,.int .u32 x4,.int .u32 x5,.int .u32 x6,.int .u32 x7]) w:=by kernel_rfl
theorem MH(x0:Int)(Vs:Option Addr)(VE VT:Nat)(x2a:Option Addr)(x2m x2c:Nat)(w:World):(Instr.build 370 [(0,.i x0),(1,.slice Vs VE VT),(2,.slice x2a x2m x2c)].toArray).run prog w= .ok (.agg #[.i x0,.slice Vs VE VT,.slice x2a x2m x2c]) w:=by kernel_rfl
theorem aiw(x00 x01 x02 x03 x04 x05 x06 x07 x08 x09 ajq aj9 akv ajY ajw aj3 akI akn aj6 ajx aky ajv ajs aiT ai3 aiX ajt aiL aj4 ajH ajW ai7 akQ aiJ:Value)(w:World):(Instr.buildSlice 24 1 [(0,.agg #[x00,x01,x02,x03,x04,x05,x06,x07,x08,x09,ajq,aj9,akv,ajY,ajw,aj3,akI,akn,aj6,ajx,aky,ajv,ajs,aiT,ai3,aiX,ajt,aiL,aj4,ajH,ajW,ai7,akQ,aiJ])].toArray).run prog w= .ok (.slice (some ⟨w.heap.size,0,none⟩) 1 1) (w.alloc (.cells [x00,x01,x02,x03,x04,x05,x06,x07,x08,x09,ajq,aj9,akv,ajY,ajw,aj3,akI,akn,aj6,ajx,aky,ajv,ajs,aiT,ai3,aiX,ajt,aiL,aj4,ajH,ajW,ai7,akQ,aiJ].toArray 99)):=by kernel_rfl
theorem adt(w:World):(Instr.buildSlice 34 0 [].toArray).run prog w= .ok (.slice (some ⟨w.heap.size,0,none⟩) 0 0) (w.alloc (.cells [].toArray 5)):=by kernel_rfl
theorem jc(x0:Int)(w:World):(Instr.buildSlice 34 1 [(0,.int .u8 x0)].toArray).run prog w= .ok (.slice (some ⟨w.heap.size,0,none⟩) 1 1) (w.alloc (.cells [.int .u8 x0].toArray 5)):=by kernel_rfl
theorem mG(x0 x1:Int)(w:World):(Instr.buildSlice 34 2 [(0,.int .u8 x0),(1,.int .u8 x1)].toArray).run prog w= .ok (.slice (some ⟨w.heap.size,0,none⟩) 2 2) (w.alloc (.cells [.int .u8 x0,.int .u8 x1].toArray 5)):=by kernel_rfl
theorem acZ(x0 x1 x2:Int)(w:World):(Instr.buildSlice 34 3 [(0,.int .u8 x0),(1,.int .u8 x1),(2,.int .u8 x2)].toArray).run prog w= .ok (.slice (some ⟨w.heap.size,0,none⟩) 3 3) (w.alloc (.cells [.int .u8 x0,.int .u8 x1,.int .u8 x2].toArray 5)):=by kernel_rfl
theorem fJ(x0 x1 x2 x3:Int)(w:World):(Instr.buildSlice 34 4 [(0,.int .u8 x0),(1,.int .u8 x1),(2,.int .u8 x2),(3,.int .u8 x3)].toArray).run prog w= .ok (.slice (some ⟨w.heap.size,0,none⟩) 4 4) (w.alloc (.cells [.int .u8 x0,.int .u8 x1,.int .u8 x2,.int .u8 x3].toArray 5)):=by kernel_rfl
theorem El(x00 x01:Value)(w:World):(Instr.buildSlice 35 1 [(0,.agg #[x00,x01])].toArray).run prog w= .ok (.slice (some ⟨w.heap.size,0,none⟩) 1 1) (w.alloc (.cells [x00,x01].toArray 118)):=by kernel_rfl
theorem alE(w:World):(Instr.buildSlice 40 0 [].toArray).run prog w= .ok (.slice (some ⟨w.heap.size,0,none⟩) 0 0) (w.alloc (.cells [].toArray 140)):=by kernel_rfl
theorem X5(x00 x01 x02 x03 x04 x05 x06 x07 x08 x09 ajq aj9 akv ajY ajw aj3 akI akn aj6 ajx aky ajv ajs aiT ai3 aiX ajt aiL aj4 ajH ajW ai7 akQ aiJ:Value)(w:World):(Instr.buildSlice 40 1 [(0,.agg #[x00,x01,x02,x03,x04,x05,x06,x07,x08,x09,ajq,aj9,akv,ajY,ajw,aj3,akI,akn,aj6,ajx,aky,ajv,ajs,aiT,ai3,aiX,ajt,aiL,aj4,ajH,ajW,ai7,akQ,aiJ])].toArray).run prog w= .ok (.slice (some ⟨w.heap.size,0,none⟩) 1 1) (w.alloc (.cells [x00,x01,x02,x03,x04,x05,x06,x07,x08,x09,ajq,aj9,akv,ajY,ajw,aj3,akI,akn,aj6,ajx,aky,ajv,ajs,aiT,ai3,aiX,ajt,aiL,aj4,ajH,ajW,ai7,akQ,aiJ].toArray 140)):=by kernel_rfl
theorem Lv(VN:Option Addr)(Vr VQ:Nat)(w:World):(Instr.buildSlice 47 1 [(0,.slice VN Vr VQ)].toArray).run prog w= .ok (.slice (some ⟨w.heap.size,0,none⟩) 1 1) (w.alloc (.cells [.slice VN Vr VQ].toArray 34)):=by kernel_rfl
theorem ahf(VN:Option Addr)(Vr VQ:Nat)(Vs:Option Addr)(VE VT:Nat)(w:World):(Instr.buildSlice 47 2 [(0,.slice VN Vr VQ),(1,.slice Vs VE VT)].toArray).run prog w= .ok (.slice (some ⟨w.heap.size,0,none⟩) 2 2) (w.alloc (.cells [.slice VN Vr VQ,.slice Vs VE VT].toArray 34)):=by kernel_rfl
theorem zW(VN:Option Addr)(Vr VQ:Nat)(Vs:Option Addr)(VE VT:Nat)(x2a:Option Addr)(x2m x2c:Nat)(w:World):(Instr.buildSlice 47 3 [(0,.slice VN Vr VQ),(1,.slice Vs VE VT),(2,.slice x2a x2m x2c)].toArray).run prog w= .ok (.slice (some ⟨w.heap.size,0,none⟩) 3 3) (w.alloc (.cells [.slice VN Vr VQ,.slice Vs VE VT,.slice x2a x2m x2c].toArray 34)):=by kernel_rfl
theorem ZW(w:World):(Instr.buildSlice 124 0 [].toArray).run prog w= .ok (.slice (some ⟨w.heap.size,0,none⟩) 0 0) (w.alloc (.cells [].toArray 3)):=by kernel_rfl
theorem dJ(x0:Int)(w:World):(Instr.buildSlice 124 1 [(0,.i x0)].toArray).run prog w= .ok (.slice (some ⟨w.heap.size,0,none⟩) 1 1) (w.alloc (.cells [.i x0].toArray 3)):=by kernel_rfl
theorem p9(x0 x1:Int)(w:World):(Instr.buildSlice 124 2 [(0,.i x0),(1,.i x1)].toArray).run prog w= .ok (.slice (some ⟨w.heap.size,0,none⟩) 2 2) (w.alloc (.cells [.i x0,.i x1].toArray 3)):=by kernel_rfl
theorem Hl(x0 x1 x2:Int)(w:World):(Instr.buildSlice 124 3 [(0,.i x0),(1,.i x1),(2,.i x2)].toArray).run prog w= .ok (.slice (some ⟨w.heap.size,0,none⟩) 3 3) (w.alloc (.cells [.i x0,.i x1,.i x2].toArray 3)):=by kernel_rfl
theorem D8(x0 x1 x2 x3:Int)(w:World):(Instr.buildSlice 124 4 [(0,.i x0),(1,.i x1),(2,.i x2),(3,.i x3)].toArray).run prog w= .ok (.slice (some ⟨w.heap.size,0,none⟩) 4 4) (w.alloc (.cells [.i x0,.i x1,.i x2,.i x3].toArray 3)):=by kernel_rfl
theorem aco(x0 x1 x2 x3 x4:Int)(w:World):(Instr.buildSlice 124 5 [(0,.i x0),(1,.i x1),(2,.i x2),(3,.i x3),(4,.i x4)].toArray).run prog w= .ok (.slice (some ⟨w.heap.size,0,none⟩) 5 5) (w.alloc (.cells [.i x0,.i x1,.i x2,.i x3,.i x4].toArray 3)):=by kernel_rfl
theorem NU(VN:Option Addr)(Vr VQ:Nat)(Vs:Option Addr)(VE VT:Nat)(w:World):(Instr.buildSlice 125 2 [(0,.slice VN Vr VQ),(1,.slice Vs VE VT)].toArray).run prog w= .ok (.slice (some ⟨w.heap.size,0,none⟩) 2 2) (w.alloc (.cells [.slice VN Vr VQ,.slice Vs VE VT].toArray 124)):=by kernel_rfl
theorem Bj(x00 x01 x02 x03 x04:Value)(w:World):(Instr.buildSlice 170 1 [(0,.agg #[x00,x01,x02,x03,x04])].toArray).run prog w= .ok (.slice (some ⟨w.heap.size,0,none⟩) 1 1) (w.alloc (.cells [x00,x01,x02,x03,x04].toArray 237)):=by kernel_rfl
theorem ahJ(x00 x01:Value)(w:World):(Instr.buildSlice 183 1 [(0,.agg #[x00,x01])].toArray).run prog w= .ok (.slice (some ⟨w.heap.size,0,none⟩) 1 1) (w.alloc (.cells [x00,x01].toArray 190)):=by kernel_rfl
theorem afH(x00 x01 Qp Pw:Value)(w:World):(Instr.buildSlice 183 2 [(0,.agg #[x00,x01]),(1,.agg #[Qp,Pw])].toArray).run prog w= .ok (.slice (some ⟨w.heap.size,0,none⟩) 2 2) (w.alloc (.cells [x00,x01,Qp,Pw].toArray 190)):=by kernel_rfl
theorem Ee(x0 x1 x2 x3:Option Addr)(w:World):(Instr.buildSlice 215 4 [(0,.pointer x0),(1,.pointer x1),(2,.pointer x2),(3,.pointer x3)].toArray).run prog w= .ok (.slice (some ⟨w.heap.size,0,none⟩) 4 4) (w.alloc (.cells [.pointer x0,.pointer x1,.pointer x2,.pointer x3].toArray 214)):=by kernel_rfl
theorem SL(x00 x01 x02:Value)(w:World):(Instr.buildSlice 265 1 [(0,.agg #[x00,x01,x02])].toArray).run prog w= .ok (.slice (some ⟨w.heap.size,0,none⟩) 1 1) (w.alloc (.cells [x00,x01,x02].toArray 296)):=by kernel_rfl
theorem Ng(x0 x1:Int)(w:World):(Instr.buildSlice 329 2 [(0,.int .u64 x0),(1,.int .u64 x1)].toArray).run prog w= .ok (.slice (some ⟨w.heap.size,0,none⟩) 2 2) (w.alloc (.cells [.int .u64 x0,.int .u64 x1].toArray 306)):=by kernel_rfl
theorem aew(c0 c1 c2 c3 c4:Value)(w:World):(Instr.field 23 (.agg #[c0,c1,c2,c3,c4]) 0).run prog w= .ok (c0) w:=by kernel_rfl
theorem ady(c0 c1 c2 c3 c4:Value)(w:World):(Instr.field 23 (.agg #[c0,c1,c2,c3,c4]) 1).run prog w= .ok (c1) w:=by kernel_rfl
theorem alz(c0 c1 c2 c3 c4:Value)(w:World):(Instr.field 58 (.agg #[c0,c1,c2,c3,c4]) 0).run prog w= .ok (c0) w:=by kernel_rfl
theorem afg(x0 x1:Int)(x2:Bool)(x3:Int)(x4:Bool)(y0 y1:Int)(y2:Bool)(y3:Int)(y4:Bool):iW prog 10000 58 (.agg #[.i x0,.i x1,.bool x2,.i x3,.bool x4]) (.agg #[.i y0,.i y1,.bool y2,.i y3,.bool y4]) (((decide (x0=y0))&&((((((decide (x1=y1))&&((x2==y2)&&true)))&&((((decide (x3=y3))&&((x4==y4)&&true)))&&true)))&&true))) :=
 (iW.struct underlying58 (by kernel_rfl) (JZ.cons aN (nI isAgg3 Z) (nI isAgg3 Z) (iW.int underlying3) (JZ.cons aN (yH ⟨isAgg56,sizeOf56⟩ (vs:=[_,_,_,_]) Z ⟨Z,Z,Z,Z,trivial⟩) (yH ⟨isAgg56,sizeOf56⟩ (vs:=[_,_,_,_]) Z ⟨Z,Z,Z,Z,trivial⟩) (iW.array underlying56 sizeOf55 (Xb.cons (yH ⟨isAgg55,sizeOf55⟩ (vs:=[_,_]) Z ⟨Z,Z,trivial⟩) (yH ⟨isAgg55,sizeOf55⟩ (vs:=[_,_]) Z ⟨Z,Z,trivial⟩) (iW.struct underlying55 (by kernel_rfl) (JZ.cons aN (nI isAgg3 Z) (nI isAgg3 Z) (iW.int underlying3) (JZ.cons aN (nI isAgg4 Z) (nI isAgg4 Z) (iW.bool underlying4) JZ.nil))) (Xb.cons (yH ⟨isAgg55,sizeOf55⟩ (vs:=[_,_]) Z ⟨Z,Z,trivial⟩) (yH ⟨isAgg55,sizeOf55⟩ (vs:=[_,_]) Z ⟨Z,Z,trivial⟩) (iW.struct underlying55 (by kernel_rfl) (JZ.cons aN (nI isAgg3 Z) (nI isAgg3 Z) (iW.int underlying3) (JZ.cons aN (nI isAgg4 Z) (nI isAgg4 Z) (iW.bool underlying4) JZ.nil))) Xb.nil))) JZ.nil)))
theorem af9(x0 x1 y0 y1:Int):iW prog 10000 292 (.agg #[.i x0,.i x1]) (.agg #[.i y0,.i y1]) (((decide (x0=y0))&&((decide (x1=y1))&&true))) :=
 (iW.struct underlying292 (by kernel_rfl) (JZ.cons aN (nI isAgg3 Z) (nI isAgg3 Z) (iW.int underlying3) (JZ.cons aN (nI isAgg3 Z) (nI isAgg3 Z) (iW.int underlying3) JZ.nil)))
abbrev vJ(i:Int):Value:= .i i
theorem kl3:CU prog 3 vJ:=CU.int underlying3
abbrev jw(p:Int×Int):Value:= .agg #[.i p.1,.i p.2]
theorem zQ:CU prog 292 jw where
 check b p w:=by kernel_rfl
 eq p q w:=by
  have h:=af9 p.1 p.2 q.1 q.2 w;refine h.trans ?_;congr 1;rw[Bool.eq_iff_iff];simp[Prod.ext_iff]
 und:=⟨_,underlying292,λp q=> .inl Z⟩
 bits p:=by simp[Instr.sameBits]
end Go.Proofs.YtcedojacbhnbiaaGreat
namespace Go.Sl
open Go.RowKit Go.BigFrame List Nat
theorem aB.ex{α:Type}{p:α→Prop}{M:α→List aH}(hx:∀w,Sat K w H→∃a,p a∧Sat K w (M a))(h:∀a,p a→aB P f args K (M a) post):aB P f args K H post:=λw b=>by
 obtain⟨a,d,j⟩:=hx w b;exact h a d w j
theorem WL.ex{α:Type}{p:α→Prop}{M:α→List aH}(hx:∀w,Sat K w H→∃a,p a∧Sat K w (M a))(h:∀a,p a→WL Mo P K n ops rest Q e (M a)):WL Mo P K n ops rest Q e H:=λa w d b=>by
 obtain⟨x,j,l⟩:=hx w b;exact h x j a w d l
theorem WL.lG{p:Prop}(hp:∀w,Sat K w H→p)(h:p→WL Mo P K n ops rest Q e H):WL Mo P K n ops rest Q e H:=λa w d b=>h (hp w b) a w d b
theorem WC.lG{p:Prop}(hp:∀w,Sat K w H→p)(h:p→WC Mo P K n code Q e H):WC Mo P K n code Q e H:=λa w d b=>h (hp w b) a w d b
theorem aV.addr(h:Sat K w (aV (.slice (some a) m cap) E s m cs::H)):∃g,a=⟨g,0,none⟩:=by
 rcases h.head.2 with ⟨b,_⟩ | ⟨g,d,j,b,_⟩
 ·cases b
 ·simp only[Value.slice.injEq,Option.some.injEq] at b;exact⟨g,b.1⟩
theorem aV.yM(h:Sat K w (aV (.slice none m cap) E s m cs::H)):m=0∧cap=0∧cs=[]:=by
 rcases h.head.2 with ⟨a,j⟩ | ⟨g,b,d,a,_⟩
 ·simp only[Value.slice.injEq] at a;exact⟨a.2.1,a.2.2,eq_nil_of_length_eq_zero (by rw[h.head.1,j,Nat.zero_mul])⟩
 ·simp at a
theorem aV.len(h:Sat K w (aV v E s m cs::H)):cs.length=m*s:=h.head.1
theorem Sat.nU(hw:Sat K w (aV (.slice (some ⟨g,0,none⟩) m cap) E s m cs::H)) :
 ∃ rest:List Value,((cs++rest).length=cap*s∧cs.length=m*s∧m≤cap∧cap≤maxLen)∧Sat K w (ah g E (cs++rest)::H):=by
 obtain⟨j,b⟩:=hw.head;rcases b with ⟨b,_⟩ | ⟨F,h,a,b,_,r,u,C,l,D⟩
 ·cases b
 ·simp only[Value.slice.injEq,Option.some.injEq,Addr.mk.injEq] at b;obtain⟨⟨rfl,_⟩,_,rfl⟩:=b;have aj2:cs++a.toList.drop (m*s)=a.toList:=by rw[←D,take_append_drop]
  refine⟨a.toList.drop (m*s),⟨by rw[aj2,Array.length_toList,l],j,u,C⟩,hw.1, ?_,λx d=> ?_,λx d B y wE=> ?_,hw.2.tail⟩
  ·rw[aj2];simp only[ah,Array.toArray_toList];exact r
  ·simp only[ah] at d;subst d;exact hw.2.2.1 _ (by simp[aV,Value.ownBlock])
  ·simp only[ah] at d;subst d;exact hw.2.2.2.1 _ (by simp[aV,Value.ownBlock]) B y wE
theorem WL.agS{T E:Nat}(hT:P.underlying T=some (.slice E))(hz:∀w,(zeroValue E).run P w= .ok z w)(hzc:z.cells= #[z])(h1:z.oneCell'=true)
 (hx:OV true e x (.slice A q cap)) (hA:q≠0→A=some ⟨b,o,none⟩) (hu:bT K H b o (replicate q z) H') (h:WL Mo P K n ops rest Q e H') :
 WL Mo P K n ops (⟨none,.call ⟨.builtin .clear,#[x],#[T]⟩,ty,pos,af,none⟩::rest) Q e H:=by
 refine WL.aeo (R:=λou=>ou=H') (λa w u r=> ?_) (λou B=>by subst B;exact h);obtain⟨D,y⟩:=hu.run (P:=P) r (λv C=>by rw[eq_of_mem_replicate C];exact h1);refine⟨_,H',.inr ⟨.tuple #[], ?_⟩,y,Z⟩;rw[execOp_builtin,builtin_clear];have Km:=hx.ev Z u;rcases eq_zero_or_pos q with l | l
 ·subst l;cases A<;>simp[Km,Builtin.clear_,run_underlying hT,World.setCells]
 ·rw[hA ay] at Km;have m:=hu.may w r.2;have :=Lib.run_clear_slice (P:=P) w T E ty z hT hz hzc h1 b o q cap l (λj d=>(m j (by simpa using d)).1) (λj d=>(m j (by simpa using d)).2);simp only[map_toArray,map_cons,map_nil,Km];rw[Sem.run_bind,this];rfl
theorem V.ahb(hT:P.underlying T=some .string)(hx:OV c e x (.string s))(hy:OV c e y (.int k j))(hb:c=true→0≤j∧s[j.toNat]? =some b) :
 eX Mo P K n c e H ⟨dst,.index T x y,ty,pos,af,gd⟩ (.int .u8 b.toNat):=λd a w h r=>by
 show ((do pure (Next.value (←Instr.index T (a.eval x) (a.eval y)))):Sem Next).run P w=_;rw[hx.ev d h,hy.ev d h];obtain⟨l,m⟩:=hb d;simp[Instr.index,asIntOf,run_underlying hT,l,m]
theorem bT.row(ho:o+vs.length≤cs.length):bT K (ah b T cs::H) b o vs (ah b T (cs.take o++vs++cs.drop (o+vs.length))::H):=by simp_all [bT.here,mD]
structure w9 where
 fn:FuncId
 tmps:Array Value
 ps:Array Tmp
 assign:Code
 body:Code
 D:Nat
def w9.CJ(r:w9)(st:LoopState)(pe:Option Code):Loop:= { state:=st,pending:=pe,fn:=r.fn,tmps:=r.tmps,params:=r.ps,assign:=r.assign,body:=r.body,defers:=r.D }
def w9.A(r:w9)(l:Nat)(st:LoopState)(pe:Option Code):aH where
 jA x:=x=l
 holds w:=w.heap[l]? =some (.loop (r.CJ st pe))
 loc w w' h hw:=by rw[h l Z];exact hw
def jT(D:Nat):aH where
 jA x:=x=D
 holds w:=w.heap[D]? =some (.deferred (some []))
 loc w w' h hw:=by rw[h D Z];exact hw
abbrev wZ(D:Nat):Deferred:= { target:= .collected D,args:= #[] }
theorem Sat.putObj(hw:Sat K w (A::H))(hA:∀b,A.jA b↔b=l)(hf:∀b,A'.jA b→b=l)(hh:∀w':World,w'.heap[l]? =some o→A'.holds w'):Sat K (w.putObj l o) (A'::H):=by
 have o7:l<w.heap.size:=hw.2.2.1 l ((hA l).2 Z);refine⟨hw.1.grow Z Z Z (by simp[World.putObj]),hw.2.set (by simp[World.putObj]) (λb a _=> ?_) (hh _ (World.putObj_heap_same o7)) (λb a=> .inl ((hA b).2 (hf b a)))⟩;exact World.putObj_heap_other (λe=>a ((hA b).2 e))
theorem Sat.MZ{r:w9}{pe:Option Code}(hw:Sat K w (r.A l st pe::H)):Sat K (w.putObj l (.loop (r.CJ st' pe'))) (r.A l st' pe'::H) :=
 hw.putObj (λb=>Iff.rfl) (λb h=>h) (λa h=>h)
theorem Sat.Rl(hw:Sat K w H)(hf:∀b,A.jA b→b=w.heap.size)(hh:∀w':World,w'.heap[w.heap.size]? =some o→A.holds w'):Sat K (w.alloc o) (A::H):=by
 refine⟨hw.1.grow Z Z Z (by simp),hw.2.push (by simp) (λb a=>Below.heap_alloc _ _ _ a) (hh _ (heap_alloc_new w _)) (λb a=> ?_)⟩;have :=hf b a;subst this;simp
theorem Sat.shut(hw:Sat K w (jT D::H)):Sat K (w.putObj D o) H:=by
 refine⟨hw.1.grow Z Z Z (by simp[World.putObj]),hw.2.tail.nG (by simp[World.putObj]) λB a b d=>World.putObj_heap_other λe=>hw.2.2.2.1 b e B a d⟩
def jY(P:Program)(K:World)(r:Option Nat)(l:Nat)(args:Array Value)(H:List aH)(post:Bool→List aH→Prop):Prop :=
 ∀ w,Sat K w H→∃fn tmps assign body,(Instr.yield l args).run P w= .ok (.round l fn tmps assign body) w∧RoundIn (IB r) 0 P l fn tmps assign body w λe a=>∃b H',e= .returned (.bool b)∧Sat K a H'∧post b H'
theorem jY.mono(h:jY P K r l args H post)(hp:∀b H',post b H'→post' b H'):jY P K r l args H post':=λw x=>by
 obtain⟨u,a,assign,d,j,m⟩:=h w x;exact⟨u,a,assign,d,j,m.mono λe D ⟨b,H',B,y,C⟩=>⟨b,H',B,y,hp b H' C⟩⟩
def abE(r:w9)(l:Nat)(K:World)(post:Option Code→List aH→Prop):iX
 | _,.normal,_,H'=>∃H1,(∀w,Sat K w H'→Sat K w (r.A l .busy none::H1))∧post none H1
 | _,.ret,_,H'=>∃H1,(∀w,Sat K w H'→Sat K w (r.A l .busy none::H1))∧post (some .ret) H1
 | _,.exit id,_,H'=>∃H1,(∀w,Sat K w H'→Sat K w (r.A l .busy none::H1))∧post (some (.exit id)) H1
 | _,.goto t,_,H'=>∃H1,(∀w,Sat K w H'→Sat K w (r.A l .busy none::H1))∧post (some (.goto t)) H1
 | _,_,_,_=>False
def VL(P:Program)(n:Nat)(r:w9)(l:Nat)(K:World)(post:Option Code→List aH→Prop):iX
 | Mo,.normal,e',H'=>∃H1,(∀w,Sat K w H'→Sat K w (r.A l .ready none::H1))∧WC Mo P K n r.body (abE r l K post) e' (r.A l .busy none::H1)
 | _,_,_,_=>False
def Nw(ps:List Tmp)(args:List Value)(e:Env):Env:=(ps.zip args).foldl (λe p=>(p.1,p.2)::e) e
theorem Aa:∀ {ps:List Tmp} {args:List Value} {e:Env} {t:Array Value},(∀p∈ps,blt p n=true)→eF Mo n e { tmps:=t,defers:=Mo.ds } →
 eF Mo n (Nw ps args e) { tmps:=(ps.zip args).foldl (λt p=>t.setIfInBounds p.1 p.2) t,defers:=Mo.ds }
 | [],_,_,_,_,h=>h
 | p::ps,[],_,_,_,h=>h
 | p::ps,v::args,e,t,hp,h=>by
  have h1:=h.put p (hp p (.head _)) v;have b:eF Mo n ((p,v)::e) { tmps:=t.setIfInBounds p v,defers:=Mo.ds }:=h1;exact Aa (ps:=ps) (λq a=>hp q (mem_cons_of_mem _ a)) b
theorem CS{r:w9}(aln:args.length=r.ps.size)(qY:∀p∈r.ps.toList,blt p n=true)
 (hA:eF ⟨some (some l),[]⟩ n e { tmps:=r.tmps,defers:=[] })
 (h:WC ⟨some (some l),[]⟩ P K n r.assign (VL P n r l K post) (Nw r.ps.toList args e) (r.A l .ready none::H)) :
 jY P K r0 l args.toArray (r.A l .ready none::H) (λb H'=>∃j H1,b=Option.isNone j∧post j H1∧H'=r.A l (if Option.isNone j then .ready else .done) j::H1):=λw O=>by
 have S:w.heap[l]? =some (.loop (r.CJ .ready none)):=O.2.1;refine⟨r.fn,_,r.assign,r.body,run_yield (P:=P) (args:=args.toArray) S (by simpa [w9.CJ] using aln), ?_⟩;have BG:∀R:Ending→World→Prop,RoundIn (IB none) 0 P l r.fn ((r.ps.zip args.toArray).foldl (λtmps (t,a)=>tmps.setIfInBounds t a) r.tmps) r.assign r.body w R →
  RoundIn (IB r0) 0 P l r.fn ((r.ps.zip args.toArray).foldl (λtmps (t,a)=>tmps.setIfInBounds t a) r.tmps) r.assign r.body w R:=λR h=>by
  cases r0
  ·exact h
  ·exact h
 refine BG _ (roundIn_of_wpIn (F:=Fence.wide) (n:=0) trivial ?_);have J:eF ⟨some (some l),[]⟩ n (Nw r.ps.toList args e) { tmps:=(r.ps.zip args.toArray).foldl (λtmps (t,a)=>tmps.setIfInBounds t a) r.tmps,defers:=[] }:=by
  have I:=Aa (args:=args) qY hA;have W:(r.ps.zip args.toArray).foldl (λtmps (t,a)=>tmps.setIfInBounds t a) r.tmps=(r.ps.toList.zip args).foldl (λt p=>t.setIfInBounds p.1 p.2) r.tmps:=by
   rw[←Array.foldl_toList];simp
  rw[W];exact I
 have I:r.assign.wpIn (IB (some l)) 0 P (lift (some (some l)) K n (VL P n r l K post)) _ w:=h _ w J O;refine wpIn_mono I ?_;rintro x X M ⟨ds,e',H',Y,T,N⟩;cases x
 case normal =>
  obtain⟨H1,uM,U⟩:=N;have hs:=uM M T;have RY:M.heap[l]? =some (.loop (r.CJ .ready none)):=hs.2.1;refine⟨_,run_beginRound RY Z, ?_⟩;have EA:r.body.wpIn (IB (some l)) 0 P (lift (some (some l)) K n (abE r l K post)) X (M.putObj l (.loop { r.CJ .ready none with state:= .busy })):=U _ _ Y hs.MZ;refine wpIn_mono EA ?_;have fin:∀(j:Option Code) (d:World) (H1:List aH),Sat K d (r.A l .busy none::H1)→∃v u,(Instr.endRound l j).run P d= .ok v u∧v= .bool (Option.isNone j)∧Sat K u (r.A l (if Option.isNone j then .ready else .done) j::H1):=λj d H1 hs=>by
   have L:d.heap[l]? =some (.loop (r.CJ .busy none)):=hs.2.1;exact⟨_,_,run_endRound (P:=P) j L,Z,hs.MZ⟩
  rintro y a3 d ⟨V,e3,H3,m1,m2,m3⟩;cases y
  case normal =>
   obtain⟨m,D,C⟩:=m3;obtain⟨v,u,G,rfl,B⟩:=fin none d m (D d m2);exact⟨_,u,G,true,_,Z,B,none,m,Z,C,Z⟩
  case ret =>
   obtain⟨m,D,C⟩:=m3;obtain⟨v,u,G,rfl,B⟩:=fin (some .ret) d m (D d m2);exact⟨_,u,G,false,_,Z,B,some .ret,m,Z,C,Z⟩
  case exit id =>
   obtain⟨m,D,C⟩:=m3;obtain⟨v,u,G,rfl,B⟩:=fin (some (.exit id)) d m (D d m2);exact⟨_,u,G,false,_,Z,B,some (.exit id),m,Z,C,Z⟩
  case goto t =>
   obtain⟨m,D,C⟩:=m3;obtain⟨v,u,G,rfl,B⟩:=fin (some (.goto t)) d m (D d m2);exact⟨_,u,G,false,_,Z,B,some (.goto t),m,Z,C,Z⟩
  case panic=>exact m3.elim
  case outgrown=>exact m3.elim
 all_goals exact N.elim
theorem WC.range{K:World}{H:List aH}{P:Program}{n:Nat}{e:Env}{Q:iX}{g:Operand}{ps:Array Tmp}{assign body:Code}{gf:FuncId}{lb:List Value}{Done:List aH→Prop}{X:Code→List aH→Prop}(hg:sQ e g=some (.func (.func gf) #[] lb.toArray))(hc:bP P gf)
 (hit:∀(r:w9) (l:Nat),r.ps=ps→r.assign=assign→r.body=body→eF ⟨some (some l),[]⟩ n e { tmps:=r.tmps,defers:=[] } →
  aB P gf (#[.func (.yield l) #[] #[]]++lb.toArray) K (r.A l .ready none::jT r.D::H) (λ_ H'=>∃j H1,H'=r.A l (if Option.isNone j then .ready else .done) j::jT r.D::H1∧(match j with | none=>Done H1 | some c=>X c H1)))
 (acN:∀D H1,Done H1→Q ⟨none,[wZ D]⟩ .normal e (jT D::H1))
 (anQ:∀D c H1,X c H1→WC ⟨none,[wZ D]⟩ P K n c Q e (jT D::H1)):WC ⟨none,[]⟩ P K n (.rangeFunc g ps assign body) Q e H:=λa w u N=>by
 show (Code.rangeFunc g ps assign body).wp P _ a w;refine (wpIn_wide (n:=0)).1 (wpIn_rangeFunc ?_);intro L RS;have B:a.defers=[]:=u.defers;obtain⟨r,m⟩:∃r:w9,r=⟨L,a.tmps,ps,assign,body,w.heap.size⟩:=⟨_,Z⟩;have J:Sat K (w.alloc (.deferred (some []))) (jT w.heap.size::H):=N.Rl (λb h=>h) (λO h=>h);have M:Sat K ((w.alloc (.deferred (some []))).alloc (.loop (r.CJ .ready none))) (r.A (w.heap.size+1) .ready none::jT w.heap.size::H):=by
  have :=J.Rl (A:=r.A (w.alloc (.deferred (some []))).heap.size .ready none) (o:= .loop (r.CJ .ready none)) (λb h=>h) (λO h=>h)
  simpa using this
 have y:r.D=w.heap.size:=by rw[m]
 have C:=u.ev hg;refine⟨w.heap.size+1,[wZ w.heap.size],(w.alloc (.deferred (some []))).alloc (.loop (r.CJ .ready none)),{ target:= .fn (.func gf) lb.toArray,args:= #[.func (.yield (w.heap.size+1)) #[] #[]] },(w.alloc (.deferred (some []))).alloc (.loop (r.CJ .ready none)),gf,
  #[.func (.yield (w.heap.size+1)) #[] #[]]++lb.toArray,(w.alloc (.deferred (some []))).alloc (.loop (r.CJ .ready none)), ?_, ?_,λR _=>trivial, ?_,λh=>(by cases h), ?_⟩
 ·rw[m];exact run_enterLoop_outer _ _ _ _ _
 ·simp only[resolve,C];simp[go_sem]
 ·show (callFunc gf (#[.func (.yield (w.heap.size+1)) #[] #[]]++lb.toArray)).run P _=_;rw[hc]
 ·refine callsIn_wide.2<|(hit r (w.heap.size+1) (by rw[m]) (by rw[m]) (by rw[m]) ?_ _ (by rw[y];exact M)).mono ?_
  ·rw[m];exact⟨Z,u.size,u.at_⟩
  ·rintro _ G ⟨v,H',rfl,hs,j,H1,rfl,I⟩;have F:G.heap[w.heap.size+1]? =some (.loop (r.CJ (if Option.isNone j then .ready else .done) j)):=hs.2.1;have acM:=run_endLoop (P:=P) F (by show (if Option.isNone j then LoopState.ready else .done)≠ .busy;split<;>simp);refine⟨j,_,acM, ?_⟩;have d:Sat K (G.putObj (w.heap.size+1) (.loop { r.CJ (if Option.isNone j then .ready else .done) j with state:= .exhausted })) (jT r.D::H1) :=
    (hs.MZ (st':= .exhausted) (pe':=j)).tail
   have x:eF ⟨none,[wZ w.heap.size]⟩ n e { a with defers:=[wZ w.heap.size]++a.defers }:=⟨by rw[B];rfl,u.size,u.at_⟩;rw[y] at d;cases j with
   | none=>exact⟨_,e,_,x,d,acN _ _ I⟩
   | some c=>exact wpIn_wide.2 (anQ _ c H1 I _ _ x d)
def mZ(P:Program)(K:World)(n:Nat)(fn:Func)(post:Value→List aH→Prop):iX
 | Mo,.normal,e,H | Mo,.ret,e,H=>(∃v H',bJ Mo P K n fn e H v∧(∀w,Sat K w H→Sat K w H')∧post v H')∧Mo.ds=[] ∨
  (∃D H1 v H',Mo.ds=[wZ D]∧(∀w,Sat K w H→Sat K w (jT D::H1))∧bJ Mo P K n fn e H1 v∧(∀w,Sat K w H1→Sat K w H')∧post v H')
 | _,_,_,_=>False
theorem mZ.ret(hr:bJ ⟨r,[]⟩ P K n fn e H v)(hs:∀w,Sat K w H→Sat K w H')(hp:post v H'):mZ P K n fn post ⟨r,[]⟩ .ret e H:= .inl ⟨⟨v,H',hr,hs,hp⟩,Z⟩
theorem mZ.agu(H1:List aH)(hH:∀w,Sat K w H→Sat K w (jT D::H1))(hr:bJ ⟨none,[wZ D]⟩ P K n fn e H1 v)(hs:∀w,Sat K w H1→Sat K w H')(hp:post v H') :
 mZ P K n fn post ⟨none,[wZ D]⟩ .ret e H:= .inr ⟨D,H1,v,H',Z,hH,hr,hs,hp⟩
theorem aB.aaG{n:Nat}(hf:P.funcs[f]? =some fn)(hb:fn.body=some c)(hn:fn.ntmps=n)(hl:ble vs.length n=true)
 (h:WC ⟨none,[]⟩ P K n c (mZ P K n fn post) (kV 0 vs) H):aB P f vs.toArray K H post:=by
 intro w O;refine callsIn_wide.1 (callsIn_of_wp_marks (F:=Fence.wide) (n:=0) hf hb trivial ?_);have C:eF ⟨none,[]⟩ n (kV 0 vs) { tmps:=vs.toArray++Array.replicate (fn.ntmps-vs.toArray.size) undef,defers:=[] }:=by
  have Dp:vs.length≤n:=by simpa using hl
  refine⟨Z,by simp[hn];omega,λt v N=> ?_⟩;obtain⟨_,b⟩:=nO vs 0 t v N;simp only[Nat.sub_zero] at b;have R:t<vs.length:=by
   rcases Nat.lt_or_ge t vs.length with h | h
   ·exact h
   ·simp[getElem?_eq_none h] at b
  rw[Array.getD_eq_getD_getElem?,Array.getElem?_append_left (by simpa using R)];simp[b]
 have d:c.wp P (lift none K n (mZ P K n fn post)) _ w:=h _ w C O;refine wpIn_wide.2 (wp_mono d ?_);rintro x a w ⟨ds,G,l,d,b,m⟩;have j:∀x,(x= .normal∨x= .ret)→mZ P K n fn post ⟨none,ds⟩ x G l→LeavesInM Fence.wide 0 P fn a.tmps (λe S=>∃v l,e= .returned v∧Sat K S l∧post v l) a.defers .returning w:=by
  intro x L m;have J:mZ P K n fn post ⟨none,ds⟩ .ret G l:=by rcases L with rfl | rfl<;>exact m
  rcases J with ⟨⟨v,ou,r,u,y⟩,B⟩ | ⟨D,M,v,ou,B,r,u,y,I⟩
  ·rw[d.defers.trans B];exact⟨v,r a w d b,v,ou,Z,u w b,y⟩
  ·rw[d.defers.trans B];have hs:=r w b;refine⟨by simp,.inl ⟨D,_,Z,run_takeDeferred (P:=P) hs.2.1, ?_⟩⟩;have pI:Sat K (w.putObj D (.deferred none)) M:=hs.shut;exact⟨v,u a _ d pI,v,ou,Z,y _ pI,I⟩
 cases x<;>first
  | exact j _ (.inl Z) m
  | exact j _ (.inr Z) m
  | exact m.elim
theorem aB.aaR{n:Nat}(hf:P.funcs[f]? =some fn)(hb:fn.body=some c)(hn:fn.ntmps=n)(hl:ble vs.length n=true)
 (h:WC ⟨some none,[]⟩ P K n c (aF P K n fn post) (kV 0 vs) H):aB P f vs.toArray K H post:=by
 intro w B;refine callsIn_wide.1 (callsIn_of_wp (F:=Fence.wide) (n:=0) hf hb trivial ?_);have j:eF ⟨some none,[]⟩ n (kV 0 vs) { tmps:=vs.toArray++Array.replicate (fn.ntmps-vs.toArray.size) undef,defers:=[] }:=by
  have Dp:vs.length≤n:=by simpa using hl
  refine⟨Z,by simp[hn];omega,λt v y=> ?_⟩;obtain⟨_,b⟩:=nO vs 0 t v y;simp only[Nat.sub_zero] at b;have C:t<vs.length:=by
   rcases Nat.lt_or_ge t vs.length with h | h
   ·exact h
   ·simp[getElem?_eq_none h] at b
  rw[Array.getD_eq_getD_getElem?,Array.getElem?_append_left (by simpa using C)];simp[b]
 have d:c.wpIn Fence.wide 0 P (lift (some none) K n (aF P K n fn post)) _ w:=h _ w j B;refine wpIn_mono d ?_;rintro x a w ⟨ds,G,I,d,b,l⟩;cases x<;>first
  | (obtain⟨u,v,ou,D,m,r⟩:=l;exact⟨d.defers.trans u,v,D a w d b,v,ou,Z,m w b,r⟩)
  | exact l.elim
theorem WL.afm
 (hy:OV true e y (.func (.yield l) #[] #[])) (gL:Ga true e xs vs) (hY:jY P K r l vs.toArray H post) (hd:blt d n=true) (h:∀b H',post b H'→WL ⟨some r,ds⟩ P K n ops rest Q ((d,.bool b)::e) H') :
 WL ⟨some r,ds⟩ P K n ops (⟨some d,.call ⟨.value y,xs.toArray,ats⟩,ty,pos,af,none⟩::rest) Q e H:=λa w u I=>by
 obtain⟨C,j,assign,m,x,B⟩:=hY w I;refine kH Z λR G=> ?_;have Kw:(execOp a.eval ⟨some d,.call ⟨.value y,xs.toArray,ats⟩,ty,pos,af,none⟩).run P w= .ok (.round l C j assign m) w:=by
  show ((do let d ←resolve a.eval ⟨.value y,xs.toArray,ats⟩ ty;invoke d.target d.args):Sem Next).run P w=_;have L:resolve a.eval ⟨.value y,xs.toArray,ats⟩ ty=pure { target:= .fn (.yield l) #[],args:=vs.toArray }:=by
   simp only[resolve,hy.ev Z u,map_toArray,gL.ev u Z];show (pure { target:= .fn (.yield l) #[],args:= #[]++vs.toArray }:Sem Deferred)=_;rw[Array.empty_append]
  rw[L];exact x
 show Oper.wpIn (IB r) 0 P _ a w R _;refine⟨λf _=>AU _ f, ?_⟩;rw[Oper.semAt_eq _ _ _ (λc=>by simp),Kw,Oper.uponIn_round];refine⟨zo r,B.mono ?_⟩;rintro _ J ⟨b,H',rfl,D,F⟩;exact G _ _ (h b H' F _ J (u.put d hd (.bool b)) D)
def zF(ops:Array Oper):Bool:=ops.all λo=>match o.op with | .defer _=>false | _=>true
theorem Nq(h:zF ops=true){i:Nat}(hi:ops[i]? =some o):∀c,o.op≠ .defer c:=by grind [zF,Array.all_eq_true_iff_forall_mem,Array.mem_of_getElem?]
theorem adE{o:Oper}(h:o.upon P a K q x):o.uponIn (IB l) 0 P a K q x:=by
 cases x with
 | ok nx w' =>
  cases nx<;>simp only[Oper.upon,Oper.uponIn] at h ⊢ <;>first
   | exact h
   | exact⟨zo l,Lr.2 h⟩
   | (
    refine⟨zo l,λc j _=> ?_⟩;obtain⟨v,b,m,d⟩:=h c j;refine⟨v,b,m, ?_⟩;cases l
    ·exact stepsIn_wide.2 d
    ·rw[fenced_inRound];exact stepsIn_wide.2 d)
 | halt x w'=>cases x<;>simp only[Oper.upon,Oper.uponIn] at h ⊢ <;>exact h
theorem aeB(vZ:zF ops=true)(L8:¬LetsOut q)(hS:∀a w,S a w→S' a w)(h:wpOp P ops q i S a w):wpOpIn (IB l) 0 P ops q i S' a w:=by
 unfold wpOp at h;unfold wpOpIn;cases ho:ops[i]? with
 | none=>rw[ho] at h;exact hS _ _ h
 | some o =>
  rw[ho] at h;dsimp only at h ⊢;split at h
  ·rename_i b;rw[if_pos b];rcases h with h | ⟨_,h⟩
   ·refine⟨λf _=>AU _ f, ?_⟩;rw[Oper.semAt_eq _ _ _ (Nq vZ ho)];exact adE (Oper.wp_mono hS h)
   ·exact absurd h L8
  ·rename_i b;rw[if_neg b];exact⟨λf _=>AU _ f,hS _ _ h⟩
theorem Ht(vZ:zF ops=true)(L8:¬LetsOut q):∀(fuel:Nat) (listed:Array Bool) (a:Act) (w:World),wpAny P md ops q fuel listed a w→wpAnyIn (IB l) 0 P md ops q fuel listed a w
 | 0,_,_,_,h=>h
 | fuel+1,_,_,_,h=>⟨h.1,λi hi=>aeB vZ L8 (λa w hh=>Ht vZ L8 fuel _ a w hh) (h.2 i hi)⟩
abbrev inR(l:Option Nat)(Q:iX):iX:=λMo x e H=>Q ⟨some l,Mo.ds⟩ x e H
theorem Q8(h:lift none K n (inR l Q) x a w):lift (some l) K n Q x a w:=by
 obtain⟨ds,e,H,b,d,j⟩:=h;exact⟨ds,e,H,⟨b.defers,b.size,b.at_⟩,d,j⟩
theorem WC.Dj{K:World}{H:List aH}{P:Program}{n:Nat}{e:Env}{Q:iX}{l:Option Nat}{id:Nat}{os:List Oper}{ds:List Deferred}(F0:List aH)(hm:P.follows .mixedOrders=true)(h:WA ⟨none,ds⟩ P K n F0 os.toArray (inR l Q) os.length (Array.replicate os.length false) e H)
 (vZ:zF os.toArray=true:=by kernel_rfl) (L8:∀(p:Mode×Env) H,¬Q p.1 .outgrown p.2 H:=by exact λ_ _ h=>h):WC ⟨some l,ds⟩ P K n (.region id os.toArray true) Q e H:=λa w b u=>by
 show (Code.region id os.toArray true).wpIn (IB l) 0 P _ a w;have r:¬LetsOut (lift none K n (inR l Q)):=by
  rintro⟨a,w,ds',e',H',_,_,d⟩;exact L8 (⟨some l,ds'⟩,e') H' d
 have j:=h a _ ⟨b.defers,b.size,b.at_⟩ u.drew;have m:=Ht (l:=l) vZ r _ _ _ _ (Bb (C:=λw=>Sat K w F0) _ _ _ _ j);have d:(Code.region id os.toArray true).wpIn (IB l) 0 P (lift none K n (inR l Q)) a w:=wpIn_region_any hm (by simpa using m);exact wpIn_mono d λx a w h=>Q8 h
theorem WC.Rm{K:World}{H:List aH}{P:Program}{n:Nat}{e:Env}{Q:iX}{l:Option Nat}{id:Nat}{os:List Oper}{ds:List Deferred}(hm:P.follows .mixedOrders=true)(hB:Region.lexB .any os.toArray=true)(h:WQ ⟨none,ds⟩ P K n os.toArray os (λe'=>Q ⟨some l,ds⟩ .normal e' H) e H)
 (vZ:zF os.toArray=true:=by kernel_rfl) (L8:∀(p:Mode×Env) H,¬Q p.1 .outgrown p.2 H:=by exact λ_ _ h=>h):WC ⟨some l,ds⟩ P K n (.region id os.toArray true) Q e H:=λa w b y=>by
 show (Code.region id os.toArray true).wpIn (IB l) 0 P _ a w;have u:¬LetsOut (lift none K n (inR l Q)):=by
  rintro⟨a,w,ds',e',H',_,_,d⟩;exact L8 (⟨some l,ds'⟩,e') H' d
 have m:=h a ⟨b.defers,b.size,b.at_⟩;simp only[Region.lexB,Bool.and_eq_true] at hB;have r:wpAny P .any os.toArray (lift none K n (inR l Q)) os.toArray.size (Array.replicate os.toArray.size false) a { w with drawn:=w.drawn+1 }:=by
  refine wpAny_of_quiet (C:=λw=>Sat K w H) (Q:=λj=>∃e',eF ⟨none,ds⟩ n e' j∧Q ⟨some l,ds⟩ .normal e' H) (λj F GK ⟨e',D,B⟩=>⟨ds,e',H,D,GK,B⟩) _ _ _ _ y.drew ?_;have :=wpAnyQ_lex (C:=λw=>Sat K w H) (md:= .any) hB.1 os.toArray.toList 0 (Array.replicate os.toArray.size false) a (by simp) (by simpa using hB.2) (by simpa using m)
  simpa using this
 have d:(Code.region id os.toArray true).wpIn (IB l) 0 P (lift none K n (inR l Q)) a w:=wpIn_region_any hm (Ht vZ u _ _ _ _ r);exact wpIn_mono d λx a w h=>Q8 h
def ahC{σ:Type}(M0:Mode)(K:World)(E:σ→Env)(M:σ→List aH)(J:σ→Prop)(Q:iX):iX
 | Mo,.normal,e,H=>Mo=M0∧∃s,J s∧Sub (E s) e∧∀w,Sat K w H→Sat K w (M s)
 | Mo,x,e,H=>Q Mo x e H
theorem WC.join{σ:Type}(E:σ→Env)(M:σ→List aH)(J:σ→Prop)
 (hx:WC Mo P K n x (ahC Mo K E M J Q) e H) (hy:∀s,J s→WC Mo P K n y Q (E s) (M s)):WC Mo P K n (.seq x y) Q e H :=
 WC.seq (WC.mono hx λb x e H h=>by
  cases x
  case normal =>
   obtain⟨rfl,s,hs,d,a⟩:=h;exact WC.sub d a (hy s hs)
  all_goals exact h)
end Go.Sl
namespace Go.Sl
open Go.RowKit List Nat
def Fp(P:Program)(f:FuncId)(args:Array Value)(K:World)(H:List aH)(post:List aH→Prop):Prop :=
 ∀ w,Sat K w H→CallsD P f args .returning w λe a b=>a= .returning∧∃v H',e= .returned v∧Sat K b H'∧post H'
theorem aB.aaU{n:Nat}(hf:P.funcs[f]? =some fn)(hb:fn.body=some c)(hn:fn.ntmps=n)(hl:ble vs.length n=true)
 (h:WC ⟨none,[]⟩ P K n c (aF P K n fn λv H'=>post H') (kV 0 vs) H):Fp P f vs.toArray K H post:=by
 intro w B;refine (callsD_of_wp (R:=λe l=>∃v H',e= .returned v∧Sat K l H'∧post H') hf hb (wp_mono (h _ w ?_ B) ?_)).mono λe F l h=>h
 ·have Dp:vs.length≤n:=by simpa using hl
  refine⟨Z,by simp[hn];omega,λt v y=> ?_⟩;obtain⟨_,b⟩:=nO vs 0 t v y;simp only[Nat.sub_zero] at b;have C:t<vs.length:=by
   rcases Nat.lt_or_ge t vs.length with h | h
   ·exact h
   ·simp[getElem?_eq_none h] at b
  rw[Array.getD_eq_getD_getElem?,Array.getElem?_append_left (by simpa using C)];simp[b]
 ·rintro x a w ⟨ds,G,H',d,b,j⟩;cases x<;>first
   | (obtain⟨u,v,ou,D,m,r⟩:=j;exact⟨d.defers.trans u,v,D a w d b,v,ou,Z,m w b,r⟩)
   | exact j.elim
theorem WL.defer(hy:OV true e y (.func (.func f) #[] cap))
 (h:WL ⟨none,⟨.fn (.func f) cap,#[]⟩::ds⟩ P K n ops rest Q e H):WL ⟨none,ds⟩ P K n ops (⟨none,.defer ⟨.value y,#[],#[]⟩,ty,pos,af,none⟩::rest) Q e H:=λa w b j=>by
 refine kH Z λR l=> ?_;show Oper.wp P _ a w R _;unfold Oper.wp;have d:(execOp a.eval ⟨none,.defer ⟨.value y,#[],#[]⟩,ty,pos,af,none⟩).run P w= .ok (.defer ⟨.fn (.func f) cap,#[]⟩) w:=by
  show ((do pure (Next.defer (←resolve a.eval ⟨.value y,#[],#[]⟩ ty))):Sem Next).run P w=_;have d:resolve a.eval ⟨.value y,#[],#[]⟩ ty=pure { target:= .fn (.func f) cap,args:= #[] }:=by
   simp[resolve,hy.ev Z b,Deferred.ofValue]
  rw[d];rfl
 rw[d,Oper.upon_defer];refine l _ _ (h _ w ⟨?_,b.size,b.at_⟩ j);show _::a.defers=_::ds;rw[b.defers]
end Go.Sl
namespace Go.Sl
open Go.RowKit Go.BigFrame List Nat
theorem Ab(hz:z.cells= #[z])(n:Nat):Builtin.zeroCells z.cells n=(replicate n z).toArray:=by
 rw[hz];apply Array.ext';apply ext_getElem
 ·simp[Builtin.zeroCells]
 ·intro i a b;simp[Builtin.zeroCells,mod_one]
section
variable{P:Program}(w:World)(t tn ty e:TypeId)(i:TypeInfo)(z:Value)(k kn:IntKind)
theorem D9(ht:P.underlying t=some (.slice e))(htn:P.underlying tn=some (.int kn))(hi:P.info? e=some i)(hz:i.zero=some z)(JN:z.cells= #[z])(h1:z.oneCell'=true)(JQ:i.size=1)
 (b sLen sCap n:Nat) (wH:sLen+n≤sCap) (hc:∀j,j<n→(w.cell? ⟨b,sLen+j,none⟩).isSome=true) (hf:∀j,j<n→w.frozen? ⟨b,sLen+j,none⟩=false) (alL:(n:Int)≤1000000000) (h48:n*i.bytes≤281474976710656) :
 (Builtin.append_ #[t,tn] ty #[.slice (some ⟨b,0,none⟩) sLen sCap,.int k n]).run P w= .ok (.slice (some ⟨b,0,none⟩) (sLen+n) sCap) (w.setCells b sLen (replicate n z)):=by
 have m:IntKind.i64.wrap (n:Int)=n:=by rw[IntKind.wrap_i64];omega
 have ahW:¬(281474976710656<(n:Int)*(i.bytes:Int)):=by rw[←Int.natCast_mul];omega
 have ahw:¬((n:Int)<0):=ay;have d:IntKind.i64.wrap 0=0:=by decide
 have dL:=run_storeCells_cells (P:=P) b sLen (replicate n z) 0 w (by simpa using hc) (by simpa using hf) (by intro v l;rw[eq_of_mem_replicate l];exact h1);simp only[Nat.add_zero] at dL;have a:=Ab JN n;by_cases h:n=0
 ·subst h;simp[Builtin.append_,run_underlying ht,run_underlying htn,sizeOf,typeInfo,zeroValue,hi,hz,asInt,asIntOf,d,JQ,storeCells,World.setCells,show sLen≤sCap by omega,jM]
 ·simp[Builtin.append_,run_underlying ht,run_underlying htn,sizeOf,typeInfo,zeroValue,hi,hz,asInt,asIntOf,m,ahw,h,JQ,ahW,wH,a,jM,dL]
theorem tL(ht:P.underlying t=some (.slice e))(htn:P.underlying tn=some (.int kn))(hi:P.info? e=some i)(hz:i.zero=some z)(JN:z.cells= #[z])(JQ:i.size=1)
 (base:Option Addr) (sLen sCap n:Nat) (olds:List Value) (hold:(Builtin.firstCells 1 sLen (.slice base sLen sCap)).run P w.drew= .ok olds.toArray w.drew) (hg:sCap<sLen+n) (alL:(sLen+n:Int)≤1000000000) (h48:(sLen+n)*i.bytes≤140737488355328) :
 (Builtin.append_ #[t,tn] ty #[.slice base sLen sCap,.int k n]).run P w= .ok (.slice (some ⟨w.heap.size,0,none⟩) (sLen+n) (grownCap w (sLen+n) sCap e))
  (w.drew.alloc (.cells ((olds++replicate n z).toArray++Builtin.zeroCells z.cells (grownCap w (sLen+n) sCap e-(sLen+n))) e)):=by
 have j:IntKind.i64.wrap (n:Int)=n:=by rw[IntKind.wrap_i64];omega
 have l:n*i.bytes≤(sLen+n)*i.bytes:=mul_le_mul_right _ ay;have ahW:¬(281474976710656<(n:Int)*(i.bytes:Int)):=by rw[←Int.natCast_mul];omega
 have ahw:¬((n:Int)<0):=ay;have d:IntKind.i64.wrap 0=0:=by decide
 have JD:=growslice_fits hg h48;have ahy:¬(281474976710656<Builtin.nextslicecap (sLen+n) sCap*i.bytes):=ay;have a:¬(sLen+n≤sCap):=ay;have ao8:¬(9223372036854775807<((sLen:Int)+(n:Int))):=ay;have b:=Ab JN n;by_cases h:n=0
 ·subst h;simp only[Nat.add_zero] at a ahy ⊢;simp[Builtin.append_,run_underlying ht,run_underlying htn,sizeOf,typeInfo,zeroValue,hi,hz,asInt,asIntOf,d,JQ,ahy,a,hold,Question.forced,newRow,grownCap,show ¬(9223372036854775807<(sLen:Int)) by omega]
 ·simp[Builtin.append_,run_underlying ht,run_underlying htn,sizeOf,typeInfo,zeroValue,hi,hz,asInt,asIntOf,j,ahw,h,JQ,ahW,ahy,ao8,a,b,hold,Question.forced,newRow,grownCap];congr 2;apply Array.ext';simp[append_assoc]
end
theorem WL.Gx{T Tn E bytes q:Nat}(hT:P.underlying T=some (.slice E))(hTn:P.underlying Tn=some (.int kn))(hE:dH P E 1 bytes z)(JN:z.cells= #[z])(h1:z.oneCell'=true)
 (hx:OV true e x v) (hy:OV true e y (.int k l)) (hl:l=(q:Int)) (hb:(m+q)*bytes≤140737488355328) (hmq:m+q≤1000000000) (hd:blt d n=true)
 (h:∀A cap,(A=none→m+q=0∧cap=0)→m+q≤cap→WL Mo P K n ops rest Q ((d,.slice A (m+q) cap)::e) (aV (.slice A (m+q) cap) E 1 (m+q) (cs++replicate q z)::H)) :
 WL Mo P K n ops (⟨some d,.call ⟨.builtin .append,#[x,y],#[T,Tn]⟩,ty,pos,af,none⟩::rest) Q e (aV v E 1 m cs::H):=by
 refine WL.RQ (R:=λu N=>∃A cap,u= .slice A (m+q) cap∧(A=none→m+q=0∧cap=0)∧m+q≤cap∧N=aV (.slice A (m+q) cap) E 1 (m+q) (cs++replicate q z)::H) (λa w ha X=> ?_) hd (λu N ⟨A,cap,W,V,e3,e4⟩=>by subst W e4;exact h A cap V e3);obtain⟨i,U,hz,hs,TT,x0,h0⟩:=hE;subst hl TT;have sW:∀J G,(execOp a.eval ⟨some d,.call ⟨.builtin .append,#[x,y],#[T,Tn]⟩,ty,pos,af,none⟩).run P w= .ok (.value J) G→G.ownsRow 0 E 1 J (m+q) (cs++replicate q z)→w.grownBy G v.ownBlock →
  (J.ownBlock=none∨J.ownBlock=v.ownBlock∨J.ownBlock=some w.heap.size)→∃u w'' N,(execOp a.eval ⟨some d,.call ⟨.builtin .append,#[x,y],#[T,Tn]⟩,ty,pos,af,none⟩).run P w= .ok (.value u) w''∧Sat K w'' N ∧
   ∃ A cap,u= .slice A (m+q) cap∧(A=none→m+q=0∧cap=0)∧m+q≤cap∧N=aV (.slice A (m+q) cap) E 1 (m+q) (cs++replicate q z)::H:=λJ G Kw Bu F Zb=>by
  obtain⟨A,cap,rfl,k1,_,k2⟩:=aV.shape Bu;refine⟨_,G,_,Kw,⟨X.1.grow F.os F.tape F.output F.size, ?_⟩,A,cap,Z,k2,k1,Z⟩;refine X.2.set (A':=aV (.slice A (m+q) cap) E 1 (m+q) (cs++replicate q z)) F.size (λb wE o7=>F.block b o7 (λe=>wE e.symm)) Bu (λb wE=> ?_);have oH:(Value.slice A (m+q) cap).ownBlock=some b:=wE;rcases Zb with L | L | L
  ·rw[L] at oH;cases oH
  ·exact .inl (L.symm.trans oH)
  ·rw[L] at oH;injection oH with oH
   subst oH;exact .inr ⟨Nat.le_refl _,(Bu.lt _ L).2⟩
 have Bu:w.ownsRow 0 E 1 v m cs:=X.head;have Km:=hx.ev Z ha;have Qt:=hy.ev Z ha;have JA:∀r G,(Builtin.append_ #[T,Tn] ty #[v,.int k q]).run P w= .ok r G→(execOp a.eval ⟨some d,.call ⟨.builtin .append,#[x,y],#[T,Tn]⟩,ty,pos,af,none⟩).run P w= .ok (.value r) G:=λr G I=>by
  rw[execOp_builtin,builtin_append];simp[Km,Qt,I]
 have JM:cs.length=m:=by have :=Bu.1;omega
 have aeL:(1000000000:Nat)≤maxLen:=by simp only[maxLen];decide
 have D:∀(YZ:Nat),YZ<m+q→∀(row:Option Nat),
  (w.drew.alloc (.cells ((cs++replicate q z).toArray++Builtin.zeroCells z.cells (grownCap w (m+q) YZ E-(m+q))) E)).ownsRow 0 E 1 (.slice (some ⟨w.heap.size,0,none⟩) (m+q) (grownCap w (m+q) YZ E)) (m+q) (cs++replicate q z) ∧
  w.grownBy (w.drew.alloc (.cells ((cs++replicate q z).toArray++Builtin.zeroCells z.cells (grownCap w (m+q) YZ E-(m+q))) E)) row:=by
  intro YZ ho row;have Y:=grownCap_ge w (m+q) YZ E;have Zi:grownCap w (m+q) YZ E≤maxLen:=grownCap_le_maxLen w (m+q) YZ E ay;refine⟨⟨by simp[JM],.inr ⟨w.heap.size,_,_,Z,zero_le _,heap_alloc_new w.drew _,Y,Zi, ?_, ?_⟩⟩,⟨Z,Z,Z,by simp,λk hk _=>heap_alloc_old w.drew _ hk⟩⟩
  ·simp only[Array.size_append,size_toArray,size_zeroCells,x0,length_append,length_replicate,JM,Nat.mul_one];omega
  ·have O:(m+q)*1=(cs++replicate q z).length:=by simp[JM]
   rw[O];simp only[Array.toList_append];exact take_left
 rcases Bu.2 with ⟨rfl,rfl⟩ | ⟨g,cap,B,rfl,x2,F,x3,Zi,qX,akV⟩
 ·have hx:cs=[]:=eq_nil_of_length_eq_zero JM;subst hx;by_cases hm:q=0
  ·subst hm;refine sW (.slice none 0 0) w (JA _ w ?_) (by simpa using World.ownsRow_nil w 0 E 1) ⟨Z,Z,Z,Nat.le_refl _,λ_ _ _=>Z⟩ (.inr (.inl Z));simp[Builtin.append_,run_underlying hT,run_underlying hTn,sizeOf,typeInfo,U,asInt,asIntOf,IntKind.wrap_i64,storeCells,hs]
  ·have I:=tL (P:=P) w T Tn ty E i z k kn hT hTn U hz JN hs none 0 0 q [] (by simp[Builtin.firstCells]) ay ay (by simpa using hb);have C:=D 0 ay (Value.ownBlock (.slice none 0 0));simp only[Nat.zero_add] at I C;exact sW _ _ (JA _ _ I) (by simpa using C.1) C.2 (.inr (.inr Z))
 ·by_cases wH:m+q≤cap
  ·have JQ:B.size=cap:=by omega
   have Wy:∀j (M:j<q),w.cell? ⟨g,m+j,none⟩=some (B[m+j]'ay):=λj M=>by simp[World.cell?,F,show m+j<B.size by omega]
   have I:=D9 (P:=P) w T Tn ty E i z k kn hT hTn U hz JN h1 hs g m cap q wH (λj M=>by rw[Wy j M];rfl) (λj M=>by simp[World.frozen?,F]) ay (by have :=mul_le_mul_right i.bytes (show q≤m+q by omega);omega);obtain⟨W,V,e3,e4⟩:=lC g (replicate q z) m w;have hh:=sU g E (0,0) (replicate q z) m w B.toList (by simpa using F);have RF:=mD B.toList (replicate q z) m (by simp;omega);refine sW _ _ (JA _ _ I) ⟨by simp[JM],.inr ⟨g,cap,(oU B.toList m (replicate q z)).toArray,Z,zero_le _,hh,wH,Zi, ?_, ?_⟩⟩ ⟨W,V,e3,Nat.le_of_eq e4.symm,λk hk pq=>kL g k (λe=>pq (by simp[Value.ownBlock,e])) _ _ _⟩ (.inr (.inl Z))
   ·simp[Fu];omega
   ·rw[toList_toArray] ;rw[RF,Nat.mul_one,show B.toList.take m=cs by rw[←akV,Nat.mul_one],take_left' (by simp[JM])]
  ·have S:(Builtin.firstCells 1 m (.slice (some ⟨g,0,none⟩) m cap)).run P w.drew= .ok cs.toArray w.drew:=by
    have hc:=Bu.cells (g:=g) Z;have :=run_loadCells_list (P:=P) w.drew ⟨g,0,none⟩ cs (λj v M=>hc j v M);rw[JM] at this
    simpa [Builtin.firstCells] using this
   have I:=tL (P:=P) w T Tn ty E i z k kn hT hTn U hz JN hs (some ⟨g,0,none⟩) m cap q cs S ay ay hb;have C:=D cap ay (Value.ownBlock (.slice (some ⟨g,0,none⟩) m cap));exact sW _ _ (JA _ _ I) C.1 C.2 (.inr (.inr Z))
theorem V.aoo(hx:OV c e x (.i i))(h:c=true→ -9223372036854775807≤i∧i≤9223372036854775807):eX Mo P K n c e H ⟨dst,.unOp .neg t x,ty,pos,af,gd⟩ (.i (-i)):=λb a w d _=>by
 show ((do pure (Next.value (←Op.unary .neg (a.eval x)))):Sem Next).run P w=_;rw[hx.ev b d];have l:=h b;have j:IntKind.i64.wrap (-i)= -i:=by rw[IntKind.wrap_i64];omega
 simp[Op.unary,Op.intArith,j]
end Go.Sl
