import Derived.Test.YtcedojacbhnbiaaGreatP6
set_option linter.unusedSimpArgs false
set_option linter.unusedVariables false
set_option maxHeartbeats 2000000
set_option maxRecDepth 20000
namespace Go.Proofs.YtcedojacbhnbiaaGreat
open Go.Sl Go.RowKit Tryz List Nat
structure bP where
 (f t0:Int) (g0:Bool) (t1:Int) (g1:Bool)
 deriving DecidableEq
namespace bP
abbrev v(s:bP):Value:= .agg #[.i s.f,.i s.t0,.bool s.g0,.i s.t1,.bool s.g1]
def zero:bP:=⟨0,0,false,0,false⟩
def ok(s:bP):Bool:=(decide (s.f=0)||decide (s.f=1))&&decide (0≤s.t0)&&decide (s.t0≤7)&&decide (0≤s.t1)&&decide (s.t1≤7)
def Wy(s:bP):Int:=if s.ok then 0 else 1
def Ws(s:bP)(slot:Int):Int:=if s.ok&&(decide (slot=0)||decide (slot=1)) then 0 else 1
def t(s:bP)(slot:Int):Int:=if slot=0 then s.t0 else s.t1
def g(s:bP)(slot:Int):Bool:=if slot=0 then s.g0 else s.g1
def put(s:bP)(slot first t:Int)(g:Bool):bP:=if slot=0 then ⟨first,t,g,s.t1,s.g1⟩ else ⟨first,s.t0,s.g0,t,g⟩
def may(s:bP)(slot:Int):Bool:=s.g slot||decide (0<s.t slot)
def lN(s:bP)(slot:Int):bP×Int :=
 if s.Ws slot≠0 then (zero,1) else if s.may slot then (s.put slot s.f (if s.g slot then s.t slot else s.t slot-1) (s.g slot),0) else (zero,240)
def jh(s:bP)(slot:Int):bP×Int:=if s.Ws slot≠0 then (zero,1) else (s.put slot slot 0 true,0)
def order(s:bP):List Int:=if s.ok then [s.f,1-s.f].filter s.may else []
def b01(b:Bool):Int:=if b then 1 else 0
def bytes(s:bP):List Int:=if s.ok then [115,108,111,116,s.f,s.t0,b01 s.g0,s.t1,b01 s.g1] else []
theorem UO{s:bP}{slot:Int}(h:s.Ws slot=0):s.ok=true∧(slot=0∨slot=1):=by grind [Ws]
theorem abu{s:bP}(h:s.Wy=0):s.ok=true:=by grind [Wy]
theorem ou{s:bP}(h:s.ok=true):(s.f=0∨s.f=1)∧0≤s.t0∧s.t0≤7∧0≤s.t1∧s.t1≤7:=by simp[ok] at h;omega
end bP
abbrev sl(t:Int)(g:Bool):Value:= .agg #[.i t,.bool g]
theorem zl(t:Int)(g:Bool)(K:World)(F:List aA):aL prog 128 #[sl t g] K F (.bool (g||decide (0<t))):=by
 refine aC.en func128 ntmps128 ?_;refine aj "a~~~g" fun b1=> ?_;exact aj "xpc~e~b~lJd$" trivial
theorem yj(s:bP)(K:World)(F:List aA):aL prog 127 #[s.v] K F (.i s.Wy):=by
 refine aC.en func127 ntmps127 ?_;refine aj "a&" fun b1=> ?_;refine aj "tapsc?=~~~fVk" (aX (fun aN=> ?_) fun aN=> ?_)
 ·try simp only[lX] at aN
  refine aj "I>" ?_;congr 1;unfold bP.Wy bP.ok;first | rw[if_pos (by simp;omega)] | rw[if_neg (by simp;omega)]
 ·try simp only[lX] at aN
  refine aj ")a7~~~lP~4U2Ha~~GA" fun b4=> ?_;refine aj "~6Tp5c~e~b~lJk" (aX (fun bB=> ?_) fun bB=> ?_)
  ·try simp only[lX] at bB
   refine aj "I>" ?_;congr 1;unfold bP.Wy bP.ok;first | rw[if_pos (by simp;omega)] | rw[if_neg (by simp;omega)]
  ·try simp only[lX] at bB
   refine aj "iq~F~qU2Ha~~GA" fun b4=> ?_;refine aj "~6Tp5c~e~b~lJk" (aX (fun zV=> ?_) fun zV=> ?_)
   ·try simp only[lX] at zV
    refine aj "I>" ?_;congr 1;unfold bP.Wy bP.ok;first | rw[if_pos (by simp;omega)] | rw[if_neg (by simp;omega)]
   ·try simp only[lX] at zV
    refine aj "iq~p~qUORI>" ?_;congr 1;unfold bP.Wy bP.ok;first | rw[if_pos (by simp;omega)] | rw[if_neg (by simp;omega)]
theorem RP(K:World)(F:List aA):aL prog 89 #[] K F bP.zero.v:=by
 refine aC.en func89 ntmps89 ?_;refine aj "aA" fun b0=> ?_;refine aj "T]K3" ?_;exact aG.ret (H':=F) (bI.one rfl (R1.nG (vs:=[_,_,_,_,_]) rfl ⟨isAgg58,sizeOf58⟩ rfl Bn)) gy ⟨rfl,rfl⟩
theorem Fw(s:bP)(slot:Int)(K:World)(F:List aA):aL prog 129 #[s.v,.i slot] K F (.i (s.Ws slot)):=by
 refine aC.en func129 ntmps129 ?_;refine aj "a&" fun b2=> ?_;refine aj "taG" ?_;refine WL.t1 call127 rfl (yj s _ _) rfl ?_;refine aj "jscY~~v~~j~~z~~`~~kJk" (aX (fun aN=> ?_) fun aN=> ?_)
 ·try simp only[lX] at aN
  refine aj "I>" ?_;congr 1;unfold bP.Ws;cases oK:s.ok<;>simp[bP.Wy,oK] at aN ⊢ <;>omega
 ·try simp only[lX] at aN
  refine aj "iI>" ?_;congr 1;unfold bP.Ws;cases oK:s.ok<;>simp[bP.Wy,oK] at aN ⊢ <;>omega
theorem AX(s:bP)(slot first t:Int)(g:Bool)(h:slot=0∨slot=1)(K:World)(F:List aA) :
 aL prog 130 #[s.v,.i slot,.i first,sl t g] K F (.tuple #[(s.put slot first t g).v,.i 0]):=by
 rcases h with rfl | rfl
 all_goals
  refine aC.en func130 ntmps130 ?_;refine aj "a&" fun b4=> ?_;refine aj "~~~g" fun b7=> ?_;refine aj "A" fun b8=> ?_;refine aj "t" ?_;refine WC.fE F (by kernel_rfl) ?_;refine aj "l0l1S3S5" ?_;refine WA.two (i:=2) (j:=4) gy (by kernel_rfl) rfl rfl ?_ ?_
  ·refine aj "~Pbn4~?b~~q6n7~@bMaGKd" ?_;exact aG.ret (H':=F) (FR rfl rfl ⟨isAgg58,sizeOf58⟩ rfl) gy ⟨rfl,rfl⟩
  ·refine aj "~?bn2~Pb~~q6n7~@bMaGKd" ?_;exact aG.ret (H':=F) (FR rfl rfl ⟨isAgg58,sizeOf58⟩ rfl) gy ⟨rfl,rfl⟩
theorem X0(s:bP)(slot:Int)(K:World)(F:List aA):aL prog 68 #[s.v,.i slot] K F (.tuple #[(s.lN slot).1.v,.i (s.lN slot).2]):=by
 refine aC.en func68 ntmps68 ?_;refine aj "a&" fun b2=> ?_;refine aj "A" fun b4=> ?_;refine aj "taGc" ?_;refine WL.t2 call129 rfl rfl (Fw s slot _ _) rfl ?_;refine aj "jsb~d" (aX (fun aN=> ?_) fun aN=> ?_)
 ·have e1:s.lN slot=(bP.zero,1):=by unfold bP.lN;rw[if_pos aN]
  have e2:s.Ws slot=1:=by unfold bP.Ws at aN ⊢;split<;>simp_all
  refine aj "a]cKd" ?_;refine aG.ret (H':=F) (FR rfl rfl ⟨isAgg58,sizeOf58⟩ rfl) gy ⟨?_,rfl⟩;rw[e1,e2];rfl
 ·obtain⟨oK,rQ⟩:=bP.UO aN;have hs:=bP.ou oK;have e1:s.lN slot=if s.may slot then (s.put slot s.f (if s.g slot then s.t slot else s.t slot-1) (s.g slot),0) else (bP.zero,240):=by unfold bP.lN;rw[if_neg (by simp[aN])]
  rcases rQ with rfl | rfl
  all_goals
   refine aj "Z7~n~PA" fun b7=> ?_;refine aj "~6Bua~P" ?_;refine WL.t1 call128 rfl (zl _ _ _ _) rfl ?_;refine aj "*gE" (aX (fun aR=> ?_) fun aR=> ?_)
   ·simp only[KD] at aR;refine aj "a]Kd" ?_;refine aG.ret (H':=F) (FR rfl rfl ⟨isAgg58,sizeOf58⟩ rfl) gy ⟨?_,rfl⟩;rw[e1];simp[*,bP.may,bP.g,bP.t,bP.put,bP.zero]
   ·simp only[KD] at aR;refine aj "ap*gE" (aX (fun bB=> ?_) fun bB=> ?_)
    ·simp only[KD] at bB;simp[bB] at aR;refine aj "qp(7~~~pTGcp~P" ?_;refine WL.t4 call130 rfl rfl rfl rfl (AX s _ _ _ _ (by simp) _ _) rfl ?_;refine aj "~ZKd" ?_;refine aG.ret (H':=F) (FR rfl rfl ⟨isAgg58,sizeOf58⟩ rfl) gy ⟨?_,rfl⟩;rw[e1];simp[*,bP.may,bP.g,bP.t,bP.put,bP.zero]
    ·simp only[KD] at bB;refine aj "iaGcp~P" ?_;refine WL.t4 call130 rfl rfl rfl rfl (AX s _ _ _ _ (by simp) _ _) rfl ?_;refine aj "~ZKd" ?_;refine aG.ret (H':=F) (FR rfl rfl ⟨isAgg58,sizeOf58⟩ rfl) gy ⟨?_,rfl⟩;rw[e1];simp[*,bP.may,bP.g,bP.t,bP.put,bP.zero]
theorem KC(s:bP)(slot:Int)(K:World)(F:List aA):aL prog 94 #[s.v,.i slot] K F (.tuple #[(s.jh slot).1.v,.i (s.jh slot).2]):=by
 refine aC.en func94 ntmps94 ?_;refine aj "a&" fun b2=> ?_;refine aj "A" fun b4=> ?_;refine aj "taGc" ?_;refine WL.t2 call129 rfl rfl (Fw s slot _ _) rfl ?_;refine aj "jsb~d" (aX (fun aN=> ?_) fun aN=> ?_)
 ·have e2:s.Ws slot=1:=by unfold bP.Ws at aN ⊢;split<;>simp_all
  refine aj "a]cKd" ?_;refine aG.ret (H':=F) (FR rfl rfl ⟨isAgg58,sizeOf58⟩ rfl) gy ⟨?_,rfl⟩;unfold bP.jh;rw[if_pos aN,e2];rfl
 ·obtain⟨oK,rQ⟩:=bP.UO aN;refine aj "iaGz" ?_;refine WL.val (V.build (vs:=[(1,_)]) ⟨ak rfl,trivial⟩ rfl (adS _)) rfl (WL.t4 call130 rfl rfl rfl rfl (AX s _ _ _ _ rQ _ _) rfl ?_);refine aj "~ZKd" ?_;refine aG.ret (H':=F) (FR rfl rfl ⟨isAgg58,sizeOf58⟩ rfl) gy ⟨?_,rfl⟩;unfold bP.jh;rw[if_neg (by simp[aN])]
theorem Fy(s:bP)(K:World)(F:List aA):aC prog 67 #[s.v] K F (fun v H'=>∃A cap,v= .tuple #[.slice A s.order.length cap,.i s.Wy]∧H'=bq (.slice A s.order.length cap) 3 1 s.order.length (ints .i64 s.order)::F):=by
 obtain⟨f,t0,g0,t1,g1⟩:=s;dsimp only[bP.v];refine aC.en func67 ntmps67 ?_;refine aj "a&" fun b1=> ?_;refine aj "mtaG" ?_;refine WL.t1 call127 rfl (yj ⟨_,_,_,_,_⟩ _ _) rfl ?_;refine aj "jsk" (aX (fun aN=> ?_) fun aN=> ?_)
 ·simp only[lX] at aN;refine aj "eD" ?_;refine aG.ret (H':=bq (.slice none 0 0) 3 1 0 []::F) (bI.eY rfl rfl rfl) (fun w h=>Sat.iG (by revert h;exact fun h=>by repeat (first | exact h | replace h:=h.tail)) _ _) ⟨none,0, ?_⟩;have e1:(bP.mk f t0 g0 t1 g1).order=[]:=by unfold bP.order;rw[if_neg (by intro h;apply aN;unfold bP.Wy;rw[if_pos h])]
  rw[e1];exact⟨rfl,rfl⟩
 ·simp only[lX] at aN;have oK:=bP.abu aN;have hf:=(bP.ou oK).1;have e1:(bP.mk f t0 g0 t1 g1).order=[f,1-f].filter (bP.mk f t0 g0 t1 g1).may:=by unfold bP.order;rw[if_pos oK]
  dsimp only at hf;rcases hf with rfl | rfl
  all_goals
   refine aj ")" ?_;refine WC.sub (Sub.refl _) (fun w h=>h.iG 3 1) ?_;refine aj "qtapp(" ?_;refine WL.val (V.build (vs:=[(0,_),(1,_)]) ⟨ak rfl,ak rfl,trivial⟩ rfl (UM _ _)) rfl (aj "P~4U2Ha~~(j7~n~P" ?_);refine WL.t1 call128 rfl (zl _ _ _ _) rfl ?_;refine aj "k" (aX (fun bB=> ?_) fun bB=> ?_)
   ·refine aj "Q" ?_;refine WL.buildSlice (E:=3) (cs:=[_]) (vs:=[(0,_)]) ⟨ak rfl,trivial⟩ rfl (eO _) rfl (fun VQ=> ?_);refine aj "|" ?_;refine WL.append underlying124 Td (ak rfl) (ak rfl) (by repeat (first | exact Seq.all rfl | apply Seq.up)) (by simp[Value.oneCell']) (by first | omega | (simp;omega)) rfl rfl (fun A30 c30 ahF agN=> ?_);refine aj "gq~F~qU2Ha~~(j7~n~P" ?_;refine WL.t1 call128 rfl (zl _ _ _ _) rfl ?_;refine aj "k" (aX (fun zV=> ?_) fun zV=> ?_)
    ·refine aj "Q" ?_;refine WL.buildSlice (E:=3) (cs:=[_]) (vs:=[(0,_)]) ⟨ak rfl,trivial⟩ rfl (eO _) rfl (fun VQ=> ?_);refine aj "|" ?_;refine WL.append underlying124 Td (ak rfl) (ak rfl) (by repeat (first | exact Seq.all rfl | apply Seq.up)) (by simp[Value.oneCell']) (by first | omega | (simp;omega)) rfl rfl (fun A30 c30 ahF agN=> ?_);refine aj "gq~p~qUOReD" ?_;simp only[filter,bP.may,bP.g,bP.t,Int.reduceSub,Int.reduceEq,↓reduceIte, *] at e1;exact aG.ret (H':=bq _ 3 1 _ _::F) (bI.eY rfl rfl rfl) (fun w h=>by repeat (first | exact h | replace h:=h.DT)) ⟨_,_,by rw[e1,aN];rfl,by rw[e1];rfl⟩
    ·refine aj "iq~p~qUOReD" ?_;simp only[filter,bP.may,bP.g,bP.t,Int.reduceSub,Int.reduceEq,↓reduceIte, *] at e1;exact aG.ret (H':=bq _ 3 1 _ _::F) (bI.eY rfl rfl rfl) (fun w h=>by repeat (first | exact h | replace h:=h.DT)) ⟨_,_,by rw[e1,aN];rfl,by rw[e1];rfl⟩
   ·refine aj "iq~F~qU2Ha~~(j7~n~P" ?_;refine WL.t1 call128 rfl (zl _ _ _ _) rfl ?_;refine aj "k" (aX (fun zV=> ?_) fun zV=> ?_)
    ·refine aj "Q" ?_;refine WL.buildSlice (E:=3) (cs:=[_]) (vs:=[(0,_)]) ⟨ak rfl,trivial⟩ rfl (eO _) rfl (fun VQ=> ?_);refine aj "|" ?_;refine WL.append underlying124 Td (ak rfl) (ak rfl) (by repeat (first | exact Seq.all rfl | apply Seq.up)) (by simp[Value.oneCell']) (by first | omega | (simp;omega)) rfl rfl (fun A30 c30 ahF agN=> ?_);refine aj "gq~p~qUOReD" ?_;simp only[filter,bP.may,bP.g,bP.t,Int.reduceSub,Int.reduceEq,↓reduceIte, *] at e1;exact aG.ret (H':=bq _ 3 1 _ _::F) (bI.eY rfl rfl rfl) (fun w h=>by repeat (first | exact h | replace h:=h.DT)) ⟨_,_,by rw[e1,aN];rfl,by rw[e1];rfl⟩
    ·refine aj "iq~p~qUOReD" ?_;simp only[filter,bP.may,bP.g,bP.t,Int.reduceSub,Int.reduceEq,↓reduceIte, *] at e1;exact aG.ret (H':=bq _ 3 1 _ _::F) (bI.eY rfl rfl rfl) (fun w h=>by repeat (first | exact h | replace h:=h.DT)) ⟨_,_,by rw[e1,aN];rfl,by rw[e1];rfl⟩
theorem wrap_u8{i:Int}(h:0≤i∧i<256):IntKind.u8.wrap i=i:=by grind [IntKind.wrap,IntKind.signed,IntKind.bits]
theorem FH(s:bP)(K:World)(F:List aA):aC prog 131 #[s.v] K F (fun v H'=>(s.ok=true∧∃b,v= .tuple #[.slice (some ⟨b,0,none⟩) 9 9,.i 0]∧H'=ah b 5 (ints .u8 s.bytes)::F)∨(s.ok=false∧v= .tuple #[.slice none 0 0,.i 1]∧H'=F)):=by
 obtain⟨f,t0,g0,t1,g1⟩:=s;dsimp only[bP.v];refine aC.en func131 ntmps131 ?_;refine aj "a&" fun b1=> ?_;refine aj "mtaG" ?_;refine WL.t1 call127 rfl (yj ⟨_,_,_,_,_⟩ _ _) rfl ?_;refine aj "jsk" (aX (fun aN=> ?_) fun aN=> ?_)
 ·simp only[lX] at aN;refine aj "eD" ?_;have e1:(bP.mk f t0 g0 t1 g1).ok=false:=by
   cases h:(bP.mk f t0 g0 t1 g1).ok with
   | false=>rfl
   | true=>exact (aN (by unfold bP.Wy;rw[if_pos h])).elim
  exact aG.ret (H':=F) (bI.eY rfl rfl rfl) gy (.inr ⟨e1,by unfold bP.Wy;rw[if_neg (by simp[e1])],rfl⟩)
 ·simp only[lX] at aN;have oK:=bP.abu aN;have hs:=bP.ou oK;dsimp only at hs;refine aj "ia" ?_;refine WL.ag3 9 (cs:=[_,_,_,_,_,_,_,_,_]) underlying34 zo (ak rfl) (ak rfl) rfl rfl ay rfl rfl rfl rfl (fun b13=> ?_);refine aj "j" ?_;refine WL.ad4 (news:=[_,_,_,_]) eu (ak rfl) rfl rfl (by repeat (first | exact dw.here (cs':=[_,_,_,_,_,_,_,_,_]) rfl rfl | apply dw.up)) rfl ?_;refine aj "bep~r~z~~dBa7~~~lP~4U21~~GA" fun b7=> ?_;refine aj "m~6bec" ?_;refine WL.val (V.aI (v':= .i (0)) (V.mul (ak rfl) (ak rfl)) (fun _=>rfl)) rfl ?_;refine WL.val (V.aI (v':= .i (5)) (V.add (ak rfl) (ak rfl)) (fun _=>rfl)) rfl ?_;refine aj "p~r~z~~dTpk" (aX (fun bB=> ?_) fun bB=> ?_)
  ·try simp only[lX] at bB
   refine aj "Q" ?_;refine WL.val (V.aI (v':= .i (0)) (V.mul (ak rfl) (ak rfl)) (fun _=>rfl)) rfl ?_;refine WL.val (V.aI (v':= .i (6)) (V.add (ak rfl) (ak rfl)) (fun _=>rfl)) rfl ?_;refine aj "~z~~dbq~F~qU21~~GA" fun b7=> ?_;refine aj "m~6bec~~U" ?_;refine WL.val (V.aI (v':= .i (7)) (V.add (ak rfl) (ak rfl)) (fun _=>rfl)) rfl ?_;refine aj "p~r~z~~dTpk" (aX (fun zV=> ?_) fun zV=> ?_)
   ·try simp only[lX] at zV
    refine aj "Q~~U" ?_;refine WL.val (V.aI (v':= .i (8)) (V.add (ak rfl) (ak rfl)) (fun _=>rfl)) rfl ?_;refine aj "~z~~dbq~p~qUOReD" ?_;refine aG.ret (H':=ah b13 _ (ints .u8 (bP.mk f t0 g0 t1 g1).bytes)::F) (bI.eY rfl rfl rfl) (fun w h=> ?_) (.inl ⟨oK,b13,rfl,rfl⟩);replace h:=h.tail.tail.DT;refine Sat.aS h ?_;rw[wrap_u8 ay,wrap_u8 ay,wrap_u8 ay];unfold bP.bytes;rw[if_pos oK];simp[pU,ints,bP.b01, *]
   ·try simp only[lX] at zV
    refine aj "iq~p~qUOReD" ?_;refine aG.ret (H':=ah b13 _ (ints .u8 (bP.mk f t0 g0 t1 g1).bytes)::F) (bI.eY rfl rfl rfl) (fun w h=> ?_) (.inl ⟨oK,b13,rfl,rfl⟩);replace h:=h.tail.tail.DT;refine Sat.aS h ?_;rw[wrap_u8 ay,wrap_u8 ay,wrap_u8 ay];unfold bP.bytes;rw[if_pos oK];simp[pU,ints,bP.b01, *]
  ·try simp only[lX] at bB
   refine aj "iq~F~qU21~~GA" fun b7=> ?_;refine aj "m~6bec~~U" ?_;refine WL.val (V.aI (v':= .i (7)) (V.add (ak rfl) (ak rfl)) (fun _=>rfl)) rfl ?_;refine aj "p~r~z~~dTpk" (aX (fun zV=> ?_) fun zV=> ?_)
   ·try simp only[lX] at zV
    refine aj "Q~~U" ?_;refine WL.val (V.aI (v':= .i (8)) (V.add (ak rfl) (ak rfl)) (fun _=>rfl)) rfl ?_;refine aj "~z~~dbq~p~qUOReD" ?_;refine aG.ret (H':=ah b13 _ (ints .u8 (bP.mk f t0 g0 t1 g1).bytes)::F) (bI.eY rfl rfl rfl) (fun w h=> ?_) (.inl ⟨oK,b13,rfl,rfl⟩);replace h:=h.tail.tail.DT;refine Sat.aS h ?_;rw[wrap_u8 ay,wrap_u8 ay,wrap_u8 ay];unfold bP.bytes;rw[if_pos oK];simp[pU,ints,bP.b01, *]
   ·try simp only[lX] at zV
    refine aj "iq~p~qUOReD" ?_;refine aG.ret (H':=ah b13 _ (ints .u8 (bP.mk f t0 g0 t1 g1).bytes)::F) (bI.eY rfl rfl rfl) (fun w h=> ?_) (.inl ⟨oK,b13,rfl,rfl⟩);replace h:=h.tail.tail.DT;refine Sat.aS h ?_;rw[wrap_u8 ay,wrap_u8 ay,wrap_u8 ay];unfold bP.bytes;rw[if_pos oK];simp[pU,ints,bP.b01, *]
namespace bP
def of(xs:List Int):bP:=⟨xs.getD 4 0,xs.getD 5 0,decide (xs.getD 6 0=1),xs.getD 7 0,decide (xs.getD 8 0=1)⟩
theorem kQ{s:bP}(h:s.ok=true):s.bytes.length=9:=by unfold bytes;rw[if_pos h];rfl
theorem qO{s:bP}(h:s.ok=true):bQ s.bytes:=by
 have hs:=ou h;unfold bytes;rw[if_pos h];have hb:∀b,0≤b01 b∧b01 b<256:=fun b=>by cases b<;>simp[b01]
 have h0:=hb s.g0;have h1:=hb s.g1;intro x hx;simp only[mem_cons,not_mem_nil,or_false] at hx;omega
def iF(xs:List Int):Bool:=decide (xs.length=9)&&(of xs).ok&&decide ((of xs).bytes=xs)
def parse(xs:List Int):bP×Int:=if iF xs then (of xs,0) else (zero,4)
end bP
theorem PN{A:Option Addr}{m cap:Nat}{xs:List Int}(hx:bQ xs)(K:World)(F:List aA)(hs:Seq K F A m 1 (ints .u8 xs)) :
 aL prog 88 #[.slice A m cap] K F (.tuple #[(bP.parse xs).1.v,.i (bP.parse xs).2]):=by
 have hl:xs.length=m:=by simpa [ints] using hs.len
 refine aC.en func88 ntmps88 ?_;refine aj "aA" fun b2=> ?_;refine aj "fosk" (aX (fun aN=> ?_) fun aN=> ?_)
 ·simp only[lX] at aN;refine aj "a]Kd" ?_;refine aG.ret (H':=F) (FR rfl rfl ⟨isAgg58,sizeOf58⟩ rfl) gy ⟨?_,rfl⟩;unfold bP.parse;rw[if_neg (by simp[bP.iF];omega)];rfl
 ·simp only[lX] at aN;obtain rfl:m=9:=by omega
  refine aj ")~Tl0" ?_;refine WA.t 1 rfl (V.eD eu (ak rfl) (ak rfl) Yc (fun hc=>by repeat (first | exact Seq.jk hs (by first | omega | (simp at hc;omega)) | apply Rd.up))) ?_;refine WA.t 2 rfl (V.load isAgg5 (ak rfl) (fun hc=>by repeat (first | exact Seq.jk hs (by first | omega | (simp at hc;omega)) | apply Rd.up))) ?_;refine WA.t 3 rfl (V.Ip runUnderlying5 runUnderlying3 (ak rfl) (fun _=>wrap_i64 (bQ.wide hx _))) ?_;refine aj "l4" ?_;refine WA.t 5 rfl (V.eD eu (ak rfl) (ak rfl) Yc (fun hc=>by repeat (first | exact Seq.jk hs (by first | omega | (simp at hc;omega)) | apply Rd.up))) ?_;refine WA.t 6 rfl (V.load isAgg5 (ak rfl) (fun hc=>by repeat (first | exact Seq.jk hs (by first | omega | (simp at hc;omega)) | apply Rd.up))) ?_;refine WA.t 7 rfl (V.Ip runUnderlying5 runUnderlying3 (ak rfl) (fun _=>wrap_i64 (bQ.wide hx _))) ?_;refine aj "l8" ?_;refine WA.t 9 rfl (V.eD eu (ak rfl) (ak rfl) Yc (fun hc=>by repeat (first | exact Seq.jk hs (by first | omega | (simp at hc;omega)) | apply Rd.up))) ?_;refine WA.t 10 rfl (V.load isAgg5 (ak rfl) (fun hc=>by repeat (first | exact Seq.jk hs (by first | omega | (simp at hc;omega)) | apply Rd.up))) ?_;refine aj "~~r;" ?_;refine WA.t 12 rfl (V.build (vs:=[(0,_),(1,_)]) ⟨ak rfl,ak rfl,trivial⟩ rfl (Lj _ _)) ?_;refine aj "l=" ?_;refine WA.t 14 rfl (V.eD eu (ak rfl) (ak rfl) Yc (fun hc=>by repeat (first | exact Seq.jk hs (by first | omega | (simp at hc;omega)) | apply Rd.up))) ?_;refine WA.t 15 rfl (V.load isAgg5 (ak rfl) (fun hc=>by repeat (first | exact Seq.jk hs (by first | omega | (simp at hc;omega)) | apply Rd.up))) ?_;refine WA.t 16 rfl (V.Ip runUnderlying5 runUnderlying3 (ak rfl) (fun _=>wrap_i64 (bQ.wide hx _))) ?_;refine aj "lA" ?_;refine WA.t 18 rfl (V.eD eu (ak rfl) (ak rfl) Yc (fun hc=>by repeat (first | exact Seq.jk hs (by first | omega | (simp at hc;omega)) | apply Rd.up))) ?_;refine WA.t 19 rfl (V.load isAgg5 (ak rfl) (fun hc=>by repeat (first | exact Seq.jk hs (by first | omega | (simp at hc;omega)) | apply Rd.up))) ?_;refine aj "~~rD" ?_;refine WA.t 21 rfl (V.build (vs:=[(0,_),(1,_)]) ⟨ak rfl,ak rfl,trivial⟩ rfl (Lj _ _)) ?_;refine WA.t 22 rfl (V.build (vs:=[(0,_),(1,_)]) ⟨ak rfl,ak rfl,trivial⟩ rfl (Zk _ _ _ _)) ?_;refine WA.t 23 rfl (V.build (vs:=[(0,_),(1,_)]) ⟨ak rfl,ak rfl,trivial⟩ rfl (XM _ _ _ _ _)) ?_;refine aj "nHA" fun b4=> ?_;refine aj "bnIKbMNaG" ?_;refine WL.c1 call131 rfl (FH (bP.of xs) _ _) rfl ?_;rintro v H' (⟨oK,bb,rfl,rfl⟩ | ⟨oK,rfl,rfl⟩);all_goals
   refine aj "CjscY" ?_;refine WL.bG (oj:=_) rfl rfl rfl GC.f (V.ug underlying34 underlying5 underlying9 (OV.g rfl id) (fun hc=>by first | exact Seq.agw | exact Seq.allI (bP.kQ oK))) rfl ?_;refine aj "Y" ?_;refine WL.bG (oj:=_) rfl rfl rfl GC.f (V.ug underlying34 underlying5 underlying9 (OV.g rfl id) (fun hc=>by repeat (first | exact Seq.agw | exact Seq.allI (by simp) | assumption | apply Seq.up))) rfl ?_;refine WL.bG (oj:=_) rfl rfl rfl GC.f (V.ag4 (OV.g rfl id) (OV.g rfl id)) rfl ?_;refine aj "Jk" (aX (fun aR=> ?_) fun aR=> ?_)
   ·have hng:bP.iF xs=false:=by first | (simp[bP.iF,oK];done) | (rw[OW (bP.qO oK) hx] at aR;simp at aR;simp[bP.iF,aR])
    refine aj "a]Kd" ?_;refine aG.ret (H':=F) (FR rfl rfl ⟨isAgg58,sizeOf58⟩ rfl) gy ⟨?_,rfl⟩;unfold bP.parse;rw[if_neg (by simp[hng])];rfl
   ·have hg:bP.iF xs=true:=by first | (exfalso;revert aR;simp;done) | (rw[OW (bP.qO oK) hx] at aR;simp at aR;simp[bP.iF,oK,hl,aR])
    refine aj "iaGKd" ?_;refine aG.ret (H':=F) (FR rfl rfl ⟨isAgg58,sizeOf58⟩ rfl) gy ⟨?_,rfl⟩;unfold bP.parse;rw[if_pos hg];rfl
theorem abh{K:World}{F:List aA}{A:Option Addr}{m cap:Nat}{l:List Fd}(hm:l.length=m)(h0:0<m):∀w,Sat K w (bq (.slice A m cap) 237 5 m (dD l)::F)→Sat K w (bq (.slice A (m-1) cap) 237 5 (m-1) (dD l.dropLast)::F):=fun w h=>by
 cases A with
 | none=>have :=(bq.F7 h).1;omega
 | some a =>
  obtain⟨g,rfl⟩:=bq.addr h;obtain⟨r,⟨h1,h2,h3,h4⟩,h5⟩:=Sat.rY h;have h6:=Sat.Nq (m:=m-1) (cap:=cap) (s:=5) h5 h1 ay h4;have nk:l≠[]:=fun e=>by rw[e] at hm;simp at hm;omega
  have e1:dD l=dD l.dropLast++(l.getLast nk).cells:=by
   conv=>lhs;rw[←dropLast_concat_getLast nk]
   exact mh _ _
  have e2:(dD l++r).take ((m-1)*5)=dD l.dropLast:=by
   rw[e1,append_assoc,take_left'];rw[gM,length_dropLast,hm]
  rw[e2] at h6;exact h6
section
variable{K:World}{F:List aA}
theorem Ng{aJ n cap:Nat}{A:Option Addr}{fs:List Fd}(hl:1≤aJ∧aJ≤64)(hs:Seq K F A n 5 (dD fs))(hn:fs.length=n)(h20:n<20) :
 aC prog 102 #[.i (aJ:Int),.slice A n cap] K F
  (fun v H'=>∃b8:Nat,∃fQ:List bV,fQ.length=aJ∧fQ.map bV.l=rE aJ fs∧v= .tuple #[.slice (some ⟨b8,0,none⟩) aJ aJ,.i 0]∧H'=ah b8 124 (fQ.map bV.v)::bN (fQ.map bV.row)::F):=by
 obtain⟨st,dJ⟩:∃st,st=rE aJ fs:=⟨_,rfl⟩;have qP:st.length=aJ:=by rw[dJ];exact tq _ _
 rw[←dJ];refine aC.en func102 ntmps102 ?_;refine aj "am0" ?_;refine WL.c3 call163 rfl rfl rfl (Od wX hl hs hn h20) rfl ?_;rintro _ _ ⟨bo,rs,nW,wV,rfl,rfl⟩;have hpr:∀j r,rs[j]? =some r→st.getD j []=(eT (jZ aaK) r.l.dropLast).map Fd.block∧j<aJ∧r.l.length≤19:=fun j r hj=>by
  have h1:(rs.map bR.l)[j]? =some r.l:=by rw[getElem?_map,hj];rfl
  have zU:j<aJ:=by rw[←nW];exact (List.getElem?_eq_some_iff.1 hj).1
  rw[wV] at h1;simp only[getElem?_map,jm,getElem?_range zU,Option.map_some] at h1;injection h1 with h1
  refine⟨?_,zU, ?_⟩
  ·rw[dJ];unfold rE;simp only[getD,getElem?_map,jm,getElem?_range zU,Option.map_some,Option.getD_some];rw[h1]
  ·rw[←h1,iO];exact Nat.le_trans (length_filter_le _ _) ay
 refine aj "CfsbOZ" ?_;refine WL.sK (m:=aJ) underlying125 akQ (ak rfl) (ak rfl) rfl rfl ay rfl rfl rfl (fun b8=> ?_);refine aj "foP" ?_;refine WC.loop (σ:=Nat×List bV) (fun s=>[(8,.slice (some ⟨b8,0,none⟩) aJ aJ),(24,.slice (some ⟨bo,0,none⟩) aJ aJ),(25,.i (aJ:Int)),(26,.i (s.1:Int))]) (fun s=>ah b8 124 (s.2.map bV.v)::bN (s.2.map bV.row)::ah bo 170 (rs.map bR.v)::bN ((rs.drop s.1).map bR.row)::F) (fun s=>s.1≤aJ∧s.2.length=aJ∧s.2.map bV.l=st.take s.1++replicate (aJ-s.1) []) (fun s=>aJ-s.1) (0,replicate aJ ir0) ⟨zero_le _,length_replicate,by
  rw[map_replicate];rfl⟩ bM (fun w h=>by
  dsimp only;rw[map_replicate,map_replicate];have key:∀m,∀H,Sat K w H→Sat K w (replicate m ir0.row++H):=fun m=>by
   induction m with
   | zero=>intro H h;exact h
   | succ m ih=>intro H h;exact Sat.iG (ih H h) _ _
  have h1:Sat K w (replicate aJ ir0.row++(ah b8 124 (replicate aJ ir0.v)::ah bo 170 (rs.map bR.v)::bN (rs.map bR.row)::F)):=key aJ _ h;exact (Sat.all h1).p1) ?_
 rintro⟨j,fQ⟩ ⟨hj,Gb,Zv⟩;dsimp only at hj Gb Zv ⊢;refine aj "UX" (aX (fun aR=> ?_) fun aR=> ?_)
 ·have zU:j<aJ:=ay;obtain⟨r,hr⟩:∃r,r=rs[j]'ay:=⟨_,rfl⟩;have Te:rs[j]? =some r:=by rw[hr];exact getElem?_eq_getElem ay
  obtain⟨hpv,_,am7⟩:=hpr j r Te;have hvg:(rs.map bR.v)[0+((j:Nat):Int).toNat*1]? =some r.v:=by rw[show 0+((j:Nat):Int).toNat*1=j by omega,getElem?_map,Te];rfl
  have Gd:rs.drop j=r::rs.drop (j+1):=by rw[hr];exact drop_eq_getElem_cons ay
  have AP:st.take (j+1)=st.take j++[st.getD j []]:=by rw[take_add_one,getElem?_eq_getElem ay];simp[getD,show j<st.length by omega]
  have afd:replicate (aJ-j) ([]:List Int)=[]::replicate (aJ-(j+1)) []:=by rw[show aJ-j=(aJ-(j+1))+1 by omega,replicate_succ]
  have aen:(st.take j).length=j:=by rw[length_take];omega
  refine aj "1~v" ?_;refine WL.val (V.load isAgg170 (ak rfl) (fun _=>by repeat (first | exact Rd.here hvg | apply Rd.up))) rfl ?_;refine aj "mfo%bX" (aX (fun bB=> ?_) fun bB=> ?_)
  ·have h2:=bB;have SE:r.l=[]:=eq_nil_of_length_eq_zero ay;have hsj:st.getD j []=[]:=by rw[hpv,SE];rfl
   refine aj "R6" ?_;first
   | (
    refine⟨(j+1,FM),⟨zU,Hf, ?_⟩,(by show aJ-(j+1)<aJ-j;omega),.cons rfl (.cons rfl (.cons rfl (.cons (look_eq rfl (by simp)) (.nil _)))),fun w h=>h.aY 1 [] rfl⟩;obtain rfl:k=r.l.length-1:=by omega
    show FM.map bV.l=_;rw[ZF,AP,hsj,take_of_length_le (l:=ll) ay,append_assoc];rfl)
   | (
    refine⟨(j+1,fQ),⟨zU,Gb, ?_⟩,(by show aJ-(j+1)<aJ-j;omega),.cons rfl (.cons rfl (.cons rfl (.cons (look_eq rfl (by simp)) (.nil _)))),fun w h=> ?_⟩
    ·show fQ.map bV.l=_;rw[Zv,AP,hsj,afd,append_assoc];rfl
    ·rw[Gd,map_cons] at h;have h4:=Sat.Gc (k:=0) (by simp) (h.aY 4 [3,0,1,2] rfl);have h5:Sat K w (r.row::bN ((rs.drop (j+1)).map bR.row)::ah b8 124 (fQ.map bV.v)::bN (fQ.map bV.row)::ah bo 170 (rs.map bR.v)::F):=h4;exact h5.aY 5 [2,3,4,1] rfl)
  ·have h2:=bB;have afE:0<r.l.length:=ay;obtain⟨ll,hll⟩:∃ll,ll=eT (jZ aaK) r.l.dropLast:=⟨_,rfl⟩;have anA:ll.length=r.l.length-1:=by rw[hll,iO,length_dropLast]
   have hsj:st.getD j []=ll.map Fd.block:=by rw[hpv,hll]
   refine WC.sub (H':=bq (.slice r.A (r.l.length-1) r.c) 237 5 (r.l.length-1) (dD r.l.dropLast)::ah b8 124 (fQ.map bV.v)::bN (fQ.map bV.row)::ah bo 170 (rs.map bR.v)::bN ((rs.drop (j+1)).map bR.row)::F) (Sub.refl _) (fun w h=>by
    rw[Gd,map_cons] at h;have h4:=Sat.Gc (k:=0) (by simp) (h.aY 4 [3,0,1,2] rfl);have h5:Sat K w (r.row::bN ((rs.drop (j+1)).map bR.row)::ah b8 124 (fQ.map bV.v)::bN (fQ.map bV.row)::ah bo 170 (rs.map bR.v)::F):=h4;exact (abh (l:=r.l) rfl afE w h5).aY 5 [0,2,3,4,1] rfl) ?_
   refine aj ")" ?_;refine WC.nQ (p:=r.l.length-1≤r.c) (fun w h=>by
    obtain⟨_,cap',hv,hle,_⟩:=bq.shape h.head;injection hv with _ _ e3
    rw[e3];exact hle) (fun Ka=> ?_)
   refine aj "Qo(" ?_;refine WL.val (V.aI (v':= .slice r.A (r.l.length-1) r.c) (V.slice (l:=0) (h:=r.l.length-1) (u:=r.c) Aa (ak rfl) OO.none (OO.some (ak rfl) (fun _=>by omega)) OO.none (by simp) (zero_le _) Ka (Nat.le_refl _)) (fun _=>by rw[Nat.sub_zero,Nat.sub_zero,zQ])) rfl ?_;refine aj "j" ?_;refine WL.c2 call168 rfl rfl (Ba X3 (by rw[length_dropLast]) ay) rfl ?_;rintro v0 H0 h0;refine WL.sub (H':=bq (.slice r.A (r.l.length-1) r.c) 237 5 (r.l.length-1) (dD ll)::ah b8 124 (fQ.map bV.v)::bN (fQ.map bV.row)::ah bo 170 (rs.map bR.v)::bN ((rs.drop (j+1)).map bR.row)::F) (Sub.refl _) (fun w h=>by rw[hll];exact h0 w h) ?_;refine aj "B" ?_;have hnj:(fQ.map bV.l)[j]? =some []:=by rw[Zv,getElem?_append_right ay,aen,Nat.sub_self,afd];rfl
   have anT:∀ {X:List aA} (k:Nat) (x:Fd),ll[k]? =some x→∀i v,x.cells[i]? =some v→Rd K (bq (.slice r.A (r.l.length-1) r.c) 237 5 (r.l.length-1) (dD ll)::X) (r.A.map (·.add (k*5+i))) v:=fun {X} k x hk i v hi=>by
    have h9:Seq K (bq (.slice r.A (r.l.length-1) r.c) 237 5 (r.l.length-1) (dD ll)::X) r.A (r.l.length-1) 5 (dD ll):=bq.seq (by rw[gM,anA]);exact Dr h9 hk hi
   refine aj "hoP" ?_;refine WC.loop (σ:=Nat×List bV) (fun s=>[(8,.slice (some ⟨b8,0,none⟩) aJ aJ),(9,.i (j:Int)),(24,.slice (some ⟨bo,0,none⟩) aJ aJ),(25,.i (aJ:Int)),(26,.i (j:Int)),(41,.slice r.A (r.l.length-1) r.c),(42,.i ((r.l.length-1:Nat):Int)),(43,.i (s.1:Int))]) (fun s=>bq (.slice r.A (r.l.length-1) r.c) 237 5 (r.l.length-1) (dD ll)::ah b8 124 (s.2.map bV.v)::bN (s.2.map bV.row)::ah bo 170 (rs.map bR.v)::bN ((rs.drop (j+1)).map bR.row)::F) (fun s=>s.1≤r.l.length-1∧s.2.length=aJ∧s.2.map bV.l=st.take j++((ll.take s.1).map Fd.block::replicate (aJ-(j+1)) [])) (fun s=>r.l.length-1-s.1) (0,fQ) ⟨zero_le _,Gb,by rw[Zv,afd];rfl⟩ bM cu ?_;rintro⟨k,FM⟩ ⟨hk,Hf,ZF⟩;dsimp only at hk Hf ZF ⊢;refine aj "UX" (aX (fun eF=> ?_) fun eF=> ?_)
   ·have wR:k<r.l.length-1:=ay;obtain⟨x,hx⟩:∃x,ll[k]? =some x:=⟨_,getElem?_eq_getElem ay⟩;have hxr:=fun {X:List aA} i v hi=>anT (X:=X) k x hx i v hi;have Pn:(k:Int).toNat=k:=ay;have hlk:ll.take (k+1)=ll.take k++[x]:=by rw[take_add_one,hx];rfl
    obtain⟨q,hq⟩:∃q,q=FM[j]'ay:=⟨_,rfl⟩;have hqg:FM[j]? =some q:=by rw[hq];exact getElem?_eq_getElem ay
    have agJ:q.l=(ll.take k).map Fd.block:=by
     have h3:(FM.map bV.l)[j]? =some q.l:=by rw[getElem?_map,hqg];rfl
     rw[ZF,getElem?_append_right ay,aen,Nat.sub_self] at h3;injection h3 with h3
     exact h3.symm
    have hqb:q.l.length≤20:=by rw[agJ,length_map,length_take];omega
    have acC:(FM.map bV.row)[j]'(by rw[length_map];omega)=q.row:=by rw[getElem_map,hq]
    have hqv:(FM.map bV.v)[0+(j:Int).toNat*1]? =some q.v:=by rw[show 0+((j:Nat):Int).toNat*1=j by omega,getElem?_map,hqg];rfl
    refine aj "Ha" ?_;refine WL.val (V.aI (v':=sp r.A (k*5)) (V.eD Aa (ak rfl) (ak rfl) (fun hc=>by omega) (fun hc=>by rw[Pn];repeat (first | exact hxr 0 _ rfl | apply Rd.up))) (fun _=>by rw[Pn])) rfl ?_;refine WL.val (V.wH (vs:=x.cells) ⟨isAgg237,sizeOf237⟩ (ak rfl) rfl aK (fun _ i v hi=>by repeat (first | exact hxr i v hi | apply Rd.up))) rfl ?_;refine aj "A" fun b12=> ?_;refine aj "Kb" ?_;refine WC.sub (H':=bq (.slice q.A q.l.length q.c) 3 1 q.l.length (ints .i64 q.l)::ah b8 124 (FM.map bV.v)::bN ((FM.map bV.row).eraseIdx j)::ah b12 237 x.cells::bq (.slice r.A (r.l.length-1) r.c) 237 5 (r.l.length-1) (dD ll)::ah bo 170 (rs.map bR.v)::bN ((rs.drop (j+1)).map bR.row)::F) (Sub.refl _) (fun w h=>by
     have h4:=Sat.Gc (k:=j) (by rw[length_map];omega) (h.aY 4 [3,2,0,1] rfl);rw[acC] at h4;exact h4.aY 5 [0,2,1,3,4] rfl) ?_
    refine WC.fE (bN ((FM.map bV.row).eraseIdx j)::ah b12 237 x.cells::bq (.slice r.A (r.l.length-1) r.c) 237 5 (r.l.length-1) (dD ll)::ah bo 170 (rs.map bR.v)::bN ((rs.drop (j+1)).map bR.row)::F) (by kernel_rfl) ?_;refine aj "l0l1l2l3[4S6:7" ?_;refine WA.two (i:=5) (j:=8) gy (by kernel_rfl) rfl rfl ?_ ?_
    ·refine WL.val (V.load isAgg124 (ak rfl) (fun _=>by repeat (first | exact Rd.here hqv | apply Rd.up))) rfl ?_;refine aj "bn8" ?_;refine WL.buildSlice (E:=3) (cs:=[_]) (vs:=[(0,_)]) ⟨ak rfl,trivial⟩ rfl (eO _) rfl (fun b55=> ?_);refine aj "bn9|" ?_;refine WL.append (m:=q.l.length) (q:=1) (news:=[.i x.block]) underlying124 Td (ak rfl) (ak rfl) (Seq.all rfl) (by intro u hu;rw[mem_singleton.1 hu];rfl) ay rfl rfl (fun A5 c5 Z5 uf=> ?_);refine aj "b[:n;" ?_;refine WL.store (cs:=[_]) sizeOf124 (ak rfl) (ak rfl) rfl rfl rfl (dw.up (dw.up (dw.at_ (by rw[length_map];omega)))) ?_;refine aj "bM6" ?_;refine⟨(k+1,FM.set j ⟨A5,c5,q.l++[x.block]⟩),⟨wR,by show (FM.set _ _).length=aJ;rw[length_set];exact Hf, ?_⟩,(by show r.l.length-1-(k+1)<r.l.length-1-k;omega),.cons rfl bM,fun w h=> ?_⟩
     ·show (FM.set j _).map bV.l=_;rw[map_set,ZF,set_append_right _ _ ay,aen,Nat.sub_self,set_cons_zero,hlk,map_append,←agJ];rfl
     ·have h5:=h.aY 5 [0,3,2,4] rfl;have e1:bq (.slice A5 (q.l.length+1) c5) 3 1 (q.l.length+1) (ints .i64 q.l++[.i x.block])=bV.row ⟨A5,c5,q.l++[x.block]⟩:=by
       unfold bV.row;rw[eP,length_append];rfl
      rw[e1] at h5;have h6:=Sat.KR (l:=FM.map bV.row) (k:=j) (by rw[length_map];omega) h5;have e2:(FM.map bV.v).set (0+(j:Int).toNat*1) (.slice A5 (q.l.length+1) c5)=(FM.set j ⟨A5,c5,q.l++[x.block]⟩).map bV.v:=by
       rw[show 0+((j:Nat):Int).toNat*1=j by omega,map_set];show _=(FM.map bV.v).set j (.slice A5 (q.l++[x.block]).length c5);rw[length_append];rfl
      rw[e2,←map_set] at h6;exact h6.aY 4 [3,1,0] rfl
    ·refine WL.buildSlice (E:=3) (cs:=[_]) (vs:=[(0,_)]) ⟨ak rfl,trivial⟩ rfl (eO _) rfl (fun b55=> ?_);refine aj "bn5" ?_;refine WL.val (V.load isAgg124 (ak rfl) (fun _=>by repeat (first | exact Rd.here hqv | apply Rd.up))) rfl ?_;refine aj "bn9|" ?_;refine WL.append (m:=q.l.length) (q:=1) (news:=[.i x.block]) underlying124 Td (ak rfl) (ak rfl) (Seq.all rfl) (by intro u hu;rw[mem_singleton.1 hu];rfl) ay rfl rfl (fun A5 c5 Z5 uf=> ?_);refine aj "b[:n;" ?_;refine WL.store (cs:=[_]) sizeOf124 (ak rfl) (ak rfl) rfl rfl rfl (dw.up (dw.up (dw.at_ (by rw[length_map];omega)))) ?_;refine aj "bM6" ?_;refine⟨(k+1,FM.set j ⟨A5,c5,q.l++[x.block]⟩),⟨wR,by show (FM.set _ _).length=aJ;rw[length_set];exact Hf, ?_⟩,(by show r.l.length-1-(k+1)<r.l.length-1-k;omega),.cons rfl bM,fun w h=> ?_⟩
     ·show (FM.set j _).map bV.l=_;rw[map_set,ZF,set_append_right _ _ ay,aen,Nat.sub_self,set_cons_zero,hlk,map_append,←agJ];rfl
     ·have h5:=h.aY 5 [0,3,2,4] rfl;have e1:bq (.slice A5 (q.l.length+1) c5) 3 1 (q.l.length+1) (ints .i64 q.l++[.i x.block])=bV.row ⟨A5,c5,q.l++[x.block]⟩:=by
       unfold bV.row;rw[eP,length_append];rfl
      rw[e1] at h5;have h6:=Sat.KR (l:=FM.map bV.row) (k:=j) (by rw[length_map];omega) h5;have e2:(FM.map bV.v).set (0+(j:Int).toNat*1) (.slice A5 (q.l.length+1) c5)=(FM.set j ⟨A5,c5,q.l++[x.block]⟩).map bV.v:=by
       rw[show 0+((j:Nat):Int).toNat*1=j by omega,map_set];show _=(FM.map bV.v).set j (.slice A5 (q.l++[x.block]).length c5);rw[length_append];rfl
      rw[e2,←map_set] at h6;exact h6.aY 4 [3,1,0] rfl
   ·refine aj "R6" ?_;first
    | (
     refine⟨(j+1,FM),⟨zU,Hf, ?_⟩,(by show aJ-(j+1)<aJ-j;omega),.cons rfl (.cons rfl (.cons rfl (.cons (look_eq rfl (by simp)) (.nil _)))),fun w h=>h.aY 1 [] rfl⟩;obtain rfl:k=r.l.length-1:=by omega
     show FM.map bV.l=_;rw[ZF,AP,hsj,take_of_length_le (l:=ll) ay,append_assoc];rfl)
    | (
     refine⟨(j+1,fQ),⟨zU,Gb, ?_⟩,(by show aJ-(j+1)<aJ-j;omega),.cons rfl (.cons rfl (.cons rfl (.cons (look_eq rfl (by simp)) (.nil _)))),fun w h=> ?_⟩
     ·show fQ.map bV.l=_;rw[Zv,AP,hsj,afd,append_assoc];rfl
     ·rw[Gd,map_cons] at h;have h4:=Sat.Gc (k:=0) (by simp) (h.aY 4 [3,0,1,2] rfl);have h5:Sat K w (r.row::bN ((rs.drop (j+1)).map bR.row)::ah b8 124 (fQ.map bV.v)::bN (fQ.map bV.row)::ah bo 170 (rs.map bR.v)::F):=h4;exact h5.aY 5 [2,3,4,1] rfl)
 ·refine aj "ReD" ?_;obtain rfl:j=aJ:=by omega
  refine aG.ret (H':=ah b8 124 (fQ.map bV.v)::bN (fQ.map bV.row)::F) (bI.eY rfl rfl rfl) (fun w h=>h.aY 4 [0,1] rfl) ⟨b8,fQ,Gb, ?_,rfl,rfl⟩;rw[Zv,take_of_length_le ay,Nat.sub_self,replicate_zero,append_nil]
end
structure St where
 stands:List Int
 dN:List (List Int)
 (next at_:Int)
 dead:Bool
def qj(S:aD)(aJ:Nat):St:=⟨lF aJ S.dU,rE aJ S.dU,qg S.dU,0,false⟩
namespace St
def ready(T:St)(aV:Int):Int:=if T.dead then 70 else if aV<0∨(T.stands.length:Int)≤aV then 1 else 0
def told(T:St)(e:Int):St:= { T with dead:=T.dead||decide (e=70) }
def ng(T:St)(aV:Int):Int:=T.stands.getD aV.toNat 0
end St
structure cZ where
 stands:List Int
 sA:Option Addr
 sc:Nat
 b8:Nat
 fQ:List bV
 (next at_:Int)
 dead:Bool
namespace cZ
def aF(T:cZ):St:=⟨T.stands,T.fQ.map bV.l,T.next,T.at_,T.dead⟩
abbrev cells(T:cZ)(bd:Nat)(g:bL):List Value:=[ptr bd 0,.i g.bl,.i g.pg,.i g.se,.i g.sb,.i g.fl,.slice T.sA T.stands.length T.sc,.slice (some ⟨T.b8,0,none⟩) T.fQ.length T.fQ.length,.i T.next,.i T.at_,.bool T.dead]
abbrev sl(T:cZ):aA:=bq (.slice T.sA T.stands.length T.sc) 3 1 T.stands.length (ints .i64 T.stands)
abbrev parts(bs bd:Nat)(g:bL)(T:cZ):List aA:=[ah bs 127 (T.cells bd g),T.sl,ah T.b8 124 (T.fQ.map bV.v),bN (T.fQ.map bV.row)]
def A(bs bd:Nat)(g:bL)(T:cZ):aA:=bN (parts bs bd g T)
structure Ok(g:bL)(T:cZ):Prop where
 len:T.fQ.length=T.stands.length
 aJ:1≤T.stands.length∧T.stands.length≤64
 next:1≤T.next∧T.next≤1000000001
 at_:0≤T.at_∧T.at_<g.bl
 Gf:∀b∈T.stands,-1≤b∧b<g.bl
end cZ
theorem Seq.LJ{K:World}{l H:List aA}{A:aA}{B:Option Addr}{m s:Nat}{vs:List Value}(hA:A∈l)(h:Seq K [A] B m s vs):Seq K (bN l::H) B m s vs:=⟨h.len,fun i v hi=>Rd.LJ hA (h.rd i v hi)⟩
section
variable{bs bd bc:Nat}{g:bL}{T:cZ}{C:Cw}{K:World}{F:List aA}
theorem cZ.Dm:gD K (cZ.A bs bd g T::F) bs 0 (T.cells bd g):=fun i v hi=>by
 show Rd K (bN (cZ.parts bs bd g T)::F) _ v;refine Rd.LJ (A:=ah bs 127 (T.cells bd g)) (.head _) (Rd.here ?_);rw[Nat.zero_add];exact hi
theorem cZ.rdg:gD K (cZ.A bs bd g T::F) bs 1 [.i g.bl,.i g.pg,.i g.se,.i g.sb,.i g.fl]:=fun i v hi=>by
 have key:∀k v,(T.cells bd g)[k]? =some v→Rd K (cZ.A bs bd g T::F) (some ⟨bs,k,none⟩) v:=fun k v hk=>by
  have :=cZ.Dm (K:=K) (F:=F) (bs:=bs) (bd:=bd) (g:=g) (T:=T) k v hk
  rwa [Nat.zero_add] at this
 match i,hi with
 | 0,hi=>exact key 1 v hi
 | 1,hi=>exact key 2 v hi
 | 2,hi=>exact key 3 v hi
 | 3,hi=>exact key 4 v hi
 | 4,hi=>exact key 5 v hi
theorem cZ.akk:Seq K (cZ.A bs bd g T::F) T.sA T.stands.length 1 (ints .i64 T.stands) :=
 Seq.LJ (A:=T.sl) (l:=cZ.parts bs bd g T) (.tail _ (.head _)) (bq.seq (by rw[bY,Nat.mul_one]))
theorem cZ.rdS{aV:Int}(h:0≤aV∧aV<T.stands.length):Rd K (cZ.A bs bd g T::F) (T.sA.map (·.add (aV.toNat*1))) (.i (T.aF.ng aV)):=Seq.jk cZ.akk h
theorem aC.af3{f:FuncId}{args:Array Value}{post:Value→List aA→Prop}(h:aC prog f args K (cZ.parts bs bd g T++F) post):aC prog f args K (cZ.A bs bd g T::F) post:=h.sat fun w hw=>hw.Ga
theorem aaL{aJ:Nat}{fs:List Fd}{B:Int}(h:∀x∈fs,0≤x.block∧x.block<B)(hB:0<B):∀b∈lF aJ fs,-1≤b∧b<B:=fun b hb=>by
 unfold lF at hb;obtain⟨l,hl,rfl⟩:=mem_map.1 hb;unfold jm at hl;obtain⟨aV,_,rfl⟩:=mem_map.1 hl;unfold wK;cases hx:(eT (jZ qV) (fs.filter (nR aV))).getLast? with
 | none=>exact⟨by decide,by dsimp only;omega⟩
 | some x =>
  have h1:=y5.1 (mem_of_getLast? hx);have :=h x (mem_filter.1 h1).1;exact⟨by dsimp only;omega,this.2⟩
theorem yE{S:aD}{b:Int}{x:Fd}(hg:S.g.aU)(h:S.ku b=some x):x.block=b∧x.hd.may S.g=true:=by
 unfold aD.ku at h;split at h
 ·cases h
 ·split at h
  ·cases h
  ·rename_i hp;injection h with h
   subst h;exact⟨rfl,(uP hg hp).2.1⟩
theorem F5{S:aD}(hg:S.g.aU):∀x∈S.dU,(0≤x.block∧x.block<S.g.bl)∧x.hd.may S.g=true:=fun x hx=>by
 unfold aD.dU at hx;obtain⟨b,hb,hs⟩:=mem_filterMap.1 hx;obtain⟨h1,h2⟩:=yE hg hs;have h3:=aD.rD S _ b hb;unfold bL.aU at hg;exact⟨by rw[h1];omega,h2⟩
theorem Hd.Ud{g:bL}{h:Hd}(hm:h.may g=true):1≤h.num∧h.num≤1000000000:=by simp_all [Hd.may,Bool.and_eq_true,decide_eq_true_eq]
theorem RX{c:Fd→Fd→Int}{fs:List Fd}(h0:0<fs.length):∀k,k<fs.length→xQ c fs k∈fs
 | 0,_=>by show fs.getD 0 J4∈fs;simp only[getD,getElem?_eq_getElem h0];exact getElem_mem _
 | k+1,hk=>by
  rw[xQ];split
  ·simp only[getD,getElem?_eq_getElem hk];exact getElem_mem _
  ·exact RX h0 k ay
theorem PV{fs:List Fd}(h:∀x∈fs,1≤x.hd.num∧x.hd.num≤1000000000):1≤qg fs∧qg fs≤1000000001:=by grind [qg,RX]
theorem Vj(hC:C.Ok)(hg:C.g=g){aJ:Nat}(hl:1≤aJ∧aJ≤64)(h19:g.bl≤19)(he:C.aF.oW=0):aC prog 31 #[ptr bd 0,.i (aJ:Int)] K (C.A bc::dH bd bc g::F)
 (fun v H'=>∃bs:Nat,∃T:cZ,T.Ok g∧T.aF=qj C.aF aJ∧v= .tuple #[ptr bs 0,.i 0]∧H'=C.A bc::dH bd bc g::T.A bs bd g::F):=by
 have zX:g.aU:=by rw[←hg];exact hC.aU
 have wS:=zX;unfold bL.aU at wS;have ZB:=F5 (S:=C.aF) hC.aU;have hfl:C.aF.dU.length≤19:=by
  have h1:=aD.jN C.aF C.aF.g.bl.toNat;have h2:C.aF.g.bl.toNat≤19:=by rw[show C.aF.g=C.g from rfl,hg];omega
  unfold aD.dU;refine Nat.le_trans (length_filterMap_le _ _) ?_;unfold aD.iF;omega
 obtain⟨fs,hfs⟩:∃fs,fs=C.aF.dU:=⟨_,rfl⟩;have ZL:=PV (fs:=fs) (fun x hx=>Hd.Ud (ZB x (by rw[←hfs];exact hx)).2);refine aC.en func31 ntmps31 ?_;refine aj "amf~abOir5cY~lJb~1Z" ?_;refine WL.c1 call99 rfl (PS hC hg h19 he) rfl ?_;rintro _ _ ⟨Af,cf,rfl,rfl⟩;rw[←hfs] at hfl ZB ⊢;refine aj "CfsbOZc" ?_;refine WL.t1 call100 rfl (kC) rfl ?_;refine WL.val (V.build (vs:=[(0,_),(1,_)]) ⟨ak rfl,ak rfl,trivial⟩ rfl (Uc _ _ _ _ _ _)) rfl ?_;refine WL.box (cs:=[_,_,_,_,_,_,_,_,_,_,_]) (ak rfl) rfl rfl (fun VQ=> ?_);refine aj "jzc" ?_;refine WL.c2 call101 rfl rfl (PU (fs:=fs) hl (by repeat (first | exact bq.seq (gM _) | apply Seq.up)) rfl ay (fun x hx=>by have :=Hd.Ud (ZB x hx).2;omega)) rfl ?_;rintro _ _ ⟨Ap,cp,rfl,rfl⟩;refine aj "!~ML~~)L~~)bez" ?_;refine WL.c2 call102 rfl rfl (Ng (fs:=fs) hl (by repeat (first | exact bq.seq (gM _) | apply Seq.up)) rfl ay) rfl ?_;rintro _ _ ⟨b8,fQ,Gb,Zv,rfl,rfl⟩;refine aj "!L~~)beD" ?_;obtain⟨T,hT⟩:∃T:cZ,T=⟨lF aJ fs,Ap,cp,b8,fQ,qg fs,0,false⟩:=⟨_,rfl⟩;have nu:=nE aJ fs;refine aG.ret (H':=C.A bc::dH bd bc g::T.A VQ bd g::F) (bI.eY rfl rfl rfl) (fun w h=> ?_) ⟨VQ,T, ?_, ?_,rfl,rfl⟩
 ·have h1:=h.aY 7 [3,2,0,1,4,5] rfl;have h2:=Sat.all (l:=cZ.parts VQ bd g T) (H:=C.A bc::dH bd bc g::F) (K:=K) (w:=w) (by
   unfold cZ.parts cZ.cells cZ.sl;rw[hT];dsimp only;rw[nu,Gb];exact h1)
  exact h2.aY 3 [1,2,0] rfl
 ·rw[hT];refine⟨by show fQ.length=(lF aJ fs).length;omega,by show 1≤(lF aJ fs).length∧(lF aJ fs).length≤64;omega,by show 1≤qg fs∧qg fs≤1000000001;omega,by show (0:Int)≤0∧0<g.bl;omega, ?_⟩;exact aaL (fun x hx=>by have :=(ZB x hx).1;rw[show C.aF.g=C.g from rfl,hg] at this;exact this) ay
 ·rw[hT];unfold cZ.aF qj;rw[←hfs,Zv]
theorem TP:aL prog 87 #[ptr bs 0] K (T.A bs bd g::F) (.i (T.stands.length:Int)):=by
 refine aC.en func87 ntmps87 ?_;refine aj "af~abOZL" ?_;refine WL.val (V.load isAgg124 (ak rfl) (fun _=>cZ.Dm 6 _ rfl)) rfl ?_;refine aj "od" ?_;exact qR (T.A bs bd g::F) rfl rfl cu ⟨rfl,rfl⟩
theorem Yx(hg:g.aU):aL prog 50 #[ptr bs 0] K (T.A bs bd g::F) (.i g.cap):=by
 refine aC.en func50 ntmps50 ?_;refine aj "af~abOZL" ?_;refine WL.val (V.gG (vs:=[.i g.bl,.i g.pg,.i g.se,.i g.sb,.i g.fl]) ⟨isAgg23,sizeOf23⟩ (ak rfl) rfl (fun _=>cZ.rdg)) rfl ?_;refine WL.t1 call110 rfl (RA hg) rfl ?_;refine aj "Cjd" ?_;exact qR (T.A bs bd g::F) rfl rfl cu ⟨rfl,rfl⟩
theorem Fx(aV:Int):aL prog 61 #[ptr bs 0,.i aV] K (T.A bs bd g::F) (.i (T.aF.ready aV)):=by
 obtain⟨X,hX⟩:∃X,X=T.aF.ready aV:=⟨_,rfl⟩;rw[←hX];unfold St.ready cZ.aF at hX;dsimp only at hX;refine aC.en func61 ntmps61 ?_;refine aj "atue~agOeL" ?_;refine WL.val (V.load isAgg4 (ak rfl) (fun _=>cZ.Dm 10 _ rfl)) rfl ?_;refine aj "gE" (aX (fun aR=> ?_) fun aR=> ?_)
 ·have h1:=aR;rw[h1] at hX;refine aj "I" ?_;exact qR (T.A bs bd g::F) rfl rfl cu ⟨by rw[hX];rfl,rfl⟩
 ·have h1:=aR;rw[h1] at hX;rw[if_neg Bool.false_ne_true] at hX;refine aj "e5cYY~~n~Y" ?_;refine WL.bG (oj:=_) rfl rfl rfl GC.f (V.load isAgg124 (OV.g rfl id) (fun _=>cZ.Dm 6 _ rfl)) rfl ?_;refine aj "~H~~QJgE" (aX (fun bB=> ?_) fun bB=> ?_)
  ·simp only[Bool.or_eq_true,Bool.or_eq_false_iff,dh] at bB;have h2:=bB;rw[if_pos h2] at hX;refine aj "I" ?_;exact qR (T.A bs bd g::F) rfl rfl cu ⟨by rw[hX],rfl⟩
  ·simp only[Bool.or_eq_true,Bool.or_eq_false_iff,dh] at bB;have h2:=bB;rw[if_neg (by rintro (h | h);exact h2.1 h;exact h2.2 h)] at hX;refine aj "iI" ?_;exact qR (T.A bs bd g::F) rfl rfl cu ⟨by rw[hX],rfl⟩
def cZ.told(T:cZ)(e:Int):cZ:= { T with dead:=T.dead||decide (e=70) }
theorem cZ.Ok.told{T:cZ}(h:T.Ok g)(e:Int):(T.told e).Ok g:=⟨h.len,h.aJ,h.next,h.at_,h.Gf⟩
theorem vk(e:Int):aC prog 65 #[ptr bs 0,.i e] K (T.A bs bd g::F) (fun v H'=>v= .i e∧H'=(T.told e).A bs bd g::F):=by
 refine aC.af3 ?_;dsimp only[cZ.parts,cons_append,nil_append];refine aC.en func65 ntmps65 ?_;refine aj "a0,pcY~~ZJL~jbed" ?_;exact qR ((T.told e).A bs bd g::F) rfl rfl (fun w h=>Sat.all (l:=cZ.parts bs bd g (T.told e)) h) ⟨rfl,rfl⟩
theorem Vf(hC:C.Ok)(hg:C.g=g):aL prog 66 #[ptr bs 0] K (C.A bc::dH bd bc g::T.A bs bd g::F) (.i (if C.aF.oW=70 then 70 else 6)):=by
 refine aC.en func66 ntmps66 ?_;refine aj "afL" ?_;refine WL.val (V.load isAgg70 (ak rfl) (fun _=>Rd.up (Rd.up (cZ.Dm 0 _ rfl)))) rfl ?_;refine WL.t3 call126 rfl rfl rfl (vV hC hg 0 0 aK) rfl ?_;refine aj "Cj%bX" (aX (fun aN=> ?_) fun aN=> ?_)
 ·have h0:=aN;refine aj "ed" ?_;exact qR (C.A bc::dH bd bc g::T.A bs bd g::F) rfl rfl cu ⟨by rw[if_pos (show C.aF.oW=70 from h0)];exact congrArg _ h0,rfl⟩
 ·have h0:=aN;refine aj "iI" ?_;exact qR (C.A bc::dH bd bc g::T.A bs bd g::F) rfl rfl cu ⟨by rw[if_neg (show ¬C.aF.oW=70 from h0)],rfl⟩
end
theorem acA{t:Nat}{d m:List Nat}{p:LL}{k:Nat}(hd:rW t d m=some (p,k)):p.1.length=d.length:=by grind [rW,mQ]
theorem Tj{t S B:Nat}{raw:List Nat}(hr:raw.length=jH S B t)(he:(fB t S B raw).err=0):(fB t S B raw).d.length=S*B:=by
 unfold fB at he ⊢;split at he
 ·rename_i h;exact absurd he h
 ·rename_i h;rw[if_neg h];have key:∀(l:List (Option (LL×Nat))) (d:List Nat) (n:Nat),(∀o∈l,∀p k,o=some (p,k)→p.1.length=B)→(jT l d n).err=0→(jT l d n).d.length=d.length+l.length*B:=fun l=>by
   induction l with
   | nil=>intro d n _ _;show d.length=_;simp
   | cons o l ih =>
    intro d n h he;cases o with
    | none=>exact absurd he (by show ¬(50=0);decide)
    | some r =>
     obtain⟨p,k⟩:=r;rw[jT] at he ⊢;have h1:=ih (d++p.1) (max n k) (fun o ho=>h o (.tail _ ho)) he;have h2:=h _ (.head _) p k rfl;rw[length_append] at h1;rw[length_cons,succ_mul];omega
  have :=key ((List.range S).map (BG t B (B+aM t) raw)) [] 0 (fun o ho p k hp=>by
   obtain⟨j,hj,rfl⟩:=mem_map.1 ho;have hj:=mem_range.1 hj;unfold BG at hp;rw[acA hp];unfold CG;have h3:(j+1)*(B+aM t)≤S*(B+aM t):=mul_le_mul_right _ hj;rw[succ_mul] at h3;rw[length_take,length_drop,hr];unfold jH;omega) he
  rw[length_map,length_range] at this
  simpa using this
theorem Cw.Ok.Uv{C:Cw}(hC:C.Ok){b p:Int}(he:(C.aF.bX b p).err=0):(C.aF.bX b p).d.length=C.g.room.toNat:=by
 have hg:=hC.aU;unfold aD.bX at he ⊢;split at he
 ·rename_i h;exact absurd he h
 ·rename_i h;rw[if_neg h];have h0:(fB C.aF.g.fl.toNat C.aF.g.se.toNat C.aF.g.sb.toNat (C.aF.jH b p)).err=0:=by
   have he':((fB C.aF.g.fl.toNat C.aF.g.se.toNat C.aF.g.sb.toNat (C.aF.jH b p)).err:Int)=0:=he;omega
  have h1:=Tj (by rw[(hC.vX b p).2.2,bL.vw hg,Int.toNat_natCast];rfl) h0;show (fB _ _ _ _).d.length=_;rw[h1,bL.JR hg,Int.toNat_natCast];rfl
theorem bL.Lu{g:bL}(hg:g.aU){n:Int}(h:g.fits n=true):0≤g.bO n∧g.bO n≤g.pg-1∧n≤g.bO n*g.room∧(n≤0→g.bO n=0):=by
 have hr:=bL.jW hg;have wS:=hg;unfold bL.aU at wS;unfold bL.fits at h;simp only[Bool.and_eq_true,decide_eq_true_eq] at h;have h1:=Int.emod_add_mul_ediv (n+g.room-1) g.room;have h2:=Int.emod_lt_of_pos (n+g.room-1) (show 0<g.room by omega);have h3:=Int.emod_nonneg (n+g.room-1) (show g.room≠0 by omega);have hq:g.bO n=(n+g.room-1)/g.room:=rfl;rw[←hq,Int.mul_comm] at h1;have h4:0≤g.bO n:=by rw[hq];exact Int.ediv_nonneg ay ay
 refine⟨h4, ?_,by omega,fun hn=> ?_⟩
 ·have h5:g.bO n*g.room≤g.cap+g.room-1:=by omega
  have h6:g.cap+g.room=g.pg*g.room:=by unfold bL.cap;rw[Int.sub_mul,Int.one_mul];omega
  have h7:g.bO n*g.room<g.pg*g.room:=ay;have :=Int.lt_of_mul_lt_mul_right h7 ay;omega
 ·have :n=0:=by omega
  rw[hq,this];exact Int.ediv_eq_zero_of_lt ay ay
def iC(S:aD)(b:Int)(n0:Nat):Nat→aD.Got
 | 0=>⟨0,[],n0⟩
 | k+1=>if (iC S b n0 k).err≠0 then iC S b n0 k
  else if (S.bX b (1+(k:Int))).err≠0 then ⟨(S.bX b (1+(k:Int))).err,[],0⟩
  else ⟨0,(iC S b n0 k).d++(S.bX b (1+(k:Int))).d,max (iC S b n0 k).n (S.bX b (1+(k:Int))).n⟩
theorem LA{S:aD}{b:Int}{n0 k:Nat}(h:(iC S b n0 k).err≠0):∀m,iC S b n0 (k+m)=iC S b n0 k
 | 0=>rfl
 | m+1=>by rw[←Nat.add_assoc,iC,LA h m,if_pos h]
def eG(S:aD)(T:St)(aV:Int):aD.Got×St :=
 if T.ready aV≠0 then (⟨T.ready aV,[],0⟩,T)
 else if T.ng aV<0 then (⟨5,[],0⟩,T)
 else if (S.bX (T.ng aV) 0).err≠0 then (⟨(S.bX (T.ng aV) 0).err,[],0⟩,T.told (S.bX (T.ng aV) 0).err)
 else if iX S.g (S.bX (T.ng aV) 0).d≠0 then (⟨iX S.g (S.bX (T.ng aV) 0).d,[],0⟩,T)
 else if (iC S (T.ng aV) (S.bX (T.ng aV) 0).n (S.g.bO (gT S.g (S.bX (T.ng aV) 0).d).len).toNat).err≠0 then
  (⟨(iC S (T.ng aV) (S.bX (T.ng aV) 0).n (S.g.bO (gT S.g (S.bX (T.ng aV) 0).d).len).toNat).err,[],0⟩,T.told (iC S (T.ng aV) (S.bX (T.ng aV) 0).n (S.g.bO (gT S.g (S.bX (T.ng aV) 0).d).len).toNat).err)
 else (⟨0,(iC S (T.ng aV) (S.bX (T.ng aV) 0).n (S.g.bO (gT S.g (S.bX (T.ng aV) 0).d).len).toNat).d.take (gT S.g (S.bX (T.ng aV) 0).d).len.toNat,(iC S (T.ng aV) (S.bX (T.ng aV) 0).n (S.g.bO (gT S.g (S.bX (T.ng aV) 0).d).len).toNat).n⟩,T)
theorem adV{K:World}{F:List aA}{A:Option Addr}{m n cap E:Nat}{cs:List Value}(hn:n≤m):∀w,Sat K w (bq (.slice A m cap) E 1 m cs::F)→Sat K w (bq (.slice A n cap) E 1 n (cs.take n)::F):=fun w h=>by
 cases A with
 | none =>
  obtain⟨h1,h2,h3⟩:=bq.F7 h;obtain rfl:n=0:=by omega
  subst h1 h2 h3;exact h
 | some a =>
  obtain⟨g,rfl⟩:=bq.addr h;obtain⟨r,⟨h1,h2,h3,h4⟩,h5⟩:=Sat.rY h;have h6:=Sat.Nq (m:=n) (cap:=cap) (s:=1) h5 h1 ay h4;rw[Nat.mul_one,take_append_of_le_length ay] at h6;exact h6
theorem Sm{g:bL}{d:List Nat}(hg:g.aU)(h:iX g d=0):(gT g d).may g=true∧jA g d=some (gT g d):=by
 unfold iX at h;unfold gT;cases hp:jA g d with
 | none=>rw[hp] at h;dsimp only at h;split at h<;>cases h
 | some x=>exact⟨(uP hg hp).2.1,rfl⟩
section
variable{bs bd bc:Nat}{g:bL}{T:cZ}{C:Cw}{K:World}{F:List aA}
theorem vN(hC:C.Ok)(hg:C.g=g)(hT:T.Ok g)(aV:Int):aC prog 26 #[ptr bs 0,.i aV] K (C.A bc::dH bd bc g::T.A bs bd g::F)
 (fun v H'=>∃(A':Option Addr) (c':Nat) (T':cZ),T'.Ok g∧T'.aF=(eG C.aF T.aF aV).2∧v= .tuple #[.slice A' (eG C.aF T.aF aV).1.d.length c',.i ((eG C.aF T.aF aV).1.n:Nat),.i (eG C.aF T.aF aV).1.err] ∧
  H'=bq (.slice A' (eG C.aF T.aF aV).1.d.length c') 5 1 (eG C.aF T.aF aV).1.d.length (av .u8 (eG C.aF T.aF aV).1.d)::C.A bc::dH bd bc g::T'.A bs bd g::F):=by
 have zX:g.aU:=by rw[←hg];exact hC.aU
 have J9:C.aF.g=g:=hg;have SF:=bL.jW zX;have wS:=zX;unfold bL.aU at wS;obtain⟨X,hX⟩:∃X,X=eG C.aF T.aF aV:=⟨_,rfl⟩;rw[←hX];unfold eG at hX;rw[J9] at hX;have EX:T.aF.ready aV=0→0≤aV∧aV<T.stands.length:=fun h=>by
  unfold St.ready cZ.aF at h;dsimp only at h;split at h
  ·cases h
  ·split at h
   ·cases h
   ·omega
 refine aC.en func26 ntmps26 ?_;refine aj "ammfc~~p" ?_;refine WL.c2 call61 rfl rfl (Fx aV) rfl ?_;rintro _ _ ⟨rfl,rfl⟩;refine aj "~~bjsb~d" (aX (fun aN=> ?_) fun aN=> ?_)
 ·have h0:=aN;rw[if_pos h0] at hX;refine aj "emD" ?_;subst hX;exact aG.ret (H':=bq (.slice none 0 0) 5 1 0 []::C.A bc::dH bd bc g::T.A bs bd g::F) (bI.zR rfl rfl rfl rfl) (fun w h=>Sat.iG h _ _) ⟨none,0,T,hT,rfl,rfl,rfl⟩
 ·have h0:=aN;have Zy:T.aF.ready aV=0:=ay;rw[if_neg (fun h=>h Zy)] at hX;have SC:=EX Zy;obtain⟨b,hb⟩:∃b,b=T.aF.ng aV:=⟨_,rfl⟩;rw[←hb] at hX;have wV:∀ {X Y:aA},Rd K (X::Y::T.A bs bd g::F) (T.sA.map (·.add (aV.toNat*1))) (.i b):=fun {X Y}=>by rw[hb];exact Rd.up (Rd.up (cZ.rdS SC))
  refine aj "ZL" ?_;refine WL.val (V.load isAgg124 (ak rfl) (fun _=>Rd.up (Rd.up (cZ.Dm 6 _ rfl)))) rfl ?_;refine WL.mv rfl rfl ?_;refine WL.val (V.eD fZ (ak rfl) (ak rfl) (fun _=>SC) (fun _=>wV)) rfl ?_;refine WL.val (V.load isAgg3 (ak rfl) (fun _=>wV)) rfl ?_;refine aj "f5bX" (aX (fun aR=> ?_) fun aR=> ?_)
  ·have h1:=aR;rw[if_pos h1] at hX;refine aj "amD" ?_;subst hX;exact aG.ret (H':=bq (.slice none 0 0) 5 1 0 []::C.A bc::dH bd bc g::T.A bs bd g::F) (bI.zR rfl rfl rfl rfl) (fun w h=>Sat.iG h _ _) ⟨none,0,T,hT,rfl,rfl,rfl⟩
  ·have h1:=aR;rw[if_neg h1] at hX;refine aj "ZL" ?_;refine WL.val (V.load isAgg70 (ak rfl) (fun _=>Rd.up (Rd.up (cZ.Dm 0 _ rfl)))) rfl ?_;refine WL.mv rfl rfl (WL.c3 call90 rfl rfl rfl (xV hC hg b 0) rfl ?_);rintro _ _ ⟨Ad,cd,rfl,rfl⟩;obtain⟨G,hG⟩:∃G,G=C.aF.bX b 0:=⟨_,rfl⟩;have hGf:=hC.rZ b 0;rw[←hG] at hGf hX ⊢;refine aj "!~Mmmfsb~d" (aX (fun bB=> ?_) fun bB=> ?_)
   ·have h2:=bB;rw[if_pos h2] at hX;refine aj "ec" ?_;refine WL.sub (Sub.refl _) (fun w h=>h.aY 4 [3,1,2] rfl) ?_;refine WL.c2 call65 rfl rfl (vk G.err) rfl ?_;rintro _ _ ⟨rfl,rfl⟩;refine aj "mD" ?_;subst hX;exact aG.ret (H':=bq (.slice none 0 0) 5 1 0 []::C.A bc::dH bd bc g::(T.told G.err).A bs bd g::F) (bI.zR rfl rfl rfl rfl) (fun w h=>Sat.iG (h.aY 3 [1,2,0] rfl) _ _) ⟨none,0,T.told G.err,hT.told _,rfl,rfl,rfl⟩
   ·have h2:=bB;rw[if_neg (fun h=>h ay)] at hX;obtain⟨pe,ZW⟩:∃pe,pe=iX g G.d:=⟨_,rfl⟩;obtain⟨ph,hph⟩:∃ph,ph=gT g G.d:=⟨_,rfl⟩;rw[←ZW,←hph] at hX;refine aj "ZL" ?_;refine WL.val (V.gG (vs:=[.i g.bl,.i g.pg,.i g.se,.i g.sb,.i g.fl]) ⟨isAgg23,sizeOf23⟩ (ak rfl) rfl (fun _=>gD.up (gD.up (gD.up cZ.rdg)))) rfl ?_;refine WL.mv rfl rfl ?_;refine WL.t2 call91 rfl rfl (aL.eq (v':= .tuple #[ph.v,.i pe]) (Ih (d:=G.d) zX (bq.seq (by rw[au,Nat.mul_one])) hGf.1 ay) (by rw[hph,ZW])) rfl ?_;refine aj "!A" fun b12=> ?_;refine aj "~;fsb~d" (aX (fun eF=> ?_) fun eF=> ?_)
    ·have h3:=eF;rw[if_pos h3] at hX;refine aj "emD" ?_;subst hX;exact aG.ret (H':=bq (.slice none 0 0) 5 1 0 []::C.A bc::dH bd bc g::T.A bs bd g::F) (bI.zR rfl rfl rfl rfl) (fun w h=>Sat.iG (h.aY 5 [2,3,4] rfl) _ _) ⟨none,0,T,hT,rfl,rfl,rfl⟩
    ·have h3:=eF;have hp0:pe=0:=ay;rw[if_neg (fun h=>h hp0)] at hX;have Pj:ph.may g=true:=by rw[hph];exact (Sm zX (by rw[←ZW];exact hp0)).1
     have J5:=Pj;unfold Hd.may at J5;simp only[Bool.and_eq_true,decide_eq_true_eq] at J5;have JW:=J5.1.1.1.1;have hfb:=JW;unfold bL.fits at hfb;simp only[Bool.and_eq_true,decide_eq_true_eq] at hfb;have BX:=bL.tO zX;have hpf:=bL.Lu zX JW;obtain⟨N,hN⟩:∃N:Nat,g.bO ph.len=(N:Int):=⟨(g.bO ph.len).toNat,by omega⟩;rw[hN,Int.toNat_natCast] at hX;rw[hN] at hpf;obtain⟨ln,ZQ⟩:∃ln:Nat,ph.len=(ln:Int):=⟨ph.len.toNat,by omega⟩;refine aj "iat~k+~&~y" ?_;refine WQ.val (V.gG (vs:=[.i g.bl,.i g.pg,.i g.se,.i g.sb,.i g.fl]) ⟨isAgg23,sizeOf23⟩ (ak rfl) rfl (fun _=>by repeat (first | exact cZ.rdg | apply gD.up))) rfl ?_;refine aj "~y~G" ?_;refine WQ.call (vs:=[_,_]) call92 ⟨ak rfl,ak rfl,trivial⟩ (aL.eq (v':= .tuple #[.i (N:Int),.i 0]) (BN zX ay) (by rw[JW,hN];rfl)) rfl ?_;refine aj "+" ?_;refine WQ.val (V.extract (ak rfl) rfl) rfl (WQ.val (V.extract (ak rfl) rfl) rfl (aj "~m~m~gNN" ?_));refine WC.sub (H':=C.A bc::dH bd bc g::T.A bs bd g::bq (.slice none 0 0) 5 1 0 []::ah b12 157 [.i ph.aV,.i ph.len,.i ph.num]::F) (Sub.refl _) (fun w h=>(Sat.iG (h.aY 5 [0,2,3,4] rfl) 5 1).aY 5 [2,3,4,0,1] rfl) ?_;have Kl:∀k,k≤N→(iC C.aF b G.n k).err=0→(iC C.aF b G.n k).d.length=k*g.room.toNat:=fun k=>by
      induction k with
      | zero=>intro _ _;show ([]:List Nat).length=_;simp
      | succ k ih =>
       intro hk he;rw[iC] at he ⊢;split at he
       ·rename_i h;exact absurd he h
       ·rename_i h;rw[if_neg h];split at he
        ·rename_i h';exact absurd he h'
        ·rename_i h';rw[if_neg h'];have h4:=hC.Uv (b:=b) (p:=1+(k:Int)) ay;show ((iC C.aF b G.n k).d++(C.aF.bX b (1+(k:Int))).d).length=_;rw[length_append,ih ay ay,h4,hg,succ_mul]
     refine aj "hP" ?_;refine WC.loop (σ:=Nat×Option Addr×Nat) (fun s=>[(0,ptr bs 0),(8,.i b),(10,.i ((iC C.aF b G.n s.1).n:Nat)),(12,ptr b12 0),(13,.slice s.2.1 (iC C.aF b G.n s.1).d.length s.2.2),(72,.i (N:Int)),(73,.i (s.1:Int))]) (fun s=>C.A bc::dH bd bc g::T.A bs bd g::bq (.slice s.2.1 (iC C.aF b G.n s.1).d.length s.2.2) 5 1 (iC C.aF b G.n s.1).d.length (av .u8 (iC C.aF b G.n s.1).d)::ah b12 157 [.i ph.aV,.i ph.len,.i ph.num]::F) (fun s=>s.1≤N∧(iC C.aF b G.n s.1).err=0) (fun s=>N-s.1) (0,none,0) ⟨zero_le _,rfl⟩ bM cu ?_;rintro⟨k,Ao,co⟩ ⟨hk,Zp⟩;dsimp only at hk Zp ⊢;obtain⟨r,hr⟩:∃r,r=iC C.aF b G.n k:=⟨_,rfl⟩;have nW:=Kl k hk Zp;rw[←hr] at Zp nW ⊢;have hkN:k*g.room.toNat≤63*4096:=Nat.mul_le_mul ay ay;refine aj "UX" (aX (fun mZ=> ?_) fun mZ=> ?_)
     ·have wR:k<N:=ay;have dJ:iC C.aF b G.n (k+1)=if (C.aF.bX b (1+(k:Int))).err≠0 then ⟨(C.aF.bX b (1+(k:Int))).err,[],0⟩ else ⟨0,r.d++(C.aF.bX b (1+(k:Int))).d,max r.n (C.aF.bX b (1+(k:Int))).n⟩:=by rw[iC,←hr,if_neg (fun h=>h Zp)]
      refine aj "1jL" ?_;refine WL.val (V.load isAgg70 (ak rfl) (fun _=>Rd.up (Rd.up (cZ.Dm 0 _ rfl)))) rfl ?_;refine aj "z." ?_;refine WL.c3 call90 rfl rfl rfl (xV hC hg b (1+(k:Int))) rfl ?_;rintro _ _ ⟨A2,c2,rfl,rfl⟩;have amN:=hC.rZ b (1+(k:Int));obtain⟨G2,hG2⟩:∃G2,G2=C.aF.bX b (1+(k:Int)):=⟨_,rfl⟩;rw[←hG2] at dJ amN ⊢;refine aj "!~Mmmfsb~d" (aX (fun uf=> ?_) fun uf=> ?_)
      ·have h5:=uf;rw[if_pos h5] at dJ;have hNe:iC C.aF b G.n N=⟨G2.err,[],0⟩:=by
        have :=LA (S:=C.aF) (b:=b) (n0:=G.n) (k:=k+1) (by rw[dJ];exact h5) (N-(k+1));rw[show k+1+(N-(k+1))=N by omega,dJ] at this;exact this
       rw[hNe,if_pos h5] at hX;refine aj "ec" ?_;refine WL.sub (Sub.refl _) (fun w h=>h.aY 6 [3,1,2] rfl) ?_;refine WL.c2 call65 rfl rfl (vk G2.err) rfl ?_;rintro _ _ ⟨rfl,rfl⟩;refine aj "mD" ?_;subst hX;exact aG.ret (H':=bq (.slice none 0 0) 5 1 0 []::C.A bc::dH bd bc g::(T.told G2.err).A bs bd g::F) (bI.zR rfl rfl rfl rfl) (fun w h=>Sat.iG (h.aY 3 [1,2,0] rfl) _ _) ⟨none,0,T.told G2.err,hT.told _,rfl,rfl,rfl⟩
      ·have h5:=uf;rw[if_neg (fun h=>h ay)] at dJ;refine aj "Zc" ?_;refine WL.sub (Sub.refl _) (fun w h=>h.aY 5 [4,0,1,2,3] rfl) ?_;refine WL.append (m:=r.d.length) (q:=G2.d.length) (news:=av .u8 G2.d) underlying34 zo (ak rfl) (ak rfl) (bq.seq (by rw[au,Nat.mul_one])) (kE .u8 G2.d) ay rfl rfl (fun A5 c5 Z5 uf=> ?_);refine aj "gQ~~og6" ?_;refine⟨(k+1,A5,c5),⟨wR,by rw[dJ]⟩,(by show N-(k+1)<N-k;omega),.cons rfl (.cons rfl (.cons (look_eq rfl (by dsimp only;rw[dJ];dsimp only;refine congrArg (Value.int .i64) ?_;omega)) (.cons rfl (.cons (look_eq rfl (by dsimp only;rw[dJ];dsimp only;rw[length_append])) bM)))),fun w h=> ?_⟩;dsimp only;rw[dJ];dsimp only;rw[length_append,dA];exact h.aY 6 [2,3,4,0,5] rfl
     ·refine aj "W" ?_;obtain rfl:k=N:=by omega
      rw[←hr,if_neg (fun h=>h Zp)] at hX;have hlr:ln≤r.d.length:=by
       have h6:=hpf.2.2.1;rw[ZQ] at h6;have h7:((k*g.room.toNat:Nat):Int)=(k:Int)*g.room:=by rw[Int.natCast_mul];congr 1;omega
       omega
      have hXd:X.1.d=r.d.take ln:=by rw[hX,ZQ];rfl
      have hXl:X.1.d.length=ln:=by rw[hXd,length_take];omega
      refine WC.nQ (p:=r.d.length≤co) (fun w h=>by
       have h9:=h.aY 4 [3] rfl;obtain⟨_,cap',hv,hle,_⟩:=bq.shape h9.head;injection hv with _ _ e3
       rw[e3];exact hle) (fun Ka=> ?_)
      refine aj "hp" ?_;refine WL.val (V.aI (v':= .slice Ao ln co) (V.slice (l:=0) (h:=ln) (u:=co) eu (ak rfl) OO.none (OO.some (ak rfl) (fun _=>ZQ)) OO.none (by simp) (zero_le _) ay (Nat.le_refl _)) (fun _=>by rw[Nat.sub_zero,Nat.sub_zero,zQ])) rfl ?_;refine aj "cmD" ?_;refine aG.ret (H':=bq (.slice Ao X.1.d.length co) 5 1 X.1.d.length (av .u8 X.1.d)::C.A bc::dH bd bc g::T.A bs bd g::F) (bI.zR rfl rfl rfl rfl) (fun w h=> ?_) ⟨Ao,co,T,hT,by rw[hX],by rw[hXl,hX],rfl⟩;have h9:=adV hlr w (h.aY 5 [3,0,1,2] rfl);rw[dR,←hXd] at h9;rw[hXl];exact h9
end
def Y6(b:Int)(xs:List Int):Int:=if b∈xs then (xs.idxOf b:Int) else-1
theorem agP{b:Int}{xs:List Int}{i:Nat}(h:i<xs.length)(hp:b∉xs.take i)(he:b=xs.getD i 0):Y6 b xs=(i:Int):=by
 have K6:xs.getD i 0=xs[i]:=by simp[getD,h]
 rw[K6] at he;have hx:xs=xs.take i++b::xs.drop (i+1):=by
  rw[he,←drop_eq_getElem_cons h,take_append_drop]
 have hb:b∈xs:=by rw[he];exact getElem_mem _
 unfold Y6;rw[if_pos hb];have :xs.idxOf b=i:=by
  rw[hx,idxOf_append,if_neg hp,idxOf_cons_self,length_take];omega
 rw[this]
theorem abZ{b:Int}{xs:List Int}:decide (Y6 b xs≥0)=decide (b∈xs):=by unfold Y6;grind
section
variable{K:World}{F:List aA}
theorem Va{A:Option Addr}{m cap:Nat}{xs:List Int}(hs:Seq K F A m 1 (ints .i64 xs))(hm:m≤1000000)(b:Int) :
 aL prog 187 #[.slice A m cap,.i b] K F (.i (Y6 b xs)):=by
 have hl:xs.length=m:=by simpa [ints] using hs.len
 refine aC.en func187 ntmps187 ?_;refine aj "afoP" ?_;refine WC.loop (σ:=Nat) (fun i=>[(0,.slice A m cap),(1,.i b),(7,.i (m:Int)),(8,.i (i:Int))]) (fun i=>F) (fun i=>i≤m∧b∉xs.take i) (fun i=>m-i) 0 ⟨zero_le _,by simp⟩ bM cu ?_;rintro i ⟨hi,hp⟩;refine aj "UX" (aX (fun aN=> ?_) fun aN=> ?_)
 ·have him:i<m:=ay;have Pn:(i:Int).toNat=i:=ay;have K6:xs.getD i 0=xs[i]'ay:=by simp[getD,show i<xs.length by omega]
  refine aj "1jz" ?_;refine WL.val (V.eD fZ (ak rfl) (ak rfl) (fun hc=>by omega) (fun hc=>Seq.jk hs ay)) rfl ?_;refine WL.val (V.load isAgg3 (ak rfl) (fun hc=>Seq.jk hs ay)) rfl ?_;refine aj "%k" (aX (fun aR=> ?_) fun aR=> ?_)
  ·simp only[dh,Pn] at aR;have h1:=aR;refine aj "ed" ?_;exact qR F rfl rfl cu ⟨by rw[agP ay hp h1],rfl⟩
  ·simp only[dh,Pn] at aR;have h1:=aR;refine aj "i6" ?_;refine⟨i+1,⟨by show i+1≤m;omega, ?_⟩,(by show m-(i+1)<m-i;omega),.cons rfl bM,fun w h=>h⟩;rw[take_add_one,getElem?_eq_getElem ay,←K6];simp only[Option.toList,mem_append,mem_singleton];rintro (h | h)
   ·exact hp h
   ·exact h1 h
 ·refine aj "RI" ?_;obtain rfl:i=m:=by omega
  rw[take_of_length_le ay] at hp;exact qR F rfl rfl cu ⟨by unfold Y6;rw[if_neg hp],rfl⟩
theorem AL{A:Option Addr}{m cap:Nat}{xs:List Int}(hs:Seq K F A m 1 (ints .i64 xs))(hm:m≤1000000)(b:Int) :
 aL prog 119 #[.slice A m cap,.i b] K F (.bool (decide (b∈xs))):=by
 refine aC.en func119 ntmps119 ?_;refine aj "a0" ?_;refine WL.t2 call187 rfl rfl (Va hs hm b) rfl ?_;refine aj "~id" ?_;exact qR F rfl rfl cu ⟨by rw[abZ],rfl⟩
theorem X6{b3:Nat}{b:Int}(hb:Rd K F (some ⟨b3,0,none⟩) (.i b))(x:Int):aL prog 121 ([Value.int .i64 x]++[ptr b3 0]).toArray K F (.bool (decide (x=b))):=by
 simp only[cons_append,nil_append];refine aC.en func121 ntmps121 ?_;refine aj "aj" ?_;refine WL.val (V.load isAgg3 (ak rfl) (fun hc=>hb)) rfl ?_;exact aj "%d$" trivial
end
def gP(b:Int)(l:List Int):List Int:=l.filter fun x=> !decide (x=b)
def St.forget(T:St)(b:Int):St:= { T with dN:=T.dN.map (gP b) }
section
variable{bs bd bc:Nat}{g:bL}{T:cZ}{C:Cw}{K:World}{F:List aA}
theorem Oi(hT:T.Ok g)(b:Int):aC prog 63 #[ptr bs 0,.i b] K (T.A bs bd g::F)
 (fun v H'=>∃T':cZ,T'.Ok g∧T'.aF=T.aF.forget b∧H'=T'.A bs bd g::F):=by
 have aqs:T.fQ.length≤64:=by rw[hT.len];exact hT.aJ.2
 refine aC.af3 ?_;dsimp only[cZ.parts,cons_append,nil_append];refine aC.en func63 ntmps63 ?_;refine aj "a~h" fun b3=> ?_;refine aj "be,poP" ?_;refine WC.loop (σ:=Nat×List bV) (fun s=>[(0,ptr bs 0),(3,ptr b3 0),(9,.slice (some ⟨T.b8,0,none⟩) T.fQ.length T.fQ.length),(10,.i (T.fQ.length:Int)),(11,.i (s.1:Int))]) (fun s=>ah T.b8 124 (s.2.map bV.v)::bN (s.2.map bV.row)::ah b3 3 [.i b]::ah bs 127 (T.cells bd g)::T.sl::F) (fun s=>s.1≤T.fQ.length∧s.2.length=T.fQ.length∧s.2.map bV.l=(T.fQ.take s.1).map (fun r=>gP b r.l)++(T.fQ.drop s.1).map bV.l) (fun s=>T.fQ.length-s.1) (0,T.fQ) ⟨zero_le _,rfl,by simp⟩ bM (fun w h=>h.aY 5 [3,4,0,1,2] rfl) ?_;rintro⟨j,fQ⟩ ⟨hj,Gb,Zv⟩;dsimp only at hj Gb Zv ⊢;have Kk:(T.cells bd g)[7]? =some (.slice (some ⟨T.b8,0,none⟩) T.fQ.length T.fQ.length):=rfl;refine aj "UX" (aX (fun aN=> ?_) fun aN=> ?_)
 ·have Gy:j<T.fQ.length:=ay;obtain⟨r,hr⟩:∃r,r=fQ[j]'ay:=⟨_,rfl⟩;have Te:fQ[j]? =some r:=by rw[hr];exact getElem?_eq_getElem ay
  have hvg:(fQ.map bV.v)[0+((j:Nat):Int).toNat*1]? =some r.v:=by rw[show 0+((j:Nat):Int).toNat*1=j by omega,getElem?_map,Te];rfl
  have ac3:(fQ.map bV.row)[j]'(by rw[length_map];omega)=r.row:=by rw[getElem_map,hr]
  have nW:r.l=(T.fQ[j]'ay).l:=by
   have h1:(fQ.map bV.l)[j]? =some r.l:=by rw[getElem?_map,Te];rfl
   rw[Zv,getElem?_append_right (by rw[length_map,length_take];omega),length_map,length_take,show j-min j T.fQ.length=0 by omega,getElem?_map,getElem?_drop,Nat.add_zero,getElem?_eq_getElem ay] at h1;injection h1 with h1
   exact h1.symm
  refine aj "1~v" ?_;refine WL.val (V.load isAgg124 (ak rfl) (fun _=>Rd.here hvg)) rfl ?_;refine aj "mg" ?_;refine WC.sub (H':=bq (.slice r.A r.l.length r.c) 3 1 r.l.length (ints .i64 r.l)::ah T.b8 124 (fQ.map bV.v)::bN ((fQ.map bV.row).eraseIdx j)::ah b3 3 [.i b]::ah bs 127 (T.cells bd g)::T.sl::F) (Sub.refl _) (fun w h=>by
   have h4:=Sat.Gc (k:=j) (by rw[length_map];omega) (h.aY 2 [1,0] rfl);rw[ac3] at h4;exact h4.aY 3 [0,2,1] rfl) ?_
  refine WC.fE (bN ((fQ.map bV.row).eraseIdx j)::ah b3 3 [.i b]::ah bs 127 (T.cells bd g)::T.sl::F) (by kernel_rfl) ?_;refine aj "l0@1S2" ?_;refine WA.t 3 rfl (V.load isAgg125 (ak rfl) (fun _=>by repeat (first | exact Rd.here Kk | apply Rd.up))) ?_;refine aj "l4l5" ?_;refine WA.t 6 rfl (V.makeFunc (us:=[]) (vs:=[_]) trivial ⟨ak rfl,trivial⟩) ?_;refine WA.o 7 rfl ?_;refine WL.c2 call120 rfl rfl (UY (xs:=r.l) (p:=fun x=>decide (x=b)) (KM:=[ptr b3 0]) call121 (fun x _ X=>X6 nS x)) rfl ?_;rintro _ _ ⟨q,hq,rfl,rfl⟩;refine aj "b[8n9" ?_;refine WL.store (cs:=[_]) sizeOf124 (ak rfl) (ak rfl) rfl rfl rfl (dw.up (dw.at_ (by rw[length_map];omega))) ?_;refine aj "bM6" ?_;refine⟨(j+1,fQ.set j ⟨r.A,r.c,gP b r.l⟩),⟨Gy,by show (fQ.set _ _).length=T.fQ.length;rw[length_set];exact Gb, ?_⟩,(by show T.fQ.length-(j+1)<T.fQ.length-j;omega),.cons rfl bM,fun w h=> ?_⟩
  ·show (fQ.set j _).map bV.l=(T.fQ.take (j+1)).map (fun r=>gP b r.l)++(T.fQ.drop (j+1)).map bV.l;rw[map_set,Zv,set_append_right _ _ (by rw[length_map,length_take];omega),length_map,length_take,show j-min j T.fQ.length=0 by omega,drop_eq_getElem_cons (show j<T.fQ.length by omega),map_cons,set_cons_zero,take_add_one,getElem?_eq_getElem ay,map_append,append_assoc];show _++gP b r.l::_=_++([gP b (T.fQ[j]'ay).l]++_);rw[nW];rfl
  ·subst hq;have e1:bq (.slice r.A (r.l.filter fun x=> !decide (x=b)).length r.c) 3 1 (r.l.filter fun x=> !decide (x=b)).length (ints .i64 (r.l.filter fun x=> !decide (x=b)))=bV.row ⟨r.A,r.c,gP b r.l⟩:=rfl;rw[e1] at h;have h6:=Sat.KR (l:=fQ.map bV.row) (k:=j) (by rw[length_map];omega) (h.aY 3 [0,2,1] rfl);have e2:(fQ.map bV.v).set (0+(j:Int).toNat*1) (.slice r.A (r.l.filter fun x=> !decide (x=b)).length r.c)=(fQ.set j ⟨r.A,r.c,gP b r.l⟩).map bV.v:=by
    rw[show 0+((j:Nat):Int).toNat*1=j by omega,map_set];rfl
   rw[e2,←map_set] at h6;exact h6.p1
 ·refine WC.exit ?_;obtain rfl:j=T.fQ.length:=by omega
  obtain⟨T',WZ⟩:∃T':cZ,T'= { T with fQ:=fQ }:=⟨_,rfl⟩;refine aG.normal (H':=T'.A bs bd g::F) (bI.none rfl) (fun w h=> ?_) ⟨T', ?_, ?_,rfl⟩
  ·refine Sat.all (l:=cZ.parts bs bd g T') (H:=F) ?_;rw[WZ];unfold cZ.parts cZ.cells;dsimp only;rw[Gb];exact h.aY 5 [3,4,0,1] rfl
  ·rw[WZ];exact⟨by show fQ.length=T.stands.length;rw[Gb,hT.len],hT.aJ,hT.next,hT.at_,hT.Gf⟩
  ·rw[WZ];unfold cZ.aF St.forget;dsimp only;rw[Zv,take_of_length_le ay,drop_eq_nil_of_le ay];simp
end
section
variable{bs bd bc:Nat}{g:bL}{K:World}{F:List aA}
theorem XI:aC prog 62 #[ptr bs 0] K F (fun v H'=>∃b1,v= .func (.func 117) #[] #[ptr b1 0]∧H'=ah b1 28 [ptr bs 0]::F):=by
 refine aC.en func62 ntmps62 ?_;refine aj "a~h" fun b1=> ?_;refine aj "x~3d" ?_;exact qR (ah b1 _ _::F) rfl rfl cu ⟨b1,rfl,rfl⟩
theorem Zf{l b1:Nat}{Y1 Y2:aA}{gd Gf:List Int}{Gu:Int}{n:Nat}(hn:g.bl=(n:Int))(zX:g.aU)(Zo:0≤Gu∧Gu<g.bl)(I:Nat→Cw→cZ→Prop)(Stop:aA→List aA→Prop)
 (hI:∀j C T,I j C T→C.Ok∧C.g=g∧T.Ok g∧T.stands=Gf∧T.at_=Gu)
 (QS:∀j C T,j<n→¬((Gu+(j:Int))%g.bl∈gd∧¬(Gu+(j:Int))%g.bl∈Gf)→I j C T→I (j+1) C T)
 (BP:∀j C T X,j<n→((Gu+(j:Int))%g.bl∈gd∧¬(Gu+(j:Int))%g.bl∈Gf)→I j C T→kJ prog K none l #[.i ((Gu+(j:Int))%g.bl)] (Y1::Y2::X::C.A bc::dH bd bc g::T.A bs bd g::ah b1 28 [ptr bs 0]::F)
  (fun b H'=>(b=true∧∃C' T',I (j+1) C' T'∧H'=Y1::Y2::X::C'.A bc::dH bd bc g::T'.A bs bd g::ah b1 28 [ptr bs 0]::F)∨(b=false∧Stop X H')))
 {C0:Cw} {T0:cZ} (SX:gd=C0.aF.iF) (h0:I 0 C0 T0) :
 aC prog 117 #[.func (.yield l) #[] #[],ptr b1 0] K (Y1::Y2::C0.A bc::dH bd bc g::T0.A bs bd g::ah b1 28 [ptr bs 0]::F)
  (fun v H'=>∃X,(∃C T,I n C T∧H'=Y1::Y2::X::C.A bc::dH bd bc g::T.A bs bd g::ah b1 28 [ptr bs 0]::F)∨Stop X H'):=by
 have wS:=zX;unfold bL.aU at wS;obtain⟨ZO,akt,hT0,arM,arw⟩:=hI _ _ _ h0;have hgl:gd.length≤256:=by
  have h1:=aD.jN C0.aF C0.aF.g.bl.toNat;have h2:C0.aF.g.bl.toNat≤256:=by rw[show C0.aF.g=C0.g from rfl,akt];omega
  rw[SX];unfold aD.iF;omega
 refine aC.ace func117 rfl ntmps117 rfl ?_;simp only[lH,reduceAdd];refine aj "a^L" ?_;refine WL.val (V.load isAgg70 (ak rfl) (fun _=>by repeat (first | exact cZ.Dm 0 _ rfl | apply Rd.up))) rfl ?_;refine WL.sub (Sub.refl _) (fun w h=>h.aY 6 [2,3,0,1,4,5] rfl) ?_;refine WL.c1 call118 rfl (Fg ZO akt) rfl ?_;rintro _ _ ⟨Ag,cg,rfl,rfl⟩;rw[←SX];refine aj "x^L7" ?_;refine WL.val (V.load isAgg3 (ak rfl) (fun _=>by repeat (first | exact cZ.Dm 1 _ rfl | apply Rd.up))) rfl ?_;refine aj "P" ?_;obtain⟨X,hX⟩:∃X,X=bq (.slice Ag gd.length cg) 3 1 gd.length (ints .i64 gd):=⟨_,rfl⟩;rw[←hX];have VU:∀ {H:List aA},Seq K (X::H) Ag gd.length 1 (ints .i64 gd):=fun {H}=>by rw[hX];exact bq.seq (by rw[bY,Nat.mul_one])
 refine WC.loop (σ:=Nat×Cw×cZ) (fun s=>[(0,.func (.yield l) #[] #[]),(1,ptr b1 0),(3,.slice Ag gd.length cg),(15,.i (n:Int)),(16,.i (s.1:Int))]) (fun s=>Y1::Y2::X::s.2.1.A bc::dH bd bc g::s.2.2.A bs bd g::ah b1 28 [ptr bs 0]::F) (fun s=>s.1≤n∧I s.1 s.2.1 s.2.2) (fun s=>n-s.1) (0,C0,T0) ⟨zero_le _,h0⟩ (.cons rfl (.cons rfl (.cons rfl (.cons (look_eq rfl (by rw[hn])) bM)))) (fun w h=>h.aY 7 [3,4,0,1,2,5,6] rfl) ?_;rintro⟨j,C,T⟩ ⟨hj,hIj⟩;dsimp only at hj hIj ⊢;obtain⟨hC,hCg,hT,dJ,Zo⟩:=hI _ _ _ hIj;refine aj "UX" (aX (fun aN=> ?_) fun aN=> ?_)
 ·have Gy:j<n:=ay;obtain⟨b,hb⟩:∃b,b=(Gu+(j:Int))%g.bl:=⟨_,rfl⟩;have hro:=BP j C T X Gy;have hsk:=QS j C T Gy;rw[←hb] at hro hsk;refine aj "1t" ?_;refine WC.Qm (by kernel_rfl) (by kernel_rfl) ?_;refine aj "~~~m~&~y" ?_;refine WQ.val (V.aI (v':= .i Gu) (V.load isAgg3 (ak rfl) (fun _=>by repeat (first | exact cZ.Dm 9 _ rfl | apply Rd.up))) (fun _=>by rw[Zo])) rfl ?_;refine aj "+~~m~~~m~&~y~y" ?_;refine WQ.val (V.load isAgg3 (ak rfl) (fun _=>by repeat (first | exact cZ.Dm 1 _ rfl | apply Rd.up))) rfl ?_;refine WQ.val (V.aI (v':= .i b) (V.Dv (ak rfl) (ak rfl) (fun _=>by omega)) (fun _=>by rw[hb])) rfl ?_;refine aj "~m~grc" ?_;refine WL.t2 call119 rfl rfl (AL (by repeat (first | exact VU | apply Seq.up)) ay b) rfl ?_;refine aj "*c" ?_;refine WL.bG (oj:=_) rfl rfl rfl GC.f (V.load isAgg28 (ak rfl) (fun hc=>by repeat (first | exact Rd.here rfl | apply Rd.up))) rfl ?_;refine aj "~~n~Y" ?_;refine WL.bG (oj:=_) rfl rfl rfl GC.f (V.load isAgg124 (OV.g rfl id) (fun hc=>by repeat (first | exact cZ.Dm 6 _ rfl | apply Rd.up))) rfl ?_;refine aj "Y" ?_;refine WL.qh (oj:=_) (vs:=[_,_]) rfl rfl rfl GC.f call119 ⟨OV.g rfl id,OV.g rfl id,trivial⟩ (fun hg=>AL (by repeat (first | exact cZ.akk | apply Seq.up)) (by have :=hT.aJ;omega) b) rfl ?_;refine aj "Jk" (aX (fun aR=> ?_) fun aR=> ?_)
  ·rw[dJ] at aR;have h1:=aR;refine aj "R6" ?_;first
   | exact⟨(j+1,C2,T2),⟨Gy,Xh⟩,(by show n-(j+1)<n-j;omega),.cons rfl (.cons rfl (.cons rfl (.cons rfl (.cons (look_eq rfl (by simp)) (.nil _))))),fun w h=>h⟩
   | exact⟨(j+1,C,T),⟨Gy,hsk (fun hn=>by simp only[Bool.or_eq_true,Bool.not_eq_true',dh] at h1;rcases h1 with h | h;exact h hn.1;exact hn.2 h) hIj⟩,(by show n-(j+1)<n-j;omega),.cons rfl (.cons rfl (.cons rfl (.cons rfl (.cons (look_eq rfl (by simp)) (.nil _))))),fun w h=>h⟩
  ·rw[dJ] at aR;have h1:=aR;refine aj "Zc" ?_;refine WL.afT (r:=none) (l:=l) (vs:=[_]) (ak rfl) ⟨ak rfl,trivial⟩ (hro (by simpa using h1) hIj) rfl ?_;rintro yb YH hy;refine aj "*k" (aX (fun bB=> ?_) fun bB=> ?_)
   ·have h2:=bB;simp only[Bool.not_eq_true',Bool.not_eq_false'] at h2;have alC:Stop X YH:=by
     rcases hy with ⟨h3,_⟩ | ⟨_,h3⟩
     ·rw[h3] at h2;cases h2
     ·exact h3
    refine WC.ret ?_;exact aG.ret (H':=YH) (bI.none rfl) cu ⟨X,.inr alC⟩
   ·have h2:=bB;simp only[Bool.not_eq_true',Bool.not_eq_false'] at h2;obtain⟨C2,T2,Xh,rfl⟩:∃C2 T2,I (j+1) C2 T2∧YH=Y1::Y2::X::C2.A bc::dH bd bc g::T2.A bs bd g::ah b1 28 [ptr bs 0]::F:=by
     rcases hy with ⟨_,h3⟩ | ⟨h3,_⟩
     ·exact h3
     ·rw[h3] at h2;cases h2
    refine aj "i6" ?_;first
    | exact⟨(j+1,C2,T2),⟨Gy,Xh⟩,(by show n-(j+1)<n-j;omega),.cons rfl (.cons rfl (.cons rfl (.cons rfl (.cons (look_eq rfl (by simp)) (.nil _))))),fun w h=>h⟩
    | exact⟨(j+1,C,T),⟨Gy,hsk (fun hn=>by simp only[Bool.or_eq_true,Bool.not_eq_true',dh] at h1;rcases h1 with h | h;exact h hn.1;exact hn.2 h) hIj⟩,(by show n-(j+1)<n-j;omega),.cons rfl (.cons rfl (.cons rfl (.cons rfl (.cons (look_eq rfl (by simp)) (.nil _))))),fun w h=>h⟩
 ·refine WC.exit ?_;obtain rfl:j=n:=by omega
  exact aG.normal (H':=Y1::Y2::X::C.A bc::dH bd bc g::T.A bs bd g::ah b1 28 [ptr bs 0]::F) (bI.none rfl) cu ⟨X,.inl ⟨C,T,hIj,rfl⟩⟩
end
def qy(g:bL)(h:Hd)(d:List Nat):Nat→List Nat
 | 0=>jX g h
 | p+1=>(d.drop (p*g.room.toNat)).take g.room.toNat++replicate (g.room.toNat-((d.drop (p*g.room.toNat)).take g.room.toNat).length) 0
def gq(S:aD)(b:Int)(pg:Nat→List Nat):Nat→aD×Int
 | 0=>(S,0)
 | k+1=>if (gq S b pg k).2≠0 then gq S b pg k else (gq S b pg k).1.dL b k (pg k)
def dK(S:aD)(num b aV:Int)(d:List Nat):aD×Int :=
 if (S.cK b).2≠0 then S.cK b
 else gq (S.cK b).1 b (qy S.g ⟨aV,d.length,num⟩ d) ((S.g.bO d.length).toNat+1)
theorem Q9{S:aD}{b:Int}{pg:Nat→List Nat}{k:Nat}(h:(gq S b pg k).2≠0):∀m,gq S b pg (k+m)=gq S b pg k
 | 0=>rfl
 | m+1=>by rw[←Nat.add_assoc,gq,Q9 h m,if_pos h]
theorem BH{g:bL}{h:Hd}{d:List Nat}(hd:aB 256 d):∀p,aB 256 (qy g h d p)
 | 0=>yu g h
 | p+1=>by
  unfold qy;intro x hx;rcases mem_append.1 hx with hx | hx
  ·exact aB.take (aB.drop hd) x hx
  ·rw[eq_of_mem_replicate hx];decide
theorem sD{g:bL}{h:Hd}{d:List Nat}(hg:g.aU):∀p,(qy g h d p).length=g.room.toNat
 | 0=>qz hg h
 | p+1=>by
  unfold qy;rw[length_append,length_replicate];have :=length_take_le (g.room.toNat) (d.drop (p*g.room.toNat));omega
theorem U9{g:bL}(hg:g.aU){m k:Nat}(h:m≤k*g.room.toNat):(g.bO m).toNat≤k:=by
 have hr:=bL.jW hg;have h1:g.bO m<(k:Int)+1:=by
  unfold bL.bO;refine Int.ediv_lt_of_lt_mul ay ?_;have :((k*g.room.toNat:Nat):Int)=(k:Int)*g.room:=by rw[Int.natCast_mul];congr 1;omega
  rw[Int.add_mul,Int.one_mul];omega
 omega
theorem XF{g:bL}(hg:g.aU){m k:Nat}(h:k*g.room.toNat<m):k<(g.bO m).toNat:=by
 have hr:=bL.jW hg;have h1:(k:Int)+1≤g.bO m:=by
  unfold bL.bO;refine Int.le_ediv_of_mul_le ay ?_;have :((k*g.room.toNat:Nat):Int)=(k:Int)*g.room:=by rw[Int.natCast_mul];congr 1;omega
  rw[Int.add_mul,Int.one_mul];omega
 omega
section
variable{bs bd bc:Nat}{g:bL}{T:cZ}{C:Cw}{K:World}{F:List aA}
theorem PK(hC:C.Ok)(hg:C.g=g)(hT:T.Ok g){b aV:Int}{A:Option Addr}{m cap:Nat}{d:List Nat}(hd:Seq K F A m 1 (av .u8 d))(h8:aB 256 d)(O5:m≤cap)(hm:m≤1000000)
 (KJ:0≤aV) (zY:Hd.may g ⟨aV,(d.length:Nat),T.next⟩=true):aC prog 64 #[ptr bs 0,.i b,.i aV,.slice A m cap] K (C.A bc::dH bd bc g::T.A bs bd g::F)
 (fun v H'=>∃C':Cw,C'.Ok∧C'.g=g∧C'.aF=(dK C.aF T.next b aV d).1∧v= .i (dK C.aF T.next b aV d).2∧H'=C'.A bc::dH bd bc g::T.A bs bd g::F):=by
 have zX:g.aU:=by rw[←hg];exact hC.aU
 have J9:C.aF.g=g:=hg;have SF:=bL.jW zX;have uQ:d.length=m:=by simpa [av] using hd.len
 obtain⟨X,hX⟩:∃X,X=dK C.aF T.next b aV d:=⟨_,rfl⟩;rw[←hX];unfold dK at hX;rw[J9,uQ] at hX;rw[uQ] at zY;obtain⟨R,hR⟩:∃R:Nat,g.room=(R:Int):=⟨g.room.toNat,by omega⟩;have hRn:g.room.toNat=R:=ay;have hRb:1≤R∧R≤4096:=ay;refine aC.en func64 ntmps64 ?_;refine aj "afL" ?_;refine WL.val (V.load isAgg70 (ak rfl) (fun _=>by repeat (first | exact cZ.Dm 0 _ rfl | apply Rd.up))) rfl ?_;refine WL.mv rfl rfl (WL.c2 call104 rfl rfl (Nv hC hg b) rfl ?_);rintro _ _ ⟨C1,Me,Ki,rfl,yR,rfl⟩;refine aj "jsb~d" (aX (fun aN=> ?_) fun aN=> ?_)
 ·have h0:=aN;rw[if_pos h0] at hX;refine aj "ed" ?_;subst hX;exact qR (C1.A bc::dH bd bc g::T.A bs bd g::F) rfl rfl cu ⟨C1,Me,Ki,yR,rfl,rfl⟩
 ·have h0:=aN;rw[if_neg (fun h=>h ay)] at hX;refine aj "ZL" ?_;refine WL.val (V.gG (vs:=[.i g.bl,.i g.pg,.i g.se,.i g.sb,.i g.fl]) ⟨isAgg23,sizeOf23⟩ (ak rfl) rfl (fun _=>by repeat (first | exact cZ.rdg | apply gD.up))) rfl ?_;refine WL.t1 call122 rfl (l6 zX) rfl ?_;refine aj "Ct" ?_;refine WC.fE (C1.A bc::dH bd bc g::T.A bs bd g::F) (by kernel_rfl) ?_;refine aj "l0@1S2" ?_;refine WA.t 3 rfl (V.gG (vs:=[.i g.bl,.i g.pg,.i g.se,.i g.sb,.i g.fl]) ⟨isAgg23,sizeOf23⟩ (ak rfl) rfl (fun _=>by repeat (first | exact cZ.rdg | apply gD.up))) ?_;refine aj "l4l5~~<6l7@8S9" ?_;refine WA.t 10 rfl (V.load isAgg3 (ak rfl) (fun _=>by repeat (first | exact cZ.Dm 8 _ rfl | apply Rd.up))) ?_;refine WA.t 11 rfl (V.build (vs:=[(0,_),(1,_),(2,_)]) ⟨ak rfl,ak rfl,ak rfl,trivial⟩ rfl (vJ _ _ _)) ?_;refine WA.o 12 rfl ?_;refine WL.c2 call123 rfl rfl (BJ zX ⟨aV,(m:Nat),T.next⟩ (by show (m:Int)≤_;omega) KJ (by show 0≤T.next;have :=hT.next;omega)) rfl ?_;rintro v5 H5 h5;obtain⟨Ap,cp,rfl,rfl⟩:∃Ap cp,v5= .tuple #[.slice Ap g.room.toNat cp,.i 0]∧H5=bq (.slice Ap g.room.toNat cp) 5 1 g.room.toNat (av .u8 (jX g ⟨aV,(m:Nat),T.next⟩))::C1.A bc::dH bd bc g::T.A bs bd g::F:=by
   rcases h5 with ⟨_,h⟩ | ⟨h,_⟩
   ·obtain⟨Ap,cp,h⟩:=h;exact⟨Ap,cp,h.1,h.2⟩
   ·rw[zY] at h;cases h
  refine aj "bl=~u>~u?~w@~wAMagu" ?_;obtain⟨pg,GI⟩:∃pg,pg=qy g ⟨aV,(m:Nat),T.next⟩ d:=⟨_,rfl⟩;obtain⟨N,hN⟩:∃N,N=(g.bO (m:Nat)).toNat:=⟨_,rfl⟩;rw[←GI,←hN] at hX;have rP:∀p,aB 256 (pg p):=fun p=>by rw[GI];exact BH h8 p
  have nu:∀p,(pg p).length=R:=fun p=>by rw[GI,sD zX p,hRn]
  have hpp:∀k,m≤k*R→N≤k:=fun k h=>by rw[hN];exact U9 zX (by rw[hRn];exact h)
  have Xf:∀k,k*R<m→k<N:=fun k h=>by rw[hN];exact XF zX (by rw[hRn];exact h)
  rw[hRn];refine WC.loop (σ:=Cw×Nat×Option Addr×Nat×Option Addr×Nat) (fun s=>[(0,ptr bs 0),(1,.i b),(3,.slice s.2.2.1 (m-s.2.1*R) s.2.2.2.1),(10,.i (R:Int)),(12,.slice s.2.2.2.2.1 R s.2.2.2.2.2),(13,.i 0),(14,.i (s.2.1:Int))]) (fun s=>bq (.slice s.2.2.2.2.1 R s.2.2.2.2.2) 5 1 R (av .u8 (pg s.2.1))::s.1.A bc::dH bd bc g::T.A bs bd g::F) (fun s=>s.1.Ok∧s.1.g=g∧s.2.1≤N∧(gq (C.aF.cK b).1 b pg s.2.1).2=0∧s.1.aF=(gq (C.aF.cK b).1 b pg s.2.1).1∧Seq K F s.2.2.1 (m-s.2.1*R) 1 (av .u8 (d.drop (s.2.1*R)))∧m-s.2.1*R≤s.2.2.2.1) (fun s=>N-s.2.1) (C1,0,A,cap,Ap,cp) ⟨Me,Ki,zero_le _,rfl,yR,by simpa using hd,by show m-0*R≤cap;omega⟩ (.cons rfl (.cons rfl (.cons (look_eq rfl (by simp)) (.cons (look_eq rfl (by rw[hR])) bM)))) (fun w h=>by dsimp only;rw[GI];exact h) ?_;rintro⟨C2,p,Ad,cd,Aq,cq⟩ ⟨AQ,Vu,hpN,hw0,hw1,O1,hcd⟩;dsimp only at AQ Vu hpN hw0 hw1 O1 hcd ⊢;have dJ:gq (C.aF.cK b).1 b pg (p+1)=C2.aF.dL b p (pg p):=by rw[gq,if_neg (fun h=>h hw0),←hw1]
  refine WC.nQ (p:=R≤cq) (fun w h=>by
   obtain⟨_,cap',hv,hle,_⟩:=bq.shape h.head;injection hv with _ _ e3
   rw[e3];exact hle) (fun hrq=> ?_)
  refine aj "Nur%b2hL" ?_;refine WL.val (V.load isAgg70 (ak rfl) (fun _=>by repeat (first | exact cZ.Dm 0 _ rfl | apply Rd.up))) rfl ?_;refine aj "zc~~b" ?_;refine WL.c4 call124 rfl rfl rfl rfl (NM (d:=pg p) AQ Vu b p (bq.seq (by rw[au,Nat.mul_one,nu])) (rP p) hrq ay) rfl ?_;rintro _ _ ⟨C3,Tv,hg3,rfl,SK,rfl⟩;rw[←dJ] at SK ⊢;refine aj "fscY~H~~ZJk" (aX (fun bB=> ?_) fun bB=> ?_)
  ·simp only[Bool.or_eq_true,Bool.or_eq_false_iff,oD] at bB;have h2:=bB;have ac5:gq (C.aF.cK b).1 b pg (N+1)=gq (C.aF.cK b).1 b pg (p+1):=by
    by_cases he:(gq (C.aF.cK b).1 b pg (p+1)).2=0
    ·have h3:((m-p*R:Nat):Int)=0:=by rcases h2 with h | h;exact absurd he h;exact h
     have h4:=hpp p ay;rw[show p=N by omega]
    ·have :=Q9 he (N-p);rw[show p+1+(N-p)=N+1 by omega] at this;exact this
   rw[ac5] at hX;refine aj "ed" ?_;subst hX;exact qR (C3.A bc::dH bd bc g::T.A bs bd g::F) rfl rfl (fun w h=>h.aY 4 [0,1,3] rfl) ⟨C3,Tv,hg3,SK,rfl,rfl⟩
  ·simp only[Bool.or_eq_true,Bool.or_eq_false_iff,oD] at bB;have h2:=bB;have he:(gq (C.aF.cK b).1 b pg (p+1)).2=0:=by have :=h2.1;omega
   have BR:p*R<m:=by have :=h2.2;omega
   have ank:=Xf p BR;obtain⟨q,hq⟩:∃q,q=min R (m-p*R):=⟨_,rfl⟩;have Zl:=Seq.Pw O1 (show q≤m-p*R by omega) hcd;rw[kT,drop_drop] at Zl;have Cg:=Seq.take O1 (show q≤m-p*R by omega);rw[dR] at Cg;have rJ:(p+1)*R=p*R+R:=succ_mul _ _;have hpb:=Nat.le_mul_of_pos_right p (show 0<R by omega);have am9:pg (p+1)=(d.drop (p*R)).take q++replicate (R-q) 0:=by
    rw[GI];show (d.drop (p*g.room.toNat)).take g.room.toNat++replicate (g.room.toNat-((d.drop (p*g.room.toNat)).take g.room.toNat).length) 0=_;rw[hRn,length_take,length_drop,uQ,←hq];have :(d.drop (p*R)).take R=(d.drop (p*R)).take q:=by
     have h9:q=min R (d.drop (p*R)).length:=by rw[length_drop,uQ];exact hq
     rw[h9,←take_eq_take_min]
    rw[this]
   refine aj "Zco" ?_;refine WL.val (V.aI (v':= .i (q:Int)) (V.min (ak rfl) (ak rfl)) (fun _=>by rw[hq];refine congrArg (Value.int .i64) ?_;omega)) rfl ?_;refine aj "0" ?_;refine WL.val (V.aI (v':= .slice Ad q cd) (V.slice (l:=0) (h:=q) (u:=cd) eu (ak rfl) OO.none (OO.some (ak rfl) (fun _=>rfl)) OO.none (by simp) (zero_le _) ay (Nat.le_refl _)) (fun _=>by rw[Nat.sub_zero,Nat.sub_zero,zQ])) rfl ?_;refine WL.c1 call125 rfl (l9 (by repeat (first | exact Cg | apply Seq.up)) ay) rfl ?_;rintro _ _ ⟨A1,c1,rfl,rfl⟩;refine aj "z(" ?_;refine WL.GR (m:=q) (q:=R-q) underlying34 underlying3 zo rfl rfl (ak rfl) (ak rfl) ay ay ay rfl (fun A5 c5 Z5 uf=> ?_);refine aj "gQ" ?_;refine WL.val (V.slice (l:=q) (h:=m-p*R) (u:=cd) eu (ak rfl) (OO.some (ak rfl) (fun _=>rfl)) OO.none OO.none (by simp) ay ay (Nat.le_refl _)) rfl ?_;refine aj "gh.4" ?_;have e1:q+(R-q)=R:=ay;have e2:m-p*R-q=m-(p+1)*R:=ay;refine⟨(C3,p+1,(if cd=q then Ad else Ad.map (·.add (q*1))),cd-q,A5,c5),⟨Tv,hg3,ank,he,SK, ?_, ?_⟩,(by show N-(p+1)<N-p;omega),.cons rfl (.cons rfl (.cons (look_eq rfl (by dsimp only;rw[e2])) (.cons rfl (.cons (look_eq rfl (by dsimp only;rw[e1])) (.cons (look_eq rfl (by rw[he])) bM))))),fun w h=> ?_⟩
   ·dsimp only;rw[e2] at Zl;have e3:d.drop (p*R+q)=d.drop ((p+1)*R):=by
     by_cases hRm:R≤m-p*R
     ·rw[show p*R+q=(p+1)*R by omega]
     ·rw[drop_eq_nil_of_le ay,drop_eq_nil_of_le ay]
    rw[e3] at Zl;exact Zl
   ·show m-(p+1)*R≤cd-q;omega
   ·dsimp only;rw[am9,dA,d9];rw[e1] at h;exact h.aY 5 [0,1,2,4] rfl
end
theorem dw.all{K:World}{l l' H:List aA}{b o:Nat}{vs:List Value}(h:dw K (l++H) b o vs (l'++H)):dw K (bN l::H) b o vs (bN l'::H):=by
 have conv:∀(L:List aA) (k:Nat),(∃B∈L++H,B.jF k)→∃B∈bN L::H,B.jF k:=fun L k ⟨B,hB,hf⟩=>by
  rcases mem_append.1 hB with hB | hB
  ·exact⟨bN L,.head _,B,hB,hf⟩
  ·exact⟨B,.tail _ hB,hf⟩
 refine⟨fun B' ZV k hk=> ?_,conv l b h.own,fun w hw=>h.may w (bS.all.1 hw),fun w hw=>bS.all.2 (h.sat w (bS.all.1 hw))⟩;rcases mem_cons.1 ZV with rfl | ZV
 ·obtain⟨A,hA,hf⟩:=hk;exact conv l k (h.ahK A (mem_append_left _ hA) k hf)
 ·exact⟨B',.tail _ ZV,hk⟩
theorem dw.slA{K:World}{H:List aA}{gb o m cap E:Nat}{cs:List Value}{v:Value}(ho:o<m):dw K (bq (.slice (some ⟨gb,0,none⟩) m cap) E 1 m cs::H) gb o [v] (bq (.slice (some ⟨gb,0,none⟩) m cap) E 1 m (cs.set o v)::H):=by
 have pY:∀w:World,Vt w w:=fun w=>⟨rfl,rfl,rfl,Nat.le_refl _⟩;refine⟨fun B' ZV k hk=> ?_,⟨_,.head _,rfl⟩,fun w hw=> ?_,fun w hw=> ?_⟩
 ·rcases mem_cons.1 ZV with rfl | h
  ·exact⟨_,.head _,hk⟩
  ·exact⟨_,.tail _ h,hk⟩
 ·obtain⟨r,⟨h1,h2,h3,h4⟩,h5⟩:=Sat.rY (K:=w) ⟨pY w,hw⟩;exact (dw.at_ (K:=w) (T:=E) (cs:=cs++r) (v:=v) (by rw[length_append];omega)).may w h5.2
 ·obtain⟨r,⟨h1,h2,h3,h4⟩,h5⟩:=Sat.rY (K:=w) ⟨pY w,hw⟩;have h6:=(dw.at_ (K:=w) (H:=H) (b:=gb) (T:=E) (o:=o) (cs:=cs++r) (v:=v) (by rw[length_append];omega)).sat w h5.2;have h7:=Sat.Nq (K:=w.setCells gb o [v]) (s:=1) (m:=m) (cap:=cap) ⟨pY _,h6⟩ (by rw[length_set];exact h1) h3 h4;rw[set_append_left _ _ ay,Nat.mul_one,take_left' (by rw[length_set];omega)] at h7;exact h7.2
section
variable{bs bd bc:Nat}{g:bL}{K:World}{F:List aA}
theorem cZ.aeP(T:cZ)(x:Int):dw K (T.A bs bd g::F) bs 8 [.i x] (cZ.A bs bd g { T with next:=x }::F):=dw.all (l:=cZ.parts bs bd g T) (l':=cZ.parts bs bd g { T with next:=x }) (dw.here rfl rfl)
theorem cZ.ag0(T:cZ)(x:Int):dw K (T.A bs bd g::F) bs 9 [.i x] (cZ.A bs bd g { T with at_:=x }::F):=dw.all (l:=cZ.parts bs bd g T) (l':=cZ.parts bs bd g { T with at_:=x }) (dw.here rfl rfl)
theorem cZ.agQ{T:cZ}{g1 i:Nat}(hA:T.sA=some ⟨g1,0,none⟩)(hi:i<T.stands.length)(x:Int):dw K (T.A bs bd g::F) g1 i [.i x] (cZ.A bs bd g { T with stands:=T.stands.set i x }::F):=by
 refine dw.all (l:=cZ.parts bs bd g T) (l':=cZ.parts bs bd g { T with stands:=T.stands.set i x }) ?_;obtain⟨stands,sA,sc,b8,fQ,nx,ng,dd⟩:=T;dsimp only at hA hi ⊢;subst hA;unfold cZ.parts cZ.cells cZ.sl;dsimp only;rw[length_set];refine dw.up ?_;have h1:=dw.slA (K:=K) (H:=[ah b8 124 (fQ.map bV.v),bN (fQ.map bV.row)]++F) (gb:=g1) (cap:=sc) (E:=3) (cs:=ints .i64 stands) (v:= .i x) hi;have h2:(ints .i64 stands).set i (.i x)=ints .i64 (stands.set i x):=by unfold ints;rw[map_set]
 rw[h2] at h1;exact h1
theorem cZ.acN{T:cZ}(h0:0<T.stands.length){w:World}(h:Sat K w (T.A bs bd g::F)):∃g1,T.sA=some ⟨g1,0,none⟩:=by
 have h1:Sat K w (cZ.parts bs bd g T++F):=h.Ga;have h2:Sat K w (T.sl::ah bs 127 (T.cells bd g)::ah T.b8 124 (T.fQ.map bV.v)::bN (T.fQ.map bV.row)::F):=h1.p1;cases hA:T.sA with
 | none =>
  unfold cZ.sl at h2;rw[hA] at h2;have :=(bq.F7 h2).1;omega
 | some a =>
  unfold cZ.sl at h2;rw[hA] at h2;obtain⟨g1,rfl⟩:=bq.addr h2;exact⟨g1,rfl⟩
end
def St.mark(T:St)(aV:Int):St:=if 0≤T.ng aV then { T with dN:=T.dN.set aV.toNat (T.dN.getD aV.toNat []++[T.ng aV]) } else T
def St.done(T:St)(aV b bl:Int):St:= { T with stands:=T.stands.set aV.toNat b,next:=T.next+1,at_:=(b+1)%bl }
def D6(aV:Int)(d:List Nat)(S:aD)(T:St)(b:Int):aD×St×Option Int :=
 if (dK S T.next b aV d).2=72 then ((dK S T.next b aV d).1,{ T.forget b with next:=min (T.next+1) 1000000001 },if 1000000000<min (T.next+1) 1000000001 then some 6 else none)
 else if (dK S T.next b aV d).2≠0 then ((dK S T.next b aV d).1,(T.forget b).told (dK S T.next b aV d).2,some (dK S T.next b aV d).2)
 else ((dK S T.next b aV d).1,((T.forget b).mark aV).done aV b S.g.bl,some 0)
def jD(aV:Int)(d:List Nat):List Int→aD→St→aD×St×Option Int
 | [],S,T=>(S,T,none)
 | b::bs,S,T=>if (D6 aV d S T b).2.2=none then jD aV d bs (D6 aV d S T b).1 (D6 aV d S T b).2.1 else D6 aV d S T b
def ko(gd Gf:List Int)(Gu bl:Int)(n j:Nat):List Int:=((range' j (n-j)).map fun (i:Nat)=>(Gu+(i:Int))%bl).filter fun b=>decide (b∈gd∧¬b∈Gf)
theorem Ul{gd Gf:List Int}{Gu bl:Int}{n:Nat}:ko gd Gf Gu bl n n=[]:=by unfold ko;rw[Nat.sub_self];rfl
theorem UE{gd Gf:List Int}{Gu bl:Int}{n j:Nat}(hj:j<n)(h:(Gu+(j:Int))%bl∈gd∧¬(Gu+(j:Int))%bl∈Gf):ko gd Gf Gu bl n j=(Gu+(j:Int))%bl::ko gd Gf Gu bl n (j+1):=by
 unfold ko;rw[show n-j=(n-(j+1))+1 by omega,range'_succ,map_cons,filter_cons_of_pos (by simpa using h)]
theorem YN{gd Gf:List Int}{Gu bl:Int}{n j:Nat}(hj:j<n)(h:¬((Gu+(j:Int))%bl∈gd∧¬(Gu+(j:Int))%bl∈Gf)):ko gd Gf Gu bl n j=ko gd Gf Gu bl n (j+1):=by
 unfold ko;rw[show n-j=(n-(j+1))+1 by omega,range'_succ,map_cons,filter_cons_of_neg (by simpa using h)]
def bg(S:aD)(T:St)(aV:Int)(d:List Nat):aD×St×Int :=
 if T.ready aV≠0 then (S,T,T.ready aV)
 else if S.g.cap<d.length then (S,T,2)
 else if 1000000000<T.next then (S,T,6)
 else match jD aV d (ko S.iF T.stands T.at_ S.g.bl S.g.bl.toNat 0) S T with
  | (S',T',some e)=>(S',T',e)
  | (S',T',none)=>(S',T'.told (if S'.oW=70 then 70 else 6),if S'.oW=70 then 70 else 6)
section
variable{bs bd bc:Nat}{g:bL}{T:cZ}{C:Cw}{K:World}{F:List aA}
set_option maxHeartbeats 1000000 in
theorem vH(hC:C.Ok)(hg:C.g=g)(hT:T.Ok g){aV:Int}{A:Option Addr}{m cap:Nat}{d:List Nat}(hd:Seq K F A m 1 (av .u8 d))(h8:aB 256 d)(O5:m≤cap)(hm:m≤1000000)(uR:∀l∈T.aF.dN,l.length≤1000000) :
 aC prog 16 #[ptr bs 0,.i aV,.slice A m cap] K (C.A bc::dH bd bc g::T.A bs bd g::F)
 (fun v H'=>∃(C':Cw) (T':cZ),C'.Ok∧C'.g=g∧T'.Ok g∧C'.aF=(bg C.aF T.aF aV d).1∧T'.aF=(bg C.aF T.aF aV d).2.1∧v= .i (bg C.aF T.aF aV d).2.2∧H'=C'.A bc::dH bd bc g::T'.A bs bd g::F):=by
 have zX:g.aU:=by rw[←hg];exact hC.aU
 have J9:C.aF.g=g:=hg;have wS:=zX;unfold bL.aU at wS;have uQ:d.length=m:=by simpa [av] using hd.len
 have BX:=bL.tO zX;obtain⟨n,hn⟩:∃n:Nat,g.bl=(n:Int):=⟨g.bl.toNat,by omega⟩;have hnn:g.bl.toNat=n:=ay;obtain⟨R,hR⟩:∃R,R=bg C.aF T.aF aV d:=⟨_,rfl⟩;rw[←hR];unfold bg at hR;rw[J9,uQ] at hR;obtain⟨L,hL⟩:∃L,L=jD aV d (ko C.aF.iF T.aF.stands T.aF.at_ g.bl g.bl.toNat 0) C.aF T.aF:=⟨_,rfl⟩;rw[←hL] at hR;have EX:T.aF.ready aV=0→0≤aV∧aV<T.stands.length:=fun h=>by
  unfold St.ready cZ.aF at h;dsimp only at h;split at h
  ·cases h
  ·split at h
   ·cases h
   ·omega
 refine aC.acK func16 rfl ntmps16 rfl ?_;simp only[lH,reduceAdd];refine aj "a~h" fun b3=> ?_;refine aj "~h" fun b4=> ?_;refine aj "~h" fun b5=> ?_;refine aj "A" fun b6=> ?_;refine aj "BN" ?_;refine WC.sub (H':=T.A bs bd g::C.A bc::dH bd bc g::ah b6 32 [.i 0]::ah b5 34 [.slice A m cap]::ah b4 3 [.i aV]::ah b3 28 [ptr bs 0]::F) (Sub.refl _) (fun w h=>h.aY 7 [6,4,5,0,1,2,3] rfl) ?_;refine aj "q^^" ?_;refine WL.t2 call61 rfl rfl (Fx aV) rfl ?_;refine aj "jsb~d" (aX (fun aN=> ?_) fun aN=> ?_)
 ·have h0:=aN;rw[if_pos h0] at hR;refine aj "e~~c3" ?_;subst hR;exact nH.ret (H':=C.A bc::dH bd bc g::T.A bs bd g::F) (bI.one rfl (R1.JY rfl isAgg32 nS)) (fun w h=>h.aY 7 [1,2,0] rfl) ⟨C,T,hC,hg,hT,rfl,rfl,rfl,rfl⟩
 ·have h0:=aN;have Zy:T.aF.ready aV=0:=ay;rw[if_neg (fun h=>h Zy)] at hR;have SC:=EX Zy;refine aj "HN~k~G~~>~G" ?_;refine WQ.call (vs:=[_]) call50 ⟨ak rfl,trivial⟩ (Yx zX) rfl ?_;refine aj "~~a~m~g~d" (aX (fun aR=> ?_) fun aR=> ?_)
  ·have h1:=aR;rw[if_pos ay] at hR;refine aj "a~~c3" ?_;subst hR;exact nH.ret (H':=C.A bc::dH bd bc g::T.A bs bd g::F) (bI.one rfl (R1.JY rfl isAgg32 nS)) (fun w h=>h.aY 7 [1,2,0] rfl) ⟨C,T,hC,hg,hT,rfl,rfl,rfl,rfl⟩
  ·have h1:=aR;rw[if_neg ay] at hR;refine aj "a^L" ?_;refine WL.val (V.load isAgg3 (ak rfl) (fun _=>cZ.Dm 8 _ rfl)) rfl ?_;refine aj "~Ug~d" (aX (fun bB=> ?_) fun bB=> ?_)
   ·have h2:=bB;rw[if_pos (show 1000000000<T.aF.next from by show 1000000000<T.next;omega)] at hR;refine aj "a~~c3" ?_;subst hR;exact nH.ret (H':=C.A bc::dH bd bc g::T.A bs bd g::F) (bI.one rfl (R1.JY rfl isAgg32 nS)) (fun w h=>h.aY 7 [1,2,0] rfl) ⟨C,T,hC,hg,hT,rfl,rfl,rfl,rfl⟩
   ·have h2:=bB;rw[if_neg (show ¬1000000000<T.aF.next from by show ¬1000000000<T.next;omega)] at hR;refine aj ")a^" ?_;refine WL.c1 call62 rfl (XI) rfl ?_;rintro _ _ ⟨Ah,rfl,rfl⟩;refine aj "bu" ?_;obtain⟨I,hI⟩:∃I:Nat→Cw→cZ→Prop,I=fun j C' T'=>C'.Ok∧C'.g=g∧T'.Ok g∧T'.stands=T.stands∧T'.at_=T.at_∧T'.next≤1000000000∧(∀l∈T'.aF.dN,l.length≤1000000)∧jD aV d (ko C.aF.iF T.stands T.at_ g.bl n j) C'.aF T'.aF=L:=⟨_,rfl⟩;refine WC.sub (H':=C.A bc::dH bd bc g::T.A bs bd g::ah Ah 28 [ptr bs 0]::ah b6 32 [.i 0]::ah b5 34 [.slice A m cap]::ah b4 3 [.i aV]::ah b3 28 [ptr bs 0]::F) (Sub.refl _) (fun w h=>h.aY 8 [2,3,1,0,4,5,6,7] rfl) ?_;refine WC.range (gf:=117) (lb:=[ptr Ah 0]) (Done:=fun H1=>∃X C' T',I n C' T'∧H1=X::C'.A bc::dH bd bc g::T'.A bs bd g::ah Ah 28 [ptr bs 0]::ah b6 32 [.i 0]::ah b5 34 [.slice A m cap]::ah b4 3 [.i aV]::ah b3 28 [ptr bs 0]::F) (X:=fun c H1=>∃(X:aA) (C':Cw) (T':cZ) (e:Int),c= .ret∧C'.Ok∧C'.g=g∧T'.Ok g∧L=(C'.aF,T'.aF,some e)∧H1=X::C'.A bc::dH bd bc g::T'.A bs bd g::ah Ah 28 [ptr bs 0]::ah b6 32 [.i e]::ah b5 34 [.slice A m cap]::ah b4 3 [.i aV]::ah b3 28 [ptr bs 0]::F) rfl call117 (fun r l e1 e2 e3 hA=> ?_) (fun D H1 hd=> ?_) (fun D c H1 hx=>by
     obtain⟨X,C',T',e,rfl,hC',MW,WZ,hLe,rfl⟩:=hx;rw[hLe] at hR;dsimp only at hR;subst hR;refine WC.ret ?_;exact nH.agx (H':=C'.A bc::dH bd bc g::T'.A bs bd g::F) (X::C'.A bc::dH bd bc g::T'.A bs bd g::ah Ah 28 [ptr bs 0]::ah b6 32 [.i e]::ah b5 34 [.slice A m cap]::ah b4 3 [.i aV]::ah b3 28 [ptr bs 0]::F) cu (bI.one rfl (R1.JY rfl isAgg32 nS)) (fun w h=>h.aY 9 [1,2,3] rfl) ⟨C',T',hC',MW,WZ,rfl,rfl,rfl,rfl⟩)
    have hIe:∀j C' T',I j C' T'→C'.Ok∧C'.g=g∧T'.Ok g∧T'.stands=T.stands∧T'.at_=T.at_:=fun j C' T' h=>by rw[hI] at h;exact⟨h.1,h.2.1,h.2.2.1,h.2.2.2.1,h.2.2.2.2.1⟩
    have MS:I 0 C T:=by
     rw[hI];refine⟨hC,hg,hT,rfl,rfl,by omega,uR, ?_⟩;rw[hL,hnn];rfl
    suffices BP:∀j C' T' X,j<n→((T.at_+(j:Int))%g.bl∈C.aF.iF∧¬(T.at_+(j:Int))%g.bl∈T.stands)→I j C' T'→kJ prog K none l #[.i ((T.at_+(j:Int))%g.bl)] (r.A l .ready none::ig r.D::X::C'.A bc::dH bd bc g::T'.A bs bd g::ah Ah 28 [ptr bs 0]::ah b6 32 [.i 0]::ah b5 34 [.slice A m cap]::ah b4 3 [.i aV]::ah b3 28 [ptr bs 0]::F)
     (fun b H'=>(b=true∧∃C2 T2,I (j+1) C2 T2∧H'=r.A l .ready none::ig r.D::X::C2.A bc::dH bd bc g::T2.A bs bd g::ah Ah 28 [ptr bs 0]::ah b6 32 [.i 0]::ah b5 34 [.slice A m cap]::ah b4 3 [.i aV]::ah b3 28 [ptr bs 0]::F) ∨
      (b=false∧∃(C2:Cw) (T2:cZ) (e:Int),C2.Ok∧C2.g=g∧T2.Ok g∧L=(C2.aF,T2.aF,some e)∧H'=r.A l .done (some .ret)::ig r.D::X::C2.A bc::dH bd bc g::T2.A bs bd g::ah Ah 28 [ptr bs 0]::ah b6 32 [.i e]::ah b5 34 [.slice A m cap]::ah b4 3 [.i aV]::ah b3 28 [ptr bs 0]::F)) from by
     have h1:=Zf (b1:=Ah) (Y1:=r.A l .ready none) (Y2:=ig r.D) hn zX hT.at_ I (fun X H'=>∃(C2:Cw) (T2:cZ) (e:Int),C2.Ok∧C2.g=g∧T2.Ok g∧L=(C2.aF,T2.aF,some e)∧H'=r.A l .done (some .ret)::ig r.D::X::C2.A bc::dH bd bc g::T2.A bs bd g::ah Ah 28 [ptr bs 0]::ah b6 32 [.i e]::ah b5 34 [.slice A m cap]::ah b4 3 [.i aV]::ah b3 28 [ptr bs 0]::F) hIe
      (fun j C' T' hj Ce h=>by
       rw[hI] at h ⊢;exact⟨h.1,h.2.1,h.2.2.1,h.2.2.2.1,h.2.2.2.2.1,h.2.2.2.2.2.1,h.2.2.2.2.2.2.1,by rw[←YN hj Ce];exact h.2.2.2.2.2.2.2⟩) BP rfl MS
     exact h1.mono fun v H' ⟨X,h⟩=>by
      rcases h with ⟨C',T',Xh,e⟩ | ⟨C',T',e,k1,k2,k3,k4,eH⟩
      ·exact⟨none,_,e,X,C',T',Xh,rfl⟩
      ·exact⟨some .ret,_,eH,X,C',T',e,rfl,k1,k2,k3,k4,rfl⟩
    rintro j C' T' X hj afv hIj;obtain⟨b,hb⟩:∃b,b=(T.at_+(j:Int))%g.bl:=⟨_,rfl⟩;rw[←hb] at afv ⊢;refine kJ.mono (Dp (n:=115) (args:=[.i b]) (post:=fun jj H1=>(jj=none∧∃C2 T2,I (j+1) C2 T2∧H1=ig r.D::X::C2.A bc::dH bd bc g::T2.A bs bd g::ah Ah 28 [ptr bs 0]::ah b6 32 [.i 0]::ah b5 34 [.slice A m cap]::ah b4 3 [.i aV]::ah b3 28 [ptr bs 0]::F) ∨
     (jj=some .ret∧∃(C2:Cw) (T2:cZ) (e:Int),C2.Ok∧C2.g=g∧T2.Ok g∧L=(C2.aF,T2.aF,some e)∧H1=ig r.D::X::C2.A bc::dH bd bc g::T2.A bs bd g::ah Ah 28 [ptr bs 0]::ah b6 32 [.i e]::ah b5 34 [.slice A m cap]::ah b4 3 [.i aV]::ah b3 28 [ptr bs 0]::F)) (by rw[e1];rfl) (by rw[e1];simp) hA ?_) (fun b2 H' ⟨jj,H1,tX,hj2,eH⟩=>by
     rcases hj2 with ⟨rfl,C2,T2,Xh,rfl⟩ | ⟨rfl,C2,T2,e,k1,k2,k3,k4,rfl⟩
     ·exact .inl ⟨tX,C2,T2,Xh,eH⟩
     ·exact .inr ⟨tX,C2,T2,e,k1,k2,k3,k4,eH⟩)
    rw[e1,e2];rw[hI] at hIj;obtain⟨hC',MW,WZ,ac7,alB,anx,ajT,KZ⟩:=hIj;rw[UE hj (by rw[←hb];exact afv),←hb] at KZ;have hbb:0≤b∧b<g.bl:=by
     rw[hb];exact⟨Int.emod_nonneg _ ay,Int.emod_lt_of_pos _ ay⟩
    refine WC.sub (E:=(31,_)::_) (Sub.refl _) cu ?_
    ·skip
     refine aj "qg" ?_;refine⟨_,fun w h=>h, ?_⟩;rw[e3];refine aj "ua^c~~S" ?_;refine WL.c2 call63 rfl rfl (Oi WZ b) rfl ?_;rintro v34 _ ⟨T1,lU,yR,rfl⟩;have ak2:T1.next=T'.next:=congrArg St.next yR;have aaA:T1.stands=T.stands:=(congrArg St.stands yR).trans ac7;have anh:T1.at_=T.at_:=(congrArg St.at_ yR).trans alB;have hnb:=WZ.next;have alo:∀l∈T1.aF.dN,l.length≤1000000:=fun l hl=>by
      rw[yR] at hl;obtain⟨l',GA,rfl⟩:=mem_map.1 hl;exact Nat.le_trans (length_filter_le _ _) (ajT l' GA)
     have WY:=hT.aJ;have zY:Hd.may g ⟨aV,(d.length:Nat),T1.next⟩=true:=by
      unfold Hd.may bL.fits;simp only[Bool.and_eq_true,decide_eq_true_eq];rw[uQ,ak2];exact⟨⟨⟨⟨⟨by omega,by omega⟩,by omega⟩,by omega⟩,by omega⟩,by omega⟩
     refine aj "T^c^^" ?_;refine WL.sub (Sub.refl _) (fun w h=>h.aY 6 [4,5,0,1,2,3] rfl) ?_;refine WL.c4 call64 rfl rfl rfl rfl (PK (d:=d) hC' MW lU (by repeat (first | exact hd | apply Seq.up)) h8 O5 hm SC.1 zY) rfl ?_;rintro _ _ ⟨C2,AQ,Vu,rJ,rfl,rfl⟩;obtain⟨W,hW⟩:∃W,W=dK C'.aF T1.next b aV d:=⟨_,rfl⟩;rw[←hW] at rJ ⊢;have aR:D6 aV d C'.aF T'.aF b=if W.2=72 then (W.1,{ T1.aF with next:=min (T1.next+1) 1000000001 },if 1000000000<min (T1.next+1) 1000000001 then some 6 else none) else if W.2≠0 then (W.1,T1.aF.told W.2,some W.2) else (W.1,(T1.aF.mark aV).done aV b g.bl,some 0):=by
      unfold D6;rw[show C'.aF.g=g from MW,show T'.aF.next=T1.next from ak2.symm,←hW,←yR]
     rw[jD,aR] at KZ;refine aj "f%bX" (aX (fun eF=> ?_) fun eF=> ?_)
     ·have h3:=eF;rw[if_pos h3] at KZ;dsimp only at KZ;refine WC.seq ?_;refine WC.sub (H':=T1.A bs bd g::C2.A bc::dH bd bc g::r.A l .busy none::ig r.D::X::ah Ah 28 [ptr bs 0]::ah b6 32 [.i 0]::ah b5 34 [.slice A m cap]::ah b4 3 [.i aV]::ah b3 28 [ptr bs 0]::F) (Sub.refl _) (fun w h=>h.aY 3 [2,0,1] rfl) ?_;refine WC.o9 (C2.A bc::dH bd bc g::r.A l .busy none::ig r.D::X::ah Ah 28 [ptr bs 0]::ah b6 32 [.i 0]::ah b5 34 [.slice A m cap]::ah b4 3 [.i aV]::ah b3 28 [ptr bs 0]::F) (by kernel_rfl) ?_;refine aj ":0:1@2S3n4" ?_;refine WL.val (V.load isAgg3 (ak rfl) (fun _=>cZ.Dm 8 _ rfl)) rfl ?_;refine aj "b~~E5" ?_;refine WA.t 6 rfl (V.min (ak rfl) (ak rfl)) ?_;refine aj "@7S8n9" ?_;refine WL.store (cs:=[_]) sizeOf3 (ak rfl) (ak rfl) rfl rfl rfl (cZ.aeP T1 (min (T1.next+1) 1000000001)) ?_;refine aj "bMNa^L" ?_;refine WL.val (V.load isAgg3 (ak rfl) (fun _=>cZ.Dm 8 _ rfl)) rfl ?_;refine aj "~UbX" (aX (fun mZ=> ?_) fun mZ=> ?_)
      ·have h4:1000000000<min (T1.next+1) 1000000001∨¬1000000000<min (T1.next+1) 1000000001:=Decidable.em _;have h4:1000000000<min (T1.next+1) 1000000001:=by have :=mZ;exact this
       rw[if_pos h4,if_neg (fun h=>by cases h)] at KZ;have wP:cZ.Ok g { T1 with next:=min (T1.next+1) 1000000001 }:=⟨lU.len,lU.aJ,by show 1≤min (T1.next+1) 1000000001∧min (T1.next+1) 1000000001≤1000000001;omega,lU.at_,lU.Gf⟩;refine aj "a~j3" ?_;exact⟨_,fun w h=>h.aY 6 [3,4,5,1,2,0] rfl,.inr ⟨rfl,C2,_,6,AQ,Vu,wP,by rw[←KZ,rJ];rfl,rfl⟩⟩
      ·have h4:1000000000<min (T1.next+1) 1000000001∨¬1000000000<min (T1.next+1) 1000000001:=Decidable.em _;have h4:¬1000000000<min (T1.next+1) 1000000001:=by have :=mZ;exact this
       rw[if_neg h4,if_pos rfl] at KZ;have wP:cZ.Ok g { T1 with next:=min (T1.next+1) 1000000001 }:=⟨lU.len,lU.aJ,by show 1≤min (T1.next+1) 1000000001∧min (T1.next+1) 1000000001≤1000000001;omega,lU.at_,lU.Gf⟩;refine aj "iR" ?_;refine⟨_,fun w h=>h.aY 6 [3,4,5,1,2,0] rfl,.inl ⟨rfl,C2,_, ?_,rfl⟩⟩;rw[hI];exact⟨AQ,Vu,wP,aaA,anh,by show min (T1.next+1) 1000000001≤1000000000;omega,alo,by rw[rJ];exact KZ⟩
     ·have h3:=eF;rw[if_neg h3] at KZ;refine aj "irsb~d" (aX (fun uf=> ?_) fun uf=> ?_)
      ·have h5:=uf;rw[if_pos h5,if_neg (fun h=>by cases h)] at KZ;refine aj "a^c~~p" ?_;refine WL.c2 call65 rfl rfl (vk W.2) rfl ?_;rintro _ _ ⟨rfl,rfl⟩;refine aj "~j3" ?_;exact⟨_,fun w h=>h.aY 6 [3,4,5,1,2,0] rfl,.inr ⟨rfl,C2,_,W.2,AQ,Vu,lU.told _,by rw[←KZ,rJ];rfl,rfl⟩⟩
      ·have h5:=uf;rw[if_neg (show ¬(W.2≠0) from fun h=>h ay),if_neg (fun h=>by cases h)] at KZ;refine aj ")N" ?_;have acZ:0≤aV∧aV<T1.stands.length:=by rw[aaA];exact SC
       refine WC.Qm (by kernel_rfl) (by kernel_rfl) ?_;refine aj "~G~&~y" ?_;refine WQ.val (V.load isAgg124 (ak rfl) (fun _=>by repeat (first | exact cZ.Dm 6 _ rfl | apply Rd.up))) rfl ?_;refine aj "~G" ?_;refine WQ.val (V.eD fZ (ak rfl) (ak rfl) (fun _=>acZ) (fun _=>by repeat (first | exact cZ.rdS acZ | apply Rd.up))) rfl ?_;refine WQ.val (V.load isAgg3 (ak rfl) (fun _=>by repeat (first | exact cZ.rdS acZ | apply Rd.up))) rfl ?_;refine aj "~m~ge~ik" (aX (fun Zt=> ?_) fun Zt=> ?_)
       ·simp only[ge_iff_le,dh] at Zt;have h6:=Zt;have hmk:T1.aF.mark aV= { T1.aF with dN:=T1.aF.dN.set aV.toNat (T1.aF.dN.getD aV.toNat []++[T1.aF.ng aV]) }:=by unfold St.mark;rw[if_pos ay]
        have Gb:=lU.len;obtain⟨q,hq⟩:∃q,q=T1.fQ[aV.toNat]'ay:=⟨_,rfl⟩;have hqg:T1.fQ[aV.toNat]? =some q:=by rw[hq];exact getElem?_eq_getElem ay
        have hqv:(T1.fQ.map bV.v)[0+aV.toNat*1]? =some q.v:=by rw[show 0+aV.toNat*1=aV.toNat by omega,getElem?_map,hqg];rfl
        have hqb:q.l.length≤1000000:=alo _ (mem_map.2 ⟨q,by rw[hq];exact getElem_mem _,rfl⟩);have acC:(T1.fQ.map bV.row)[aV.toNat]'(by rw[length_map];omega)=q.row:=by rw[getElem_map,hq]
        refine WC.sub (H':=bq (.slice q.A q.l.length q.c) 3 1 q.l.length (ints .i64 q.l)::ah T1.b8 124 (T1.fQ.map bV.v)::bN ((T1.fQ.map bV.row).eraseIdx aV.toNat)::ah bs 127 (T1.cells bd g)::T1.sl::C2.A bc::dH bd bc g::r.A l .busy none::ig r.D::X::ah Ah 28 [ptr bs 0]::ah b6 32 [.i 0]::ah b5 34 [.slice A m cap]::ah b4 3 [.i aV]::ah b3 28 [ptr bs 0]::F) (Sub.refl _) (fun w h=>by
         have h9:Sat K w (cZ.parts bs bd g T1++(C2.A bc::dH bd bc g::r.A l .busy none::ig r.D::X::ah Ah 28 [ptr bs 0]::ah b6 32 [.i 0]::ah b5 34 [.slice A m cap]::ah b4 3 [.i aV]::ah b3 28 [ptr bs 0]::F)):=(h.aY 3 [2,0,1] rfl).Ga;have h10:=Sat.Gc (k:=aV.toNat) (by rw[length_map];omega) (h9.aY 4 [3,2,0,1] rfl);rw[acC] at h10;exact h10.aY 5 [0,2,1,3,4] rfl) ?_
        refine WC.o9 (bN ((T1.fQ.map bV.row).eraseIdx aV.toNat)::ah bs 127 (T1.cells bd g)::T1.sl::C2.A bc::dH bd bc g::r.A l .busy none::ig r.D::X::ah Ah 28 [ptr bs 0]::ah b6 32 [.i 0]::ah b5 34 [.slice A m cap]::ah b4 3 [.i aV]::ah b3 28 [ptr bs 0]::F) (by kernel_rfl) ?_;refine aj ":0@1S2:3:4:5@6S7:8:9[:l<" ?_;refine WA.two (i:=11) (j:=13) gy (by kernel_rfl) rfl rfl ?_ ?_
        ·refine WL.val (V.load isAgg124 (ak rfl) (fun _=>by repeat (first | exact Rd.here hqv | apply Rd.up))) rfl ?_;refine aj "bn=" ?_;refine WL.buildSlice (E:=3) (cs:=[_]) (vs:=[(0,_)]) ⟨ak rfl,trivial⟩ rfl (eO _) rfl (fun b83=> ?_);refine aj "bn>|" ?_;refine WL.append (m:=q.l.length) (q:=1) (news:=[.i (T1.aF.ng aV)]) underlying124 Td (ak rfl) (ak rfl) (Seq.all rfl) (by intro u hu;rw[mem_singleton.1 hu];rfl) ay rfl rfl (fun A5 c5 Z5 uf=> ?_);refine aj "b[?n@" ?_;refine WL.store (cs:=[_]) sizeOf124 (ak rfl) (ak rfl) rfl rfl rfl (dw.up (dw.up (dw.at_ (by rw[length_map];omega)))) ?_;refine aj "bMN" ?_;first
          | (
           obtain⟨T3,uS⟩:∃T3:cZ,T3= { T1 with fQ:=T1.fQ.set aV.toNat ⟨A5,c5,q.l++[T1.aF.ng aV]⟩ }:=⟨_,rfl⟩;have uN:T3.Ok g:=by
            rw[uS];exact⟨by show (T1.fQ.set _ _).length=_;rw[length_set];exact lU.len,lU.aJ,lU.next,lU.at_,lU.Gf⟩
           have SK:T3.aF=T1.aF.mark aV:=by
            rw[hmk,uS];unfold cZ.aF;dsimp only;rw[map_set];have e1:(T1.fQ.map bV.l).getD aV.toNat []=q.l:=by
             simp only[getD,getElem?_map,hqg,Option.map_some,Option.getD_some]
            rw[e1]
           have hd3:T3.stands=T1.stands:=by rw[uS]
           refine WC.sub (H':=T3.A bs bd g::C2.A bc::dH bd bc g::r.A l .busy none::ig r.D::X::ah Ah 28 [ptr bs 0]::ah b6 32 [.i 0]::ah b5 34 [.slice A m cap]::ah b4 3 [.i aV]::ah b3 28 [ptr bs 0]::F) (Sub.refl _) (fun w h=>by
            have h5:=h.aY 6 [0,3,2,4,5] rfl;have e1:bq (.slice A5 (q.l.length+1) c5) 3 1 (q.l.length+1) (ints .i64 q.l++[.i (T1.aF.ng aV)])=bV.row ⟨A5,c5,q.l++[T1.aF.ng aV]⟩:=by
             unfold bV.row;rw[eP,length_append];rfl
            rw[e1] at h5;have h6:=Sat.KR (l:=T1.fQ.map bV.row) (k:=aV.toNat) (by rw[length_map];omega) h5;have e2:(T1.fQ.map bV.v).set (0+aV.toNat*1) (.slice A5 (q.l.length+1) c5)=(T1.fQ.set aV.toNat ⟨A5,c5,q.l++[T1.aF.ng aV]⟩).map bV.v:=by
             rw[show 0+aV.toNat*1=aV.toNat by omega,map_set];show _=(T1.fQ.map bV.v).set aV.toNat (.slice A5 (q.l++[T1.aF.ng aV]).length c5);rw[length_append];rfl
            rw[e2,←map_set] at h6;have h7:=Sat.all (l:=cZ.parts bs bd g T3) (H:=C2.A bc::dH bd bc g::r.A l .busy none::ig r.D::X::ah Ah 28 [ptr bs 0]::ah b6 32 [.i 0]::ah b5 34 [.slice A m cap]::ah b4 3 [.i aV]::ah b3 28 [ptr bs 0]::F) (K:=K) (w:=w) (by
             unfold cZ.parts cZ.cells cZ.sl;rw[uS];dsimp only;rw[length_set];exact h6.aY 4 [2,3,1,0] rfl)
            exact h7) ?_)
          | (
           obtain⟨T3,uS⟩:∃T3:cZ,T3=T1:=⟨_,rfl⟩;have uN:T3.Ok g:=by rw[uS];exact lU
           have SK:T3.aF=T1.aF.mark aV:=by rw[hmk,uS]
           have hd3:T3.stands=T1.stands:=by rw[uS]
           rw[←uS];refine WC.sub (H':=T3.A bs bd g::C2.A bc::dH bd bc g::r.A l .busy none::ig r.D::X::ah Ah 28 [ptr bs 0]::ah b6 32 [.i 0]::ah b5 34 [.slice A m cap]::ah b4 3 [.i aV]::ah b3 28 [ptr bs 0]::F) (Sub.refl _) (fun w h=>h.aY 3 [2,0,1] rfl) ?_)
         rw[←SK] at KZ;have ai3:0≤aV∧aV<T3.stands.length:=by rw[hd3,aaA];exact SC
         refine WC.nQ (p:=∃g1,T3.sA=some ⟨g1,0,none⟩) (fun w h=>cZ.acN ay h) (fun ⟨g1,MV⟩=> ?_);refine WC.o9 (C2.A bc::dH bd bc g::r.A l .busy none::ig r.D::X::ah Ah 28 [ptr bs 0]::ah b6 32 [.i 0]::ah b5 34 [.slice A m cap]::ah b4 3 [.i aV]::ah b3 28 [ptr bs 0]::F) (by kernel_rfl) ?_;refine aj ":0@1S2:4l5n3" ?_;refine WL.val (V.aI (v':= .slice (some ⟨g1,0,none⟩) T3.stands.length T3.sc) (V.load isAgg124 (ak rfl) (fun _=>cZ.Dm 6 _ rfl)) (fun _=>by rw[MV])) rfl ?_;refine aj "b[6n7" ?_;refine WL.store (cs:=[_]) sizeOf3 (ak rfl) (ak rfl) rfl rfl rfl (cZ.agQ MV ay b) ?_;refine aj "bMa^L" ?_;refine WL.val (V.load isAgg3 (ak rfl) (fun _=>cZ.Dm 8 _ rfl)) rfl ?_;have ab9:=uN.next;refine aj "~~[L" ?_;refine WL.store (cs:=[_]) sizeOf3 (ak rfl) (ak rfl) rfl rfl rfl (cZ.aeP _ _) ?_;refine aj "B" ?_;refine WC.o9 (C2.A bc::dH bd bc g::r.A l .busy none::ig r.D::X::ah Ah 28 [ptr bs 0]::ah b6 32 [.i 0]::ah b5 34 [.slice A m cap]::ah b4 3 [.i aV]::ah b3 28 [ptr bs 0]::F) (by kernel_rfl) ?_;refine aj ":0l1~~E2:3@4S5S6n7" ?_;refine WL.val (V.load isAgg3 (ak rfl) (fun _=>cZ.Dm 1 _ rfl)) rfl ?_;refine aj "b~~]8@9S:n;" ?_;refine WL.store (cs:=[_]) sizeOf3 (ak rfl) (ak rfl) rfl rfl rfl (cZ.ag0 _ _) ?_;refine aj "bMa~j3" ?_;refine⟨_,fun w h=>h.aY 6 [3,4,5,1,2,0] rfl,.inr ⟨rfl,C2,_,0,AQ,Vu, ?_, ?_,rfl⟩⟩
         ·have ab9:=uN.next;have hn3:T3.next≤1000000000:=by
           have e1:T3.aF.next=T1.aF.next:=by rw[SK];unfold St.mark;split<;>rfl
           have e2:T3.next=T1.next:=e1;omega
          have Ta:0≤(b+1)%g.bl∧(b+1)%g.bl<g.bl:=⟨Int.emod_nonneg _ ay,Int.emod_lt_of_pos _ ay⟩;refine⟨by show T3.fQ.length=(T3.stands.set _ _).length;rw[length_set];exact uN.len,by show 1≤(T3.stands.set _ _).length∧_;rw[length_set];exact uN.aJ,by show 1≤T3.next+1∧T3.next+1≤1000000001;omega,Ta,fun x hx=> ?_⟩;rcases mem_or_eq_of_mem_set hx with hx | rfl
          ·exact uN.Gf x hx
          ·omega
         ·rw[←KZ,rJ];unfold St.done cZ.aF;dsimp only;rw[show 0+aV.toNat*1=aV.toNat by omega]
        ·refine WL.buildSlice (E:=3) (cs:=[_]) (vs:=[(0,_)]) ⟨ak rfl,trivial⟩ rfl (eO _) rfl (fun b83=> ?_);refine aj "bn;" ?_;refine WL.val (V.load isAgg124 (ak rfl) (fun _=>by repeat (first | exact Rd.here hqv | apply Rd.up))) rfl ?_;refine aj "bn>|" ?_;refine WL.append (m:=q.l.length) (q:=1) (news:=[.i (T1.aF.ng aV)]) underlying124 Td (ak rfl) (ak rfl) (Seq.all rfl) (by intro u hu;rw[mem_singleton.1 hu];rfl) ay rfl rfl (fun A5 c5 Z5 uf=> ?_);refine aj "b[?n@" ?_;refine WL.store (cs:=[_]) sizeOf124 (ak rfl) (ak rfl) rfl rfl rfl (dw.up (dw.up (dw.at_ (by rw[length_map];omega)))) ?_;refine aj "bMN" ?_;first
          | (
           obtain⟨T3,uS⟩:∃T3:cZ,T3= { T1 with fQ:=T1.fQ.set aV.toNat ⟨A5,c5,q.l++[T1.aF.ng aV]⟩ }:=⟨_,rfl⟩;have uN:T3.Ok g:=by
            rw[uS];exact⟨by show (T1.fQ.set _ _).length=_;rw[length_set];exact lU.len,lU.aJ,lU.next,lU.at_,lU.Gf⟩
           have SK:T3.aF=T1.aF.mark aV:=by
            rw[hmk,uS];unfold cZ.aF;dsimp only;rw[map_set];have e1:(T1.fQ.map bV.l).getD aV.toNat []=q.l:=by
             simp only[getD,getElem?_map,hqg,Option.map_some,Option.getD_some]
            rw[e1]
           have hd3:T3.stands=T1.stands:=by rw[uS]
           refine WC.sub (H':=T3.A bs bd g::C2.A bc::dH bd bc g::r.A l .busy none::ig r.D::X::ah Ah 28 [ptr bs 0]::ah b6 32 [.i 0]::ah b5 34 [.slice A m cap]::ah b4 3 [.i aV]::ah b3 28 [ptr bs 0]::F) (Sub.refl _) (fun w h=>by
            have h5:=h.aY 6 [0,3,2,4,5] rfl;have e1:bq (.slice A5 (q.l.length+1) c5) 3 1 (q.l.length+1) (ints .i64 q.l++[.i (T1.aF.ng aV)])=bV.row ⟨A5,c5,q.l++[T1.aF.ng aV]⟩:=by
             unfold bV.row;rw[eP,length_append];rfl
            rw[e1] at h5;have h6:=Sat.KR (l:=T1.fQ.map bV.row) (k:=aV.toNat) (by rw[length_map];omega) h5;have e2:(T1.fQ.map bV.v).set (0+aV.toNat*1) (.slice A5 (q.l.length+1) c5)=(T1.fQ.set aV.toNat ⟨A5,c5,q.l++[T1.aF.ng aV]⟩).map bV.v:=by
             rw[show 0+aV.toNat*1=aV.toNat by omega,map_set];show _=(T1.fQ.map bV.v).set aV.toNat (.slice A5 (q.l++[T1.aF.ng aV]).length c5);rw[length_append];rfl
            rw[e2,←map_set] at h6;have h7:=Sat.all (l:=cZ.parts bs bd g T3) (H:=C2.A bc::dH bd bc g::r.A l .busy none::ig r.D::X::ah Ah 28 [ptr bs 0]::ah b6 32 [.i 0]::ah b5 34 [.slice A m cap]::ah b4 3 [.i aV]::ah b3 28 [ptr bs 0]::F) (K:=K) (w:=w) (by
             unfold cZ.parts cZ.cells cZ.sl;rw[uS];dsimp only;rw[length_set];exact h6.aY 4 [2,3,1,0] rfl)
            exact h7) ?_)
          | (
           obtain⟨T3,uS⟩:∃T3:cZ,T3=T1:=⟨_,rfl⟩;have uN:T3.Ok g:=by rw[uS];exact lU
           have SK:T3.aF=T1.aF.mark aV:=by rw[hmk,uS]
           have hd3:T3.stands=T1.stands:=by rw[uS]
           rw[←uS];refine WC.sub (H':=T3.A bs bd g::C2.A bc::dH bd bc g::r.A l .busy none::ig r.D::X::ah Ah 28 [ptr bs 0]::ah b6 32 [.i 0]::ah b5 34 [.slice A m cap]::ah b4 3 [.i aV]::ah b3 28 [ptr bs 0]::F) (Sub.refl _) (fun w h=>h.aY 3 [2,0,1] rfl) ?_)
         rw[←SK] at KZ;have ai3:0≤aV∧aV<T3.stands.length:=by rw[hd3,aaA];exact SC
         refine WC.nQ (p:=∃g1,T3.sA=some ⟨g1,0,none⟩) (fun w h=>cZ.acN ay h) (fun ⟨g1,MV⟩=> ?_);refine WC.o9 (C2.A bc::dH bd bc g::r.A l .busy none::ig r.D::X::ah Ah 28 [ptr bs 0]::ah b6 32 [.i 0]::ah b5 34 [.slice A m cap]::ah b4 3 [.i aV]::ah b3 28 [ptr bs 0]::F) (by kernel_rfl) ?_;refine aj ":0@1S2:4l5n3" ?_;refine WL.val (V.aI (v':= .slice (some ⟨g1,0,none⟩) T3.stands.length T3.sc) (V.load isAgg124 (ak rfl) (fun _=>cZ.Dm 6 _ rfl)) (fun _=>by rw[MV])) rfl ?_;refine aj "b[6n7" ?_;refine WL.store (cs:=[_]) sizeOf3 (ak rfl) (ak rfl) rfl rfl rfl (cZ.agQ MV ay b) ?_;refine aj "bMa^L" ?_;refine WL.val (V.load isAgg3 (ak rfl) (fun _=>cZ.Dm 8 _ rfl)) rfl ?_;have ab9:=uN.next;refine aj "~~[L" ?_;refine WL.store (cs:=[_]) sizeOf3 (ak rfl) (ak rfl) rfl rfl rfl (cZ.aeP _ _) ?_;refine aj "B" ?_;refine WC.o9 (C2.A bc::dH bd bc g::r.A l .busy none::ig r.D::X::ah Ah 28 [ptr bs 0]::ah b6 32 [.i 0]::ah b5 34 [.slice A m cap]::ah b4 3 [.i aV]::ah b3 28 [ptr bs 0]::F) (by kernel_rfl) ?_;refine aj ":0l1~~E2:3@4S5S6n7" ?_;refine WL.val (V.load isAgg3 (ak rfl) (fun _=>cZ.Dm 1 _ rfl)) rfl ?_;refine aj "b~~]8@9S:n;" ?_;refine WL.store (cs:=[_]) sizeOf3 (ak rfl) (ak rfl) rfl rfl rfl (cZ.ag0 _ _) ?_;refine aj "bMa~j3" ?_;refine⟨_,fun w h=>h.aY 6 [3,4,5,1,2,0] rfl,.inr ⟨rfl,C2,_,0,AQ,Vu, ?_, ?_,rfl⟩⟩
         ·have ab9:=uN.next;have hn3:T3.next≤1000000000:=by
           have e1:T3.aF.next=T1.aF.next:=by rw[SK];unfold St.mark;split<;>rfl
           have e2:T3.next=T1.next:=e1;omega
          have Ta:0≤(b+1)%g.bl∧(b+1)%g.bl<g.bl:=⟨Int.emod_nonneg _ ay,Int.emod_lt_of_pos _ ay⟩;refine⟨by show T3.fQ.length=(T3.stands.set _ _).length;rw[length_set];exact uN.len,by show 1≤(T3.stands.set _ _).length∧_;rw[length_set];exact uN.aJ,by show 1≤T3.next+1∧T3.next+1≤1000000001;omega,Ta,fun x hx=> ?_⟩;rcases mem_or_eq_of_mem_set hx with hx | rfl
          ·exact uN.Gf x hx
          ·omega
         ·rw[←KZ,rJ];unfold St.done cZ.aF;dsimp only;rw[show 0+aV.toNat*1=aV.toNat by omega]
       ·simp only[ge_iff_le,dh] at Zt;have h6:=Zt;have hmk:T1.aF.mark aV=T1.aF:=by unfold St.mark;rw[if_neg ay]
        refine aj ")" ?_;first
         | (
          obtain⟨T3,uS⟩:∃T3:cZ,T3= { T1 with fQ:=T1.fQ.set aV.toNat ⟨A5,c5,q.l++[T1.aF.ng aV]⟩ }:=⟨_,rfl⟩;have uN:T3.Ok g:=by
           rw[uS];exact⟨by show (T1.fQ.set _ _).length=_;rw[length_set];exact lU.len,lU.aJ,lU.next,lU.at_,lU.Gf⟩
          have SK:T3.aF=T1.aF.mark aV:=by
           rw[hmk,uS];unfold cZ.aF;dsimp only;rw[map_set];have e1:(T1.fQ.map bV.l).getD aV.toNat []=q.l:=by
            simp only[getD,getElem?_map,hqg,Option.map_some,Option.getD_some]
           rw[e1]
          have hd3:T3.stands=T1.stands:=by rw[uS]
          refine WC.sub (H':=T3.A bs bd g::C2.A bc::dH bd bc g::r.A l .busy none::ig r.D::X::ah Ah 28 [ptr bs 0]::ah b6 32 [.i 0]::ah b5 34 [.slice A m cap]::ah b4 3 [.i aV]::ah b3 28 [ptr bs 0]::F) (Sub.refl _) (fun w h=>by
           have h5:=h.aY 6 [0,3,2,4,5] rfl;have e1:bq (.slice A5 (q.l.length+1) c5) 3 1 (q.l.length+1) (ints .i64 q.l++[.i (T1.aF.ng aV)])=bV.row ⟨A5,c5,q.l++[T1.aF.ng aV]⟩:=by
            unfold bV.row;rw[eP,length_append];rfl
           rw[e1] at h5;have h6:=Sat.KR (l:=T1.fQ.map bV.row) (k:=aV.toNat) (by rw[length_map];omega) h5;have e2:(T1.fQ.map bV.v).set (0+aV.toNat*1) (.slice A5 (q.l.length+1) c5)=(T1.fQ.set aV.toNat ⟨A5,c5,q.l++[T1.aF.ng aV]⟩).map bV.v:=by
            rw[show 0+aV.toNat*1=aV.toNat by omega,map_set];show _=(T1.fQ.map bV.v).set aV.toNat (.slice A5 (q.l++[T1.aF.ng aV]).length c5);rw[length_append];rfl
           rw[e2,←map_set] at h6;have h7:=Sat.all (l:=cZ.parts bs bd g T3) (H:=C2.A bc::dH bd bc g::r.A l .busy none::ig r.D::X::ah Ah 28 [ptr bs 0]::ah b6 32 [.i 0]::ah b5 34 [.slice A m cap]::ah b4 3 [.i aV]::ah b3 28 [ptr bs 0]::F) (K:=K) (w:=w) (by
            unfold cZ.parts cZ.cells cZ.sl;rw[uS];dsimp only;rw[length_set];exact h6.aY 4 [2,3,1,0] rfl)
           exact h7) ?_)
         | (
          obtain⟨T3,uS⟩:∃T3:cZ,T3=T1:=⟨_,rfl⟩;have uN:T3.Ok g:=by rw[uS];exact lU
          have SK:T3.aF=T1.aF.mark aV:=by rw[hmk,uS]
          have hd3:T3.stands=T1.stands:=by rw[uS]
          rw[←uS];refine WC.sub (H':=T3.A bs bd g::C2.A bc::dH bd bc g::r.A l .busy none::ig r.D::X::ah Ah 28 [ptr bs 0]::ah b6 32 [.i 0]::ah b5 34 [.slice A m cap]::ah b4 3 [.i aV]::ah b3 28 [ptr bs 0]::F) (Sub.refl _) (fun w h=>h.aY 3 [2,0,1] rfl) ?_)
        rw[←SK] at KZ;have ai3:0≤aV∧aV<T3.stands.length:=by rw[hd3,aaA];exact SC
        refine WC.nQ (p:=∃g1,T3.sA=some ⟨g1,0,none⟩) (fun w h=>cZ.acN ay h) (fun ⟨g1,MV⟩=> ?_);refine WC.o9 (C2.A bc::dH bd bc g::r.A l .busy none::ig r.D::X::ah Ah 28 [ptr bs 0]::ah b6 32 [.i 0]::ah b5 34 [.slice A m cap]::ah b4 3 [.i aV]::ah b3 28 [ptr bs 0]::F) (by kernel_rfl) ?_;refine aj ":0@1S2:4l5n3" ?_;refine WL.val (V.aI (v':= .slice (some ⟨g1,0,none⟩) T3.stands.length T3.sc) (V.load isAgg124 (ak rfl) (fun _=>cZ.Dm 6 _ rfl)) (fun _=>by rw[MV])) rfl ?_;refine aj "b[6n7" ?_;refine WL.store (cs:=[_]) sizeOf3 (ak rfl) (ak rfl) rfl rfl rfl (cZ.agQ MV ay b) ?_;refine aj "bMa^L" ?_;refine WL.val (V.load isAgg3 (ak rfl) (fun _=>cZ.Dm 8 _ rfl)) rfl ?_;have ab9:=uN.next;refine aj "~~[L" ?_;refine WL.store (cs:=[_]) sizeOf3 (ak rfl) (ak rfl) rfl rfl rfl (cZ.aeP _ _) ?_;refine aj "B" ?_;refine WC.o9 (C2.A bc::dH bd bc g::r.A l .busy none::ig r.D::X::ah Ah 28 [ptr bs 0]::ah b6 32 [.i 0]::ah b5 34 [.slice A m cap]::ah b4 3 [.i aV]::ah b3 28 [ptr bs 0]::F) (by kernel_rfl) ?_;refine aj ":0l1~~E2:3@4S5S6n7" ?_;refine WL.val (V.load isAgg3 (ak rfl) (fun _=>cZ.Dm 1 _ rfl)) rfl ?_;refine aj "b~~]8@9S:n;" ?_;refine WL.store (cs:=[_]) sizeOf3 (ak rfl) (ak rfl) rfl rfl rfl (cZ.ag0 _ _) ?_;refine aj "bMa~j3" ?_;refine⟨_,fun w h=>h.aY 6 [3,4,5,1,2,0] rfl,.inr ⟨rfl,C2,_,0,AQ,Vu, ?_, ?_,rfl⟩⟩
        ·have ab9:=uN.next;have hn3:T3.next≤1000000000:=by
          have e1:T3.aF.next=T1.aF.next:=by rw[SK];unfold St.mark;split<;>rfl
          have e2:T3.next=T1.next:=e1;omega
         have Ta:0≤(b+1)%g.bl∧(b+1)%g.bl<g.bl:=⟨Int.emod_nonneg _ ay,Int.emod_lt_of_pos _ ay⟩;refine⟨by show T3.fQ.length=(T3.stands.set _ _).length;rw[length_set];exact uN.len,by show 1≤(T3.stands.set _ _).length∧_;rw[length_set];exact uN.aJ,by show 1≤T3.next+1∧T3.next+1≤1000000001;omega,Ta,fun x hx=> ?_⟩;rcases mem_or_eq_of_mem_set hx with hx | rfl
         ·exact uN.Gf x hx
         ·omega
        ·rw[←KZ,rJ];unfold St.done cZ.aF;dsimp only;rw[show 0+aV.toNat*1=aV.toNat by omega]
    ·skip
     obtain⟨X,C',T',hIe,rfl⟩:=hd;rw[hI] at hIe;obtain⟨hC',MW,WZ,ac7,alB,anx,ajT,KZ⟩:=hIe;rw[Ul,jD] at KZ;rw[←KZ] at hR;dsimp only at hR;refine WC.seq ?_;refine WC.sub (H':=C'.A bc::dH bd bc g::T'.A bs bd g::ah b6 32 [.i 0]::ig D::ah b5 34 [.slice A m cap]::ah b4 3 [.i aV]::ah b3 28 [ptr bs 0]::F) (Sub.refl _) (fun w h=>h.aY 7 [2,3,4,6,0] rfl) ?_;refine WC.fE (ig D::ah b5 34 [.slice A m cap]::ah b4 3 [.i aV]::ah b3 28 [ptr bs 0]::F) (by kernel_rfl) ?_;refine aj ":0:1n2" ?_;refine WL.t1 call66 rfl (Vf hC' MW) rfl ?_;refine aj "bn3~~p" ?_;refine WL.c2 call65 rfl rfl (vk (if C'.aF.oW=70 then 70 else 6)) rfl ?_;rintro _ _ ⟨rfl,rfl⟩;refine aj "bn4" ?_;refine WL.store (cs:=[_]) sizeOf32 (ak rfl) (ak rfl) rfl rfl rfl (dw.up (dw.up (dw.up (dw.here rfl rfl)))) ?_;refine aj "bM~D" ?_;subst hR;exact nH.agx (H':=C'.A bc::dH bd bc g::(T'.told (if C'.aF.oW=70 then 70 else 6)).A bs bd g::F) ((T'.told (if C'.aF.oW=70 then 70 else 6)).A bs bd g::C'.A bc::dH bd bc g::ah b6 32 [.i (if C'.aF.oW=70 then 70 else 6)]::ah b5 34 [.slice A m cap]::ah b4 3 [.i aV]::ah b3 28 [ptr bs 0]::F) (fun w h=>h.aY 5 [4,0,1,2,3] rfl) (bI.one rfl (R1.JY rfl isAgg32 nS)) (fun w h=>h.aY 7 [1,2,0] rfl) ⟨C',T'.told (if C'.aF.oW=70 then 70 else 6),hC',MW,WZ.told _,rfl,rfl,rfl,rfl⟩
end
end Go.Proofs.YtcedojacbhnbiaaGreat
