import Derived.Test.YtcedojacbhnbiaaGreatP8
set_option autoImplicit true
set_option linter.all false
set_option maxHeartbeats 2000000
set_option maxRecDepth 20000
set_option relaxedAutoImplicit true
namespace Go.Proofs.YtcedojacbhnbiaaGreat
open Go.Sl Go.RowKit Tryz List Nat
theorem zG(s:aY)(K:World)(F:List aH):aK prog 25 #[s.v] K F (.bool s.ok):=by
 obtain⟨f,t0,g0,t1,g1⟩:=s;dsimp only[aY.v];refine aB.en func25 ntmps25 ?_;refine aj "a*" fun b1=> ?_;refine aj "tagu~6r1b247~op1cV~g~~]~0~f~lOj" (aW (fun aQ=> ?_) fun aQ=> ?_)
 ·try simp only[Gd] at aQ
  refine aj "I:" ?_;congr 1;rw[Bool.eq_iff_iff];simp[aY.ok];omega
 ·try simp only[Gd] at aQ
  refine aj "ih~Mf1b247~op1cV~g~~]~0~f~lOj" (aW (fun vY=> ?_) fun vY=> ?_)
  ·try simp only[Gd] at vY
   refine aj "I:" ?_;congr 1;rw[Bool.eq_iff_iff];simp[aY.ok];omega
  ·try simp only[Gd] at vY
   refine aj "ih~rf15Nap9c~g~f~~ZOd:" ?_;congr 1;rw[Bool.eq_iff_iff];simp[aY.ok];omega
theorem rJ(s:aY)(slot:Int)(h:slot=0∨slot=1)(K:World)(F:List aH):aK prog 175 #[s.v,.i slot] K F (.bool (s.may slot)):=by
 obtain⟨f,t0,g0,t1,g1⟩:=s;dsimp only[aY.v];rcases h with rfl | rfl
 all_goals
  refine aB.en func175 ntmps175 ?_;refine aj "a*" fun b2=> ?_;exact aj "k7~opcV~g~~]~0~f~lOd+" trivial
theorem xW(s:aY)(jh:s.ok=true)(K:World)(F:List aH):aB prog 109 #[s.v] K F (fun v H'=>∃A cap,v= .slice A 9 cap∧H'=aV (.slice A 9 cap) 5 1 9 (ints .u8 s.bytes)::F):=by
 obtain⟨f,t0,g0,t1,g1⟩:=s;have hs:=aY.lJ jh;dsimp only at hs;dsimp only[aY.v];refine aB.en func109 ntmps109 ?_;refine aj "a*" fun b1=> ?_;refine aj "w" ?_;refine WL.buildSlice (E:=5) (cs:=[_,_,_,_]) (vs:=[(0,_),(1,_),(2,_),(3,_)]) ⟨ak rfl,ak rfl,ak rfl,ak rfl,trivial⟩ rfl (fJ _ _ _ _) rfl (fun b6=>aj "~~^kp~v" ?_);refine WL.buildSlice (E:=5) (cs:=[_]) (vs:=[(0,_)]) ⟨ak rfl,trivial⟩ rfl (jc _) rfl (fun b12=>WL.D7 underlying34 yL (ak rfl) (ak rfl) (by repeat (first | exact Seq.agX rfl | apply Seq.up)) (by repeat (first | exact Seq.all rfl | apply Seq.up)) ay ay ay ay rfl rfl (fun A13 c13 akh Xd=>aj "tagu~6r1b2Haf7~opj" (aW (fun aQ=> ?_) fun aQ=> ?_)))
 ·try simp only[iC] at aQ
  refine aj "qgM7~op~vc" ?_;refine WL.buildSlice (E:=5) (cs:=[_,_]) (vs:=[(0,_),(1,_)]) ⟨ak rfl,ak rfl,trivial⟩ rfl (mG _ _) rfl (fun b31=>aj "=" ?_);refine WL.append underlying34 yL (ak rfl) (ak rfl) (by repeat (first | exact Seq.all rfl | apply Seq.up)) (by simp[Value.oneCell']) (by first | omega | (simp;omega)) rfl rfl (fun A32 c32 YW Zh=>aj "gh~Mf1b2Haf7~opj" (aW (fun vY=> ?_) fun vY=> ?_))
  ·try simp only[iC] at vY
   refine aj "qgM7~op~vc" ?_;refine WL.buildSlice (E:=5) (cs:=[_,_]) (vs:=[(0,_),(1,_)]) ⟨ak rfl,ak rfl,trivial⟩ rfl (mG _ _) rfl (fun b31=>aj "=" ?_);refine WL.append underlying34 yL (ak rfl) (ak rfl) (by repeat (first | exact Seq.all rfl | apply Seq.up)) (by simp[Value.oneCell']) (by first | omega | (simp;omega)) rfl rfl (fun A32 c32 YW Zh=>aj "gh~rf15Ned" ?_);refine qR (aV _ 5 1 9 (ints .u8 (aY.mk f t0 g0 t1 g1).bytes)::F) rfl rfl (fun w h=> ?_) ⟨_,_,rfl,rfl⟩;refine Sat.wm (by revert h;exact fun h=>by repeat (first | exact h | replace h:=h.oJ)) ?_;rw[wrap_u8 ay,wrap_u8 ay,wrap_u8 ay];unfold aY.bytes;rw[if_pos jh];simp[ints,aY.Zf, *]
  ·try simp only[iC] at vY
   refine aj "iM7~op~vc" ?_;refine WL.buildSlice (E:=5) (cs:=[_,_]) (vs:=[(0,_),(1,_)]) ⟨ak rfl,ak rfl,trivial⟩ rfl (mG _ _) rfl (fun b31=>aj "=" ?_);refine WL.append underlying34 yL (ak rfl) (ak rfl) (by repeat (first | exact Seq.all rfl | apply Seq.up)) (by simp[Value.oneCell']) (by first | omega | (simp;omega)) rfl rfl (fun A32 c32 YW Zh=>aj "gh~rf15Ned" ?_);refine qR (aV _ 5 1 9 (ints .u8 (aY.mk f t0 g0 t1 g1).bytes)::F) rfl rfl (fun w h=> ?_) ⟨_,_,rfl,rfl⟩;refine Sat.wm (by revert h;exact fun h=>by repeat (first | exact h | replace h:=h.oJ)) ?_;rw[wrap_u8 ay,wrap_u8 ay,wrap_u8 ay];unfold aY.bytes;rw[if_pos jh];simp[ints,aY.Zf, *]
 ·try simp only[iC] at aQ
  refine aj "iM7~op~vc" ?_;refine WL.buildSlice (E:=5) (cs:=[_,_]) (vs:=[(0,_),(1,_)]) ⟨ak rfl,ak rfl,trivial⟩ rfl (mG _ _) rfl (fun b31=>aj "=" ?_);refine WL.append underlying34 yL (ak rfl) (ak rfl) (by repeat (first | exact Seq.all rfl | apply Seq.up)) (by simp[Value.oneCell']) (by first | omega | (simp;omega)) rfl rfl (fun A32 c32 YW Zh=>aj "gh~Mf1b2Haf7~opj" (aW (fun vY=> ?_) fun vY=> ?_))
  ·try simp only[iC] at vY
   refine aj "qgM7~op~vc" ?_;refine WL.buildSlice (E:=5) (cs:=[_,_]) (vs:=[(0,_),(1,_)]) ⟨ak rfl,ak rfl,trivial⟩ rfl (mG _ _) rfl (fun b31=>aj "=" ?_);refine WL.append underlying34 yL (ak rfl) (ak rfl) (by repeat (first | exact Seq.all rfl | apply Seq.up)) (by simp[Value.oneCell']) (by first | omega | (simp;omega)) rfl rfl (fun A32 c32 YW Zh=>aj "gh~rf15Ned" ?_);refine qR (aV _ 5 1 9 (ints .u8 (aY.mk f t0 g0 t1 g1).bytes)::F) rfl rfl (fun w h=> ?_) ⟨_,_,rfl,rfl⟩;refine Sat.wm (by revert h;exact fun h=>by repeat (first | exact h | replace h:=h.oJ)) ?_;rw[wrap_u8 ay,wrap_u8 ay,wrap_u8 ay];unfold aY.bytes;rw[if_pos jh];simp[ints,aY.Zf, *]
  ·try simp only[iC] at vY
   refine aj "iM7~op~vc" ?_;refine WL.buildSlice (E:=5) (cs:=[_,_]) (vs:=[(0,_),(1,_)]) ⟨ak rfl,ak rfl,trivial⟩ rfl (mG _ _) rfl (fun b31=>aj "=" ?_);refine WL.append underlying34 yL (ak rfl) (ak rfl) (by repeat (first | exact Seq.all rfl | apply Seq.up)) (by simp[Value.oneCell']) (by first | omega | (simp;omega)) rfl rfl (fun A32 c32 YW Zh=>aj "gh~rf15Ned" ?_);refine qR (aV _ 5 1 9 (ints .u8 (aY.mk f t0 g0 t1 g1).bytes)::F) rfl rfl (fun w h=> ?_) ⟨_,_,rfl,rfl⟩;refine Sat.wm (by revert h;exact fun h=>by repeat (first | exact h | replace h:=h.oJ)) ?_;rw[wrap_u8 ay,wrap_u8 ay,wrap_u8 ay];unfold aY.bytes;rw[if_pos jh];simp[ints,aY.Zf, *]
theorem aY.Wh{s:aY}(h:(s.ok=false∨slot<0)∨1<slot):s.Ol slot=1:=by unfold aY.Ol;grind
theorem aY.GZ{s:aY}(h1:s.ok=true)(h2:slot=0∨slot=1):s.Ol slot=0:=by simp_all [aY.Ol,if_pos]
theorem K9(s:aY)(slot:Int)(K:World)(F:List aH):aK prog 107 #[s.v,.i slot] K F (.tuple #[(s.gM slot).1.v,.i (s.gM slot).2]):=by
 refine aB.en func107 ntmps107 ?_;refine aj "a*" fun b2=> ?_;refine aj "v" fun b4=> ?_;refine aj "taB" ?_;refine WL.t1 call25 rfl (zG s _ _) rfl<|aj "%cV~,OcV~lOj" (aW (fun aL=> ?_) fun aL=> ?_)
 ·simp only[iC] at aL;have e1:s.gM slot=(aY.zero,1):=by unfold aY.gM;rw[if_pos (by rw[aY.Wh aL];decide)]
  refine aj "a?Cd" ?_;refine aF.ret (H':=F) (rA rfl rfl ⟨isAgg58,sizeOf58⟩ rfl) eO ⟨?_,rfl⟩;rw[e1];rfl
 ·simp only[iC] at aL;have jh:=aL.1.1;have mR:slot=0∨slot=1:=ay;have hs:=aY.lJ jh;have e1:s.gM slot=if s.may slot then (s.put slot s.f (if s.g slot then s.t slot else s.t slot-1) (s.g slot),0) else (aY.zero,240):=by unfold aY.gM;rw[if_neg (by simp[aY.GZ jh mR])]
  clear aL;rcases mR with rfl | rfl
  all_goals
   refine aj "~baBc" ?_;refine WL.t2 call175 rfl rfl (rJ s _ (by simp) _ _) rfl<|aj "%j" (aW (fun aQ=> ?_) fun aQ=> ?_)
   ·simp only[Gd] at aQ;refine aj "a?Cd" ?_;refine aF.ret (H':=F) (rA rfl rfl ⟨isAgg58,sizeOf58⟩ rfl) eO ⟨?_,rfl⟩;rw[e1,aQ];simp[*,aY.g,aY.t,aY.put,aY.zero]
   ·simp only[Gd] at aQ;refine aj "ir7~op%j" (aW (fun bA=> ?_) fun bA=> ?_)
    ·simp only[Gd] at bA;refine aj "h7~op`7~o7~>LBCd" ?_;refine aF.ret (H':=F) (rA rfl rfl ⟨isAgg58,sizeOf58⟩ rfl) eO ⟨?_,rfl⟩;rw[e1,aQ];simp[*,aY.g,aY.t,aY.put,aY.zero]
    ·simp only[Gd] at bA;refine aj "iaBCd" ?_;refine aF.ret (H':=F) (rA rfl rfl ⟨isAgg58,sizeOf58⟩ rfl) eO ⟨?_,rfl⟩;rw[e1,aQ];simp[*,aY.g,aY.t,aY.put,aY.zero]
theorem sM(s:aY)(slot:Int)(K:World)(F:List aH):aK prog 42 #[s.v,.i slot] K F (.tuple #[(s.dR slot).1.v,.i (s.dR slot).2]):=by
 refine aB.en func42 ntmps42 ?_;refine aj "a*" fun b2=> ?_;refine aj "v" fun b4=> ?_;refine aj "taB" ?_;refine WL.t1 call25 rfl (zG s _ _) rfl<|aj "%cV~,OcV~lOj" (aW (fun aL=> ?_) fun aL=> ?_)
 ·simp only[iC] at aL;have e1:s.dR slot=(aY.zero,1):=by unfold aY.dR;rw[if_pos (by rw[aY.Wh aL];decide)]
  refine aj "a?Cd" ?_;refine aF.ret (H':=F) (rA rfl rfl ⟨isAgg58,sizeOf58⟩ rfl) eO ⟨?_,rfl⟩;rw[e1];rfl
 ·simp only[iC] at aL;have jh:=aL.1.1;have mR:slot=0∨slot=1:=ay;have e1:s.dR slot=(s.put slot slot 0 true,0):=by unfold aY.dR;rw[if_neg (by simp[aY.GZ jh mR])]
  clear aL;rcases mR with rfl | rfl
  all_goals
   refine aj "W7~>be" ?_;refine WL.val (V.build (vs:=[(1,_)]) ⟨ak rfl,trivial⟩ rfl (Vo _)) rfl (aj "7~o~_LBCd" ?_);refine aF.ret (H':=F) (rA rfl rfl ⟨isAgg58,sizeOf58⟩ rfl) eO ⟨?_,rfl⟩;rw[e1];rfl
theorem Ri(s:aY)(jh:s.ok=true)(K:World)(F:List aH):aB prog 106 #[s.v] K F (fun v H'=>∃A cap,v= .slice A s.order.length cap∧H'=aV (.slice A s.order.length cap) 3 1 s.order.length (ints .i64 s.order)::F):=by
 obtain⟨f,t0,g0,t1,g1⟩:=s;have hs:=aY.lJ jh;have e1:(aY.mk f t0 g0 t1 g1).order=[f,1-f].filter (aY.mk f t0 g0 t1 g1).may:=by unfold aY.order;rw[if_pos jh]
 dsimp only at hs;dsimp only[aY.v];refine aB.en func106 ntmps106 ?_;refine aj "a*" fun b1=> ?_;refine aj "t" ?_;refine WC.sub (Sub.refl _) (fun w h=>h.gI 3 1)<|aj "qtagu~6r1b2Hapf95iaBc" ?_;refine WL.t2 call175 rfl rfl (rJ ⟨_,_,_,_,_⟩ _ ay _ _) rfl<|aj "j" (aW (fun bA=> ?_) fun bA=> ?_)
 ·refine aj "M" ?_;refine WL.buildSlice (E:=3) (cs:=[_]) (vs:=[(0,_)]) ⟨ak rfl,trivial⟩ rfl (dJ _) rfl (fun QB=>aj "=" ?_);refine WL.append underlying124 Me (ak rfl) (ak rfl) (by repeat (first | exact Seq.all rfl | apply Seq.up)) (by simp[Value.oneCell']) (by first | omega | (simp;omega)) rfl rfl (fun A23 c23 ajc ai1=>aj "gh~Mf1b2Hapf9b2qp`wBc" ?_);refine WL.t2 call175 rfl rfl (rJ ⟨_,_,_,_,_⟩ _ ay _ _) rfl<|aj "j" (aW (fun mV=> ?_) fun mV=> ?_)
  ·refine aj "M" ?_;refine WL.buildSlice (E:=3) (cs:=[_]) (vs:=[(0,_)]) ⟨ak rfl,trivial⟩ rfl (dJ _) rfl (fun QB=>aj "=" ?_);refine WL.append underlying124 Me (ak rfl) (ak rfl) (by repeat (first | exact Seq.all rfl | apply Seq.up)) (by simp[Value.oneCell']) (by first | omega | (simp;omega)) rfl rfl (fun A23 c23 ajc ai1=>aj "gh~rf15Ned" ?_);simp only[filter, *] at e1;exact qR (aV _ 3 1 _ _::F) rfl rfl (fun w h=>by repeat (first | exact h | replace h:=h.oJ)) ⟨_,_,by rw[e1];rfl,by rw[e1];rfl⟩
  ·refine aj "ih~rf15Ned" ?_;simp only[filter, *] at e1;exact qR (aV _ 3 1 _ _::F) rfl rfl (fun w h=>by repeat (first | exact h | replace h:=h.oJ)) ⟨_,_,by rw[e1];rfl,by rw[e1];rfl⟩
 ·refine aj "ih~Mf1b2Hapf9b2qp`wBc" ?_;refine WL.t2 call175 rfl rfl (rJ ⟨_,_,_,_,_⟩ _ ay _ _) rfl<|aj "j" (aW (fun mV=> ?_) fun mV=> ?_)
  ·refine aj "M" ?_;refine WL.buildSlice (E:=3) (cs:=[_]) (vs:=[(0,_)]) ⟨ak rfl,trivial⟩ rfl (dJ _) rfl (fun QB=>aj "=" ?_);refine WL.append underlying124 Me (ak rfl) (ak rfl) (by repeat (first | exact Seq.all rfl | apply Seq.up)) (by simp[Value.oneCell']) (by first | omega | (simp;omega)) rfl rfl (fun A23 c23 ajc ai1=>aj "gh~rf15Ned" ?_);simp only[filter, *] at e1;exact qR (aV _ 3 1 _ _::F) rfl rfl (fun w h=>by repeat (first | exact h | replace h:=h.oJ)) ⟨_,_,by rw[e1];rfl,by rw[e1];rfl⟩
  ·refine aj "ih~rf15Ned" ?_;simp only[filter, *] at e1;exact qR (aV _ 3 1 _ _::F) rfl rfl (fun w h=>by repeat (first | exact h | replace h:=h.oJ)) ⟨_,_,by rw[e1];rfl,by rw[e1];rfl⟩
theorem Es(hx:bF xs)(K:World)(F:List aH)(hs:Seq K F A m 1 (ints .u8 xs))(jh:(aY.of xs).ok=true) :
 aK prog 108 #[.slice A m cap] K F (.tuple #[(aY.parse xs).1.v,.bool (aY.dW xs)]):=by
 have hl:xs.length=m:=by simpa [ints] using hs.len
 refine aB.en func108 ntmps108 ?_;refine aj "av" fun b2=> ?_;refine aj "wv" fun b4=> ?_;refine aj "brnsj" (aW (fun aL=> ?_) fun aL=> ?_)
 ·simp only[iC] at aL;refine aj "aBCd" ?_;refine aF.ret (H':=F) (rA rfl rfl ⟨isAgg58,sizeOf58⟩ rfl) eO ⟨?_,rfl⟩;have hg:aY.dW xs=false:=by simp[aY.dW];omega
  unfold aY.parse;rw[if_neg (by simp[hg]),hg];rfl
 ·simp only[iC] at aL;obtain rfl:m=9:=by omega
  refine aj "W" ?_;refine WL.val (V.dw dO (ak rfl) (ak rfl) Jy (fun hc=>by repeat (first | exact Seq.dD hs (by first | omega | (simp at hc;omega)) | apply Rd.up))) rfl<|WL.val (V.load isAgg5 (ak rfl) (fun hc=>by repeat (first | exact Seq.dD hs (by first | omega | (simp at hc;omega)) | apply Rd.up))) rfl<|WL.val (V.uy runUnderlying5 runUnderlying3 (ak rfl) (fun _=>wrap_i64 (bF.wide hx _))) rfl<|aj "7~>Dagu~6r1b2H" ?_;refine WC.dM F (by kernel_rfl)<|aj "m0m1m2~~X3" ?_;refine WA.t 4 rfl (V.aG (v':= .i (5)) (V.add (ak rfl) (ak rfl)) (fun _=>rfl)) ?_;refine WA.t 5 rfl (V.dw dO (ak rfl) (ak rfl) Jy (fun hc=>by repeat (first | exact Seq.dD hs (by first | omega | (simp at hc;omega)) | apply Rd.up))) ?_;refine WA.t 6 rfl (V.load isAgg5 (ak rfl) (fun hc=>by repeat (first | exact Seq.dD hs (by first | omega | (simp at hc;omega)) | apply Rd.up))) ?_;refine WA.t 7 rfl (V.uy runUnderlying5 runUnderlying3 (ak rfl) (fun _=>wrap_i64 (bF.wide hx _))) ?_;refine aj "m8m9~~X:" ?_;refine WA.t 11 rfl (V.aG (v':= .i (6)) (V.add (ak rfl) (ak rfl)) (fun _=>rfl)) ?_;refine WA.t 12 rfl (V.dw dO (ak rfl) (ak rfl) Jy (fun hc=>by repeat (first | exact Seq.dD hs (by first | omega | (simp at hc;omega)) | apply Rd.up))) ?_;refine WA.t 13 rfl (V.load isAgg5 (ak rfl) (fun hc=>by repeat (first | exact Seq.dD hs (by first | omega | (simp at hc;omega)) | apply Rd.up))) ?_;refine aj "~~s>" ?_;refine WA.t 15 rfl (V.build (vs:=[(0,_),(1,_)]) ⟨ak rfl,ak rfl,trivial⟩ rfl (qj _ _)) ?_;refine aj "Z@~~rAlB~_bKh~Mf1b2H" ?_;refine WC.dM F (by kernel_rfl)<|aj "m0m1m2~~Y3" ?_;refine WA.t 4 rfl (V.aG (v':= .i (7)) (V.add (ak rfl) (ak rfl)) (fun _=>rfl)) ?_;refine WA.t 5 rfl (V.dw dO (ak rfl) (ak rfl) Jy (fun hc=>by repeat (first | exact Seq.dD hs (by first | omega | (simp at hc;omega)) | apply Rd.up))) ?_;refine WA.t 6 rfl (V.load isAgg5 (ak rfl) (fun hc=>by repeat (first | exact Seq.dD hs (by first | omega | (simp at hc;omega)) | apply Rd.up))) ?_;refine WA.t 7 rfl (V.uy runUnderlying5 runUnderlying3 (ak rfl) (fun _=>wrap_i64 (bF.wide hx _))) ?_;refine aj "m8m9~~Y:" ?_;refine WA.t 11 rfl (V.aG (v':= .i (8)) (V.add (ak rfl) (ak rfl)) (fun _=>rfl)) ?_;refine WA.t 12 rfl (V.dw dO (ak rfl) (ak rfl) Jy (fun hc=>by repeat (first | exact Seq.dD hs (by first | omega | (simp at hc;omega)) | apply Rd.up))) ?_;refine WA.t 13 rfl (V.load isAgg5 (ak rfl) (fun hc=>by repeat (first | exact Seq.dD hs (by first | omega | (simp at hc;omega)) | apply Rd.up))) ?_;refine aj "~~s>" ?_;refine WA.t 15 rfl (V.build (vs:=[(0,_),(1,_)]) ⟨ak rfl,ak rfl,trivial⟩ rfl (qj _ _)) ?_;refine aj "Z@~~rAlB~_bKh~rf15TP~S~~e0l1" ?_;refine WL.t1 call25 rfl ((by have :=zG (aY.of xs) K;rw[jh] at this;exact this _)) rfl<|WL.nil (WA.t 2 rfl (V.not (ak rfl)) ?_);refine aj "m3" ?_;refine WA.tK 4 rfl rfl rfl rfl rfl (V.fE (vs:=[_,_,_,_,_]) ⟨isAgg58,sizeOf58⟩ (ak rfl) rfl (fun _=>tN)) ?_;refine WA.tK 7 rfl rfl rfl rfl rfl (V.move (ak rfl)) ?_;refine WA.two (i:=5) (j:=8) cO (by kernel_rfl) rfl rfl ?_ ?_
  ·refine aj "~I" ?_;refine WL.c1 call109 rfl (xW (aY.of xs) jh _ _) rfl ?_;rintro _ _ ⟨A5,c5,rfl,rfl⟩;refine WL.nil<|WA.two (i:=6) (j:=8) eO (by kernel_rfl) rfl rfl ?_ ?_
   ·refine aj "~I" ?_;refine WL.val (V.iM underlying34 underlying5 underlying9 (ak rfl) (fun hc=>aV.seq (cs:=ints .u8 (aY.of xs).bytes) (by simp[ints,aY.fC jh]))) rfl<|aj "bl8~I" ?_;refine WL.val (V.iM underlying34 underlying5 underlying9 (ak rfl) (fun hc=>by repeat (first | exact hs | apply Seq.up))) rfl<|aj "b~~~a~~~b:KF" (aW (fun bA=> ?_) fun bA=> ?_)
    ·rw[sZ (aY.gJ jh) hx] at bA;simp at bA;refine aj "a?Cd" ?_;refine aF.ret (H':=F) (rA rfl rfl ⟨isAgg58,sizeOf58⟩ rfl) eO ⟨?_,rfl⟩;have hg:aY.dW xs=false:=by simp[aY.dW, *]
     unfold aY.parse;rw[if_neg (by simp[hg]),hg];rfl
    ·rw[sZ (aY.gJ jh) hx] at bA;simp at bA;refine aj "iaBCd" ?_;refine aF.ret (H':=F) (rA rfl rfl ⟨isAgg58,sizeOf58⟩ rfl) eO ⟨?_,rfl⟩;have hg:aY.dW xs=true:=by simp[aY.dW, *]
     unfold aY.parse;rw[if_pos hg,hg];rfl
   ·refine aj "~I" ?_;refine WL.val (V.iM underlying34 underlying5 underlying9 (ak rfl) (fun hc=>by repeat (first | exact hs | apply Seq.up))) rfl<|aj "bl6~I" ?_;refine WL.val (V.iM underlying34 underlying5 underlying9 (ak rfl) (fun hc=>aV.seq (cs:=ints .u8 (aY.of xs).bytes) (by simp[ints,aY.fC jh]))) rfl<|aj "b~~~a~~~b:KF" (aW (fun mV=> ?_) fun mV=> ?_)
    ·rw[sZ (aY.gJ jh) hx] at mV;simp at mV;refine aj "a?Cd" ?_;refine aF.ret (H':=F) (rA rfl rfl ⟨isAgg58,sizeOf58⟩ rfl) eO ⟨?_,rfl⟩;have hg:aY.dW xs=false:=by simp[aY.dW, *]
     unfold aY.parse;rw[if_neg (by simp[hg]),hg];rfl
    ·rw[sZ (aY.gJ jh) hx] at mV;simp at mV;refine aj "iaBCd" ?_;refine aF.ret (H':=F) (rA rfl rfl ⟨isAgg58,sizeOf58⟩ rfl) eO ⟨?_,rfl⟩;have hg:aY.dW xs=true:=by simp[aY.dW, *]
     unfold aY.parse;rw[if_pos hg,hg];rfl
  ·refine aj "~I" ?_;refine WL.val (V.iM underlying34 underlying5 underlying9 (ak rfl) (fun hc=>by repeat (first | exact hs | apply Seq.up))) rfl<|aj "bl5~I" ?_;refine WL.c1 call109 rfl (xW (aY.of xs) jh _ _) rfl ?_;rintro _ _ ⟨A5,c5,rfl,rfl⟩;refine aj "bl6~I" ?_;refine WL.val (V.iM underlying34 underlying5 underlying9 (ak rfl) (fun hc=>aV.seq (cs:=ints .u8 (aY.of xs).bytes) (by simp[ints,aY.fC jh]))) rfl<|aj "b~~~a~~~b:KF" (aW (fun O6=> ?_) fun O6=> ?_)
   ·rw[sZ (aY.gJ jh) hx] at O6;simp at O6;refine aj "a?Cd" ?_;refine aF.ret (H':=F) (rA rfl rfl ⟨isAgg58,sizeOf58⟩ rfl) eO ⟨?_,rfl⟩;have hg:aY.dW xs=false:=by simp[aY.dW, *]
    unfold aY.parse;rw[if_neg (by simp[hg]),hg];rfl
   ·rw[sZ (aY.gJ jh) hx] at O6;simp at O6;refine aj "iaBCd" ?_;refine aF.ret (H':=F) (rA rfl rfl ⟨isAgg58,sizeOf58⟩ rfl) eO ⟨?_,rfl⟩;have hg:aY.dW xs=true:=by simp[aY.dW, *]
    unfold aY.parse;rw[if_pos hg,hg];rfl
theorem F3(hx:bF xs)(K:World)(F:List aH)(hs:Seq K F A m 1 (ints .u8 xs))(jh:(aY.of xs).ok=false) :
 aK prog 108 #[.slice A m cap] K F (.tuple #[(aY.parse xs).1.v,.bool (aY.dW xs)]):=by
 have hl:xs.length=m:=by simpa [ints] using hs.len
 have hg:aY.dW xs=false:=by simp[aY.dW,jh]
 refine aB.en func108 ntmps108 ?_;refine aj "av" fun b2=> ?_;refine aj "wv" fun b4=> ?_;refine aj "brnsj" (aW (fun aL=> ?_) fun aL=> ?_)
 ·simp only[iC] at aL;refine aj "aBCd" ?_;refine aF.ret (H':=F) (rA rfl rfl ⟨isAgg58,sizeOf58⟩ rfl) eO ⟨?_,rfl⟩;unfold aY.parse;rw[if_neg (by simp[hg]),hg];rfl
 ·simp only[iC] at aL;obtain rfl:m=9:=by omega
  refine aj "W" ?_;refine WL.val (V.dw dO (ak rfl) (ak rfl) Jy (fun hc=>by repeat (first | exact Seq.dD hs (by first | omega | (simp at hc;omega)) | apply Rd.up))) rfl<|WL.val (V.load isAgg5 (ak rfl) (fun hc=>by repeat (first | exact Seq.dD hs (by first | omega | (simp at hc;omega)) | apply Rd.up))) rfl<|WL.val (V.uy runUnderlying5 runUnderlying3 (ak rfl) (fun _=>wrap_i64 (bF.wide hx _))) rfl<|aj "7~>Dagu~6r1b2H" ?_;refine WC.dM F (by kernel_rfl)<|aj "m0m1m2~~X3" ?_;refine WA.t 4 rfl (V.aG (v':= .i (5)) (V.add (ak rfl) (ak rfl)) (fun _=>rfl)) ?_;refine WA.t 5 rfl (V.dw dO (ak rfl) (ak rfl) Jy (fun hc=>by repeat (first | exact Seq.dD hs (by first | omega | (simp at hc;omega)) | apply Rd.up))) ?_;refine WA.t 6 rfl (V.load isAgg5 (ak rfl) (fun hc=>by repeat (first | exact Seq.dD hs (by first | omega | (simp at hc;omega)) | apply Rd.up))) ?_;refine WA.t 7 rfl (V.uy runUnderlying5 runUnderlying3 (ak rfl) (fun _=>wrap_i64 (bF.wide hx _))) ?_;refine aj "m8m9~~X:" ?_;refine WA.t 11 rfl (V.aG (v':= .i (6)) (V.add (ak rfl) (ak rfl)) (fun _=>rfl)) ?_;refine WA.t 12 rfl (V.dw dO (ak rfl) (ak rfl) Jy (fun hc=>by repeat (first | exact Seq.dD hs (by first | omega | (simp at hc;omega)) | apply Rd.up))) ?_;refine WA.t 13 rfl (V.load isAgg5 (ak rfl) (fun hc=>by repeat (first | exact Seq.dD hs (by first | omega | (simp at hc;omega)) | apply Rd.up))) ?_;refine aj "~~s>" ?_;refine WA.t 15 rfl (V.build (vs:=[(0,_),(1,_)]) ⟨ak rfl,ak rfl,trivial⟩ rfl (qj _ _)) ?_;refine aj "Z@~~rAlB~_bKh~Mf1b2H" ?_;refine WC.dM F (by kernel_rfl)<|aj "m0m1m2~~Y3" ?_;refine WA.t 4 rfl (V.aG (v':= .i (7)) (V.add (ak rfl) (ak rfl)) (fun _=>rfl)) ?_;refine WA.t 5 rfl (V.dw dO (ak rfl) (ak rfl) Jy (fun hc=>by repeat (first | exact Seq.dD hs (by first | omega | (simp at hc;omega)) | apply Rd.up))) ?_;refine WA.t 6 rfl (V.load isAgg5 (ak rfl) (fun hc=>by repeat (first | exact Seq.dD hs (by first | omega | (simp at hc;omega)) | apply Rd.up))) ?_;refine WA.t 7 rfl (V.uy runUnderlying5 runUnderlying3 (ak rfl) (fun _=>wrap_i64 (bF.wide hx _))) ?_;refine aj "m8m9~~Y:" ?_;refine WA.t 11 rfl (V.aG (v':= .i (8)) (V.add (ak rfl) (ak rfl)) (fun _=>rfl)) ?_;refine WA.t 12 rfl (V.dw dO (ak rfl) (ak rfl) Jy (fun hc=>by repeat (first | exact Seq.dD hs (by first | omega | (simp at hc;omega)) | apply Rd.up))) ?_;refine WA.t 13 rfl (V.load isAgg5 (ak rfl) (fun hc=>by repeat (first | exact Seq.dD hs (by first | omega | (simp at hc;omega)) | apply Rd.up))) ?_;refine aj "~~s>" ?_;refine WA.t 15 rfl (V.build (vs:=[(0,_),(1,_)]) ⟨ak rfl,ak rfl,trivial⟩ rfl (qj _ _)) ?_;refine aj "Z@~~rAlB~_bKh~rf15TP~S~~e0l1" ?_;refine WL.t1 call25 rfl ((by have :=zG (aY.of xs) K;rw[jh] at this;exact this _)) rfl<|WL.nil (WA.t 2 rfl (V.not (ak rfl)) ?_);refine aj "m3" ?_;refine WA.tF 4 rfl rfl rfl rfl rfl ?_;refine WA.tF 5 rfl rfl rfl rfl rfl ?_;refine WA.tF 6 rfl rfl rfl rfl rfl ?_;refine WA.tF 7 rfl rfl rfl rfl rfl ?_;refine WA.tF 8 rfl rfl rfl rfl rfl ?_;refine WA.tF 9 rfl rfl rfl rfl rfl ?_;refine WA.t 10 rfl (V.aas (ak rfl) (ak rfl)) ?_;refine aj "K2a?Cd" ?_;refine aF.ret (H':=F) (rA rfl rfl ⟨isAgg58,sizeOf58⟩ rfl) eO ⟨?_,rfl⟩;unfold aY.parse;rw[if_neg (by simp[hg]),hg];rfl
theorem QW(hx:bF xs)(K:World)(F:List aH)(hs:Seq K F A m 1 (ints .u8 xs)) :
 aK prog 108 #[.slice A m cap] K F (.tuple #[(aY.parse xs).1.v,.bool (aY.dW xs)]):=by
 cases jh:(aY.of xs).ok with
 | true=>exact Es hx K F hs jh
 | false=>exact F3 hx K F hs jh
def Ai(l:List Bool):List Value:=l.map Value.bool
theorem NS(l:List Bool):(Ai l).length=l.length:=length_map _
theorem Po(l:List ByteArray):(strs l).length=l.length:=length_map _
structure Mw where
 Ah:Option Addr
 ch:Nat
 Ad:Option Addr
 cd:Nat
 has:List Bool
 iw:List ByteArray
namespace Mw
def v(M:Mw):Value:= .agg #[.slice M.Ah M.has.length M.ch,.slice M.Ad M.iw.length M.cd]
abbrev cells(M:Mw):List Value:=[.slice M.Ah M.has.length M.ch,.slice M.Ad M.iw.length M.cd]
abbrev hs(M:Mw):aH:=aV (.slice M.Ah M.has.length M.ch) 4 1 M.has.length (Ai M.has)
abbrev ds(M:Mw):aH:=aV (.slice M.Ad M.iw.length M.cd) 9 1 M.iw.length (strs M.iw)
abbrev parts(M:Mw):List aH:=[M.hs,M.ds]
def A(M:Mw):aH:=bK M.parts
def aC(M:Mw):Lm:=fun i=>if M.has.getD i false then some (iB (bytesOf (M.iw.getD i ByteArray.empty))) else none
end Mw
theorem Mw.rdH{M:Mw}(hi:i<M.has.length):Rd K (M.A::F) (M.Ah.map (·.add (i*1))) (.bool (M.has.getD i false)):=by
 have h:Seq K (M.A::F) M.Ah M.has.length 1 (Ai M.has):=Seq.xM (A:=M.hs) (l:=M.parts) (.head _) (aV.seq (by rw[NS,Nat.mul_one]));have :=h.rd i (.bool (M.has.getD i false)) (by simp[Ai,getD,hi])
 rwa [Nat.mul_one]
theorem Mw.rdD{M:Mw}(hi:i<M.iw.length):Rd K (M.A::F) (M.Ad.map (·.add (i*1))) (.string (M.iw.getD i ByteArray.empty)) :=
 Seq.agK (Seq.xM (A:=M.ds) (l:=M.parts) (.tail _ (.head _)) (aV.seq (by rw[Po,Nat.mul_one]))) hi
theorem Mw.ajz{M:Mw}(hA:M.Ah=some ⟨g,0,none⟩)(hi:i<M.has.length)(b:Bool):bT K (M.A::F) g i [.bool b] (Mw.A { M with has:=M.has.set i b }::F):=by
 refine bT.all (l:=M.parts) (l':=Mw.parts { M with has:=M.has.set i b }) ?_;obtain⟨Ah,ch,Ad,cd,has,iw⟩:=M;dsimp only at hA hi ⊢;subst hA;unfold Mw.parts Mw.hs Mw.ds;dsimp only;rw[length_set];have h1:=bT.slA (K:=K) (H:=[aV (.slice Ad iw.length cd) 9 1 iw.length (strs iw)]++F) (gb:=g) (cap:=ch) (E:=4) (cs:=Ai has) (v:= .bool b) hi;have h2:(Ai has).set i (.bool b)=Ai (has.set i b):=by unfold Ai;rw[map_set]
 rw[h2] at h1;exact h1
theorem Mw.aiK{M:Mw}(hA:M.Ad=some ⟨g,0,none⟩)(hi:i<M.iw.length)(s:ByteArray):bT K (M.A::F) g i [.string s] (Mw.A { M with iw:=M.iw.set i s }::F):=by
 refine bT.all (l:=M.parts) (l':=Mw.parts { M with iw:=M.iw.set i s }) ?_;obtain⟨Ah,ch,Ad,cd,has,iw⟩:=M;dsimp only at hA hi ⊢;subst hA;unfold Mw.parts Mw.hs Mw.ds;dsimp only;rw[length_set];refine bT.up ?_;have h1:=bT.slA (K:=K) (H:=[]++F) (gb:=g) (cap:=cd) (E:=9) (cs:=strs iw) (v:= .string s) hi;have h2:(strs iw).set i (.string s)=strs (iw.set i s):=by unfold strs;rw[map_set]
 rw[h2] at h1;exact h1
theorem Mw.afl{M:Mw}(h0:0<M.has.length)(h:Sat K w (M.A::F)):∃g,M.Ah=some ⟨g,0,none⟩:=by
 have h1:Sat K w (M.parts++F):=h.yJ;cases hA:M.Ah with
 | none =>
  have h2:Sat K w (M.hs::M.ds::F):=h1;unfold Mw.hs at h2;rw[hA] at h2;have :=(aV.yM h2).1;omega
 | some a =>
  have h2:Sat K w (M.hs::M.ds::F):=h1;unfold Mw.hs at h2;rw[hA] at h2;obtain⟨g1,rfl⟩:=aV.addr h2;exact⟨g1,rfl⟩
theorem Mw.ae4{M:Mw}(h0:0<M.iw.length)(h:Sat K w (M.A::F)):∃g,M.Ad=some ⟨g,0,none⟩:=by
 have h1:Sat K w (M.ds::M.hs::F):=Sat.p1 (A:=M.hs) (B:=M.ds) h.yJ;cases hA:M.Ad with
 | none =>
  unfold Mw.ds at h1;rw[hA] at h1;have :=(aV.yM h1).1;omega
 | some a =>
  unfold Mw.ds at h1;rw[hA] at h1;obtain⟨g1,rfl⟩:=aV.addr h1;exact⟨g1,rfl⟩
theorem LM{M:Mw}{aS:Int}(hi:0≤aS∧aS<M.has.length)(hl:M.iw.length=M.has.length)(s:ByteArray):aB prog 36 #[M.v,.i aS,.string s] K (M.A::F)
 (fun v H'=>H'=Mw.A { M with has:=M.has.set aS.toNat true,iw:=M.iw.set aS.toNat s }::F):=by
 refine aB.lG (p:=(∃g,M.Ah=some ⟨g,0,none⟩)∧∃g,M.Ad=some ⟨g,0,none⟩) (fun w h=>⟨Mw.afl ay h,Mw.ae4 ay h⟩) (fun ⟨⟨g1,UM⟩,⟨g2,RU⟩⟩=> ?_);unfold Mw.v;refine aB.en func36 ntmps36 ?_;refine aj "a~9" fun b3=> ?_;refine aj "D" ?_;refine WC.sub (H':=M.A::ah b3 81 M.cells::F) (Sub.refl _) (fun w h=>h.p1)<|aj "q7" ?_;refine WL.val (V.aG (v':= .slice (some ⟨g1,0,none⟩) M.has.length M.ch) (V.load isAgg79 (ak rfl) (fun _=>lD)) (fun _=>by rw[UM])) rfl<|aj "c~t" ?_;refine WL.store (cs:=[_]) sizeOf4 (ak rfl) (ak rfl) rfl rfl rfl (Mw.ajz UM ay true)<|aj "bq7" ?_;refine WL.val (V.aG (v':= .slice (some ⟨g2,0,none⟩) M.iw.length M.cd) (V.load isAgg25 (ak rfl) (fun _=>lD)) (fun _=>by rw[RU])) rfl<|aj "z~t" ?_;refine WL.store (cs:=[_]) sizeOf9 (ak rfl) (ak rfl) rfl rfl rfl (Mw.aiK (M:= { M with has:=M.has.set (0+aS.toNat*1) true }) RU (by show 0+aS.toNat*1<M.iw.length;omega) s)<|WL.nil<|aF.normal (H':=Mw.A { M with has:=M.has.set aS.toNat true,iw:=M.iw.set aS.toNat s }::F) (bJ.none rfl) (fun w h=> ?_) rfl;have h1:=h.bg 2 [0] rfl;rw[show 0+aS.toNat*1=aS.toNat by omega] at h1;exact h1
theorem R8{M:Mw}{aS:Int}(hi:0≤aS∧aS<M.has.length)(hl:M.iw.length=M.has.length):aB prog 38 #[M.v,.i aS] K (M.A::F)
 (fun v H'=>∃s,H'=Mw.A { M with has:=M.has.set aS.toNat false,iw:=M.iw.set aS.toNat s }::F):=by
 refine aB.lG (p:=(∃g,M.Ah=some ⟨g,0,none⟩)∧∃g,M.Ad=some ⟨g,0,none⟩) (fun w h=>⟨Mw.afl ay h,Mw.ae4 ay h⟩) (fun ⟨⟨g1,UM⟩,⟨g2,RU⟩⟩=> ?_);unfold Mw.v;refine aB.en func38 ntmps38 ?_;refine aj "a~9" fun b2=> ?_;refine aj "D" ?_;refine WC.sub (H':=M.A::ah b2 81 M.cells::F) (Sub.refl _) (fun w h=>h.p1)<|aj "q7" ?_;refine WL.val (V.aG (v':= .slice (some ⟨g1,0,none⟩) M.has.length M.ch) (V.load isAgg79 (ak rfl) (fun _=>lD)) (fun _=>by rw[UM])) rfl<|aj "c~t" ?_;refine WL.store (cs:=[_]) sizeOf4 (ak rfl) (ak rfl) rfl rfl rfl (Mw.ajz UM ay false)<|aj "bq7" ?_;refine WL.val (V.aG (v':= .slice (some ⟨g2,0,none⟩) M.iw.length M.cd) (V.load isAgg25 (ak rfl) (fun _=>lD)) (fun _=>by rw[RU])) rfl<|aj "c~t" ?_;refine WL.store (cs:=[_]) sizeOf9 (ak rfl) (ak rfl) rfl rfl rfl (Mw.aiK (M:= { M with has:=M.has.set (0+aS.toNat*1) false }) RU (by show 0+aS.toNat*1<M.iw.length;omega) _)<|WL.nil<|aF.normal (H':=Mw.A { M with has:=M.has.set aS.toNat false,iw:=M.iw.set aS.toNat (ByteArray.mk #[]) }::F) (bJ.none rfl) (fun w h=> ?_) ⟨_,rfl⟩;have h1:=h.bg 2 [0] rfl;rw[show 0+aS.toNat*1=aS.toNat by omega] at h1;exact h1
theorem WV{n:Nat}(hn:n≤1000000):aB prog 35 #[.i (n:Int)] K F (fun v H'=>∃M:Mw,M.has=replicate n false∧M.iw=replicate n (ByteArray.mk #[])∧v=M.v∧H'=M.A::F):=by
 refine aB.en func35 ntmps35 ?_;refine aj "av" fun b2=> ?_;refine aj "D" ?_;refine WC.dM F (by kernel_rfl)<|aj "m0m2" ?_;refine WA.two (i:=1) (j:=3) eO (by kernel_rfl) rfl rfl ?_ ?_
 ·refine WL.nM (m:=n) underlying79 el4 (ak rfl) (ak rfl) rfl rfl ay rfl rfl rfl (fun b4=>aj "bl3" ?_);refine WL.nM (m:=n) underlying25 el9 (ak rfl) (ak rfl) rfl rfl ay rfl rfl rfl (fun b6=>WL.nil (WA.t 4 rfl (V.build (vs:=[(0,_),(1,_)]) ⟨ak rfl,ak rfl,trivial⟩ rfl (LV _ _ _ _ _ _)) ?_));refine WA.o 5 rfl ?_;refine WL.sub (H':=ah b2 81 [.slice none 0 0,.slice none 0 0]::ah b4 4 (replicate n (.bool false))::ah b6 9 (replicate n (.string (ByteArray.mk #[])))::F) (Sub.refl _) (fun w h=>by first | exact h.bg 3 [2,1,0] rfl | exact h.bg 3 [2,0,1] rfl)<|WL.store (cs:=[_,_]) sizeOf81 (ak rfl) (ak rfl) rfl rfl rfl (bT.here rfl rfl)<|aj "bK~C" ?_;obtain⟨M,hM⟩:∃M:Mw,M=⟨some ⟨b4,0,none⟩,n,some ⟨b6,0,none⟩,n,replicate n false,replicate n (ByteArray.mk #[])⟩:=⟨_,rfl⟩;refine aF.ret (H':=M.A::F) (bJ.one rfl (R1.jQ (vs:=[_,_]) rfl ⟨isAgg81,sizeOf81⟩ rfl af4)) (fun w h=> ?_) ⟨M,by rw[hM],by rw[hM], ?_,rfl⟩
  ·have h1:=Sat.BX (s:=1) (m:=n) (cap:=n) h.tail (by rw[length_replicate,Nat.mul_one]) (Nat.le_refl _) (by simp only[maxLen];omega);have h2:=Sat.BX (s:=1) (m:=n) (cap:=n) h1.p1 (by rw[length_replicate,Nat.mul_one]) (Nat.le_refl _) (by simp only[maxLen];omega);have h3:=h2.p1;rw[Nat.mul_one,take_of_length_le (by rw[length_replicate];exact Nat.le_refl _),take_of_length_le (by rw[length_replicate];exact Nat.le_refl _)] at h3;refine Sat.all (l:=M.parts) (H:=F) ?_;unfold Mw.parts Mw.hs Mw.ds Ai strs;rw[hM];dsimp only;rw[length_replicate,length_replicate,map_replicate,map_replicate];exact h3
  ·rw[hM];unfold Mw.v;dsimp only;rw[length_replicate,length_replicate]
 ·refine WL.nM (m:=n) underlying25 el9 (ak rfl) (ak rfl) rfl rfl ay rfl rfl rfl (fun b6=>aj "bl1" ?_);refine WL.nM (m:=n) underlying79 el4 (ak rfl) (ak rfl) rfl rfl ay rfl rfl rfl (fun b4=>WL.nil (WA.t 4 rfl (V.build (vs:=[(0,_),(1,_)]) ⟨ak rfl,ak rfl,trivial⟩ rfl (LV _ _ _ _ _ _)) ?_));refine WA.o 5 rfl ?_;refine WL.sub (H':=ah b2 81 [.slice none 0 0,.slice none 0 0]::ah b4 4 (replicate n (.bool false))::ah b6 9 (replicate n (.string (ByteArray.mk #[])))::F) (Sub.refl _) (fun w h=>by first | exact h.bg 3 [2,1,0] rfl | exact h.bg 3 [2,0,1] rfl)<|WL.store (cs:=[_,_]) sizeOf81 (ak rfl) (ak rfl) rfl rfl rfl (bT.here rfl rfl)<|aj "bK~C" ?_;obtain⟨M,hM⟩:∃M:Mw,M=⟨some ⟨b4,0,none⟩,n,some ⟨b6,0,none⟩,n,replicate n false,replicate n (ByteArray.mk #[])⟩:=⟨_,rfl⟩;refine aF.ret (H':=M.A::F) (bJ.one rfl (R1.jQ (vs:=[_,_]) rfl ⟨isAgg81,sizeOf81⟩ rfl af4)) (fun w h=> ?_) ⟨M,by rw[hM],by rw[hM], ?_,rfl⟩
  ·have h1:=Sat.BX (s:=1) (m:=n) (cap:=n) h.tail (by rw[length_replicate,Nat.mul_one]) (Nat.le_refl _) (by simp only[maxLen];omega);have h2:=Sat.BX (s:=1) (m:=n) (cap:=n) h1.p1 (by rw[length_replicate,Nat.mul_one]) (Nat.le_refl _) (by simp only[maxLen];omega);have h3:=h2.p1;rw[Nat.mul_one,take_of_length_le (by rw[length_replicate];exact Nat.le_refl _),take_of_length_le (by rw[length_replicate];exact Nat.le_refl _)] at h3;refine Sat.all (l:=M.parts) (H:=F) ?_;unfold Mw.parts Mw.hs Mw.ds Ai strs;rw[hM];dsimp only;rw[length_replicate,length_replicate,map_replicate,map_replicate];exact h3
  ·rw[hM];unfold Mw.v;dsimp only;rw[length_replicate,length_replicate]
end Go.Proofs.YtcedojacbhnbiaaGreat
