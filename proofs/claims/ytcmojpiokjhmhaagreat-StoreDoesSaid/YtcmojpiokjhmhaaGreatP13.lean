import Derived.Test.YtcmojpiokjhmhaaGreatP12
import Derived.Test.YtcmojpiokjhmhaaGreatP11
namespace Go.Proofs.YtcmojpiokjhmhaaGreat
open Go.Sl Go.RowKit
set_option linter.unusedVariables false
set_option linter.unusedSimpArgs false
set_option maxRecDepth 20000
abbrev LL := List Nat × List Nat
def iL (t : Nat) (p : LL) (i : Nat) : LL := if 13 * t ≤ i then (iN p.1 (i - 13 * t), p.2) else (p.1, iN p.2 i)
def rO (c : List Nat) (x : Nat) : Nat → Nat → Nat
  | 0, v => v
  | k + 1, v => rO c x k (aL v x ^^^ c.getD k 0)
def nI (c : List Nat) (L i : Nat) : Bool := decide (rO c (bW (-(i : Int))) L 0 = 0)
def bH (t : Nat) (c : List Nat) (L : Nat) (p : LL) : Nat → LL × Nat
  | 0 => (p, 0)
  | k + 1 => if nI c L k = true then (iL t (bH t c L p k).1 k, (bH t c L p k).2 + 1) else bH t c L p k
def dL (t : Nat) (p : LL) : List Nat := kG t (13 * t + 8 * p.1.length) (yg t p.1 p.2)
def lJ (t : Nat) (d m : List Nat) : Option (LL × Nat) :=
  if t + 1 < ni (dL t (d, dH t m)) then none
  else
    if (bH t (lK (dL t (d, dH t m))) (ni (dL t (d, dH t m))) (d, dH t m) (13 * t + 8 * d.length)).2 + 1 ≠ ni (dL t (d, dH t m)) then none
    else if 0 < ones (fB (dL t (bH t (lK (dL t (d, dH t m))) (ni (dL t (d, dH t m))) (d, dH t m) (13 * t + 8 * d.length)).1)) then none
    else some (bH t (lK (dL t (d, dH t m))) (ni (dL t (d, dH t m))) (d, dH t m) (13 * t + 8 * d.length))
theorem Ak {c : List Nat} {x k v : Nat} : rO c x (k + 1) v = rO c x k (aL v x ^^^ c.getD k 0) := rfl
theorem zX (t : Nat) (c : List Nat) (L : Nat) (p : LL) : ∀ k, (bH t c L p k).2 ≤ k
  | 0 => Nat.le_refl _
  | k + 1 => by
    have := zX t c L p k
    rw [bH]; split
    · show (bH t c L p k).2 + 1 ≤ k + 1; omega
    · omega
theorem IJ (t : Nat) (p : LL) (i : Nat) : (iL t p i).1.length = p.1.length ∧ (iL t p i).2.length = p.2.length := by
  unfold iL; split <;> simp [dW]
theorem iY (t : Nat) (c : List Nat) (L : Nat) (p : LL) : ∀ k, (bH t c L p k).1.1.length = p.1.length ∧ (bH t c L p k).1.2.length = p.2.length
  | 0 => ⟨rfl, rfl⟩
  | k + 1 => by
    have ih := iY t c L p k
    rw [bH]; split
    · have := IJ t (bH t c L p k).1 k
      exact ⟨by show (iL _ _ _).1.length = _; omega, by show (iL _ _ _).2.length = _; omega⟩
    · exact ih
theorem pW {t len : Nat} {bit : Nat → Bool} : Small 8192 (kG t len bit) := fun x hx => by
  obtain ⟨k, _, rfl⟩ := List.mem_map.1 hx
  exact Kg _ _ (by decide)
theorem vX {t len : Nat} {bit : Nat → Bool} : (kG t len bit).length = 2 * t := by simp [kG]
theorem GN {s : List Nat} (hs : Small 8192 s) : Small 8192 (lK s) := (tQ hs _).cs
theorem MO {s : List Nat} (hs : Small 8192 s) : ni s ≤ (lK s).length ∧ (lK s).length ≤ s.length + 1 := ⟨eF _ _, (tQ hs _).c2⟩
namespace Wd
def put (W : Wd) (p : LL) : Wd := { W with d := p.1, m := p.2 }
theorem zm (W : Wd) (p : LL) (i : Nat) : (W.put p).flip i = W.put (iL W.t p i) := by
  unfold Wd.flip iL put
  split <;> rfl
end Wd
def MI (F : List aj) (o : Option (LL × Nat)) (v : Value) (H' : List aj) : Prop :=
  match o with
  | none => v = .tuple #[.slice none 0 0, .slice none 0 0, .int .i64 0, .int .i64 50] ∧ H' = F
  | some (p, n) => ∃ g1 c1 r1 g2 c2 r2, p.1.length ≤ c1 ∧ p.2.length ≤ c2 ∧ v = .tuple #[.slice (some ⟨g1, 0, none⟩) p.1.length c1, .slice (some ⟨g2, 0, none⟩) p.2.length c2, .int .i64 (n : Int), .int .i64 0] ∧ H' = Cells g1 5 (aA .u8 p.1 ++ r1) :: Cells g2 5 (aA .u8 p.2 ++ r2) :: F
section
variable {K : World} {F : List aj}
theorem yN {bw : Nat} {V : Wd} (h : V.Ok) : Does Tryz.prog 153 #[ptr bw 0] K (V.parts bw ++ F) (fun v H' => ∃ g, v = .slice (some ⟨g, 0, none⟩) (2 * V.t) (2 * V.t) ∧ H' = Cells g 3 (aA .i64 (dL V.t (V.d, V.m))) :: (V.parts bw ++ F)) :=
  JD h bA.all (Seq.up (Seq.here (by rw [aG]; omega) (by rw [List.drop_zero]; exact List.prefix_append _ _))) (Seq.up (Seq.up (Seq.here (by rw [aG]; omega) (by rw [List.drop_zero]; exact List.prefix_append _ _))))
theorem F6 {t : Nat} {A B : Option Addr} {m q cap cap' : Nat} {d mo : List Nat} (ht : 1 ≤ t ∧ t ≤ 8) (hd : Seq K F A m 1 (aA .u8 d)) (hm : Seq K F B q 1 (aA .u8 mo)) (DT : Small 256 d) (N7 : Small 256 mo) (hdl : 1 ≤ m ∧ m ≤ 512) (hml : q = ay t) :
    Does Tryz.prog 138 #[.int .i64 (t : Int), .slice A m cap, .slice B q cap'] K F (MI F (lJ t d mo)) := by
  refine Does.enter Tryz.func138 rfl Tryz.ntmps138 rfl ?_
  simp only [aH, Nat.reduceAdd]
  refine WC.sr (WL.sg rfl rfl (WL.sg rfl rfl (WL.sg rfl rfl (WL.sg rfl rfl (WL.nil (WC.sr (WL.mv rfl rfl (WL.mv rfl rfl (WL.mv rfl rfl (WL.call (vs := [_, _, _]) Tryz.call151 ⟨OV.p rfl, OV.p rfl, OV.p rfl, trivial⟩ (Ej ht hd hm DT N7 hdl hml) rfl ?_))))))))))
  rintro _ _ ⟨bw, W, hW, Ph, hWd, Ua, hWc, rfl, rfl⟩
  obtain ⟨p, hp⟩ : ∃ p : LL, p = (d, dH t mo) := ⟨_, rfl⟩
  have hp1 : W.d = p.1 := by rw [hp, hWd]
  have hp2 : W.m = p.2 := by rw [hp, Ua]
  have hdF : lJ t d mo = (if t + 1 < ni (dL t p) then none else if (bH t (lK (dL t p)) (ni (dL t p)) p W.len).2 + 1 ≠ ni (dL t p) then none else if 0 < ones (fB (dL t (bH t (lK (dL t p)) (ni (dL t p)) p W.len).1)) then none else some (bH t (lK (dL t p)) (ni (dL t p)) p W.len)) := by
    unfold lJ Wd.len
    rw [hp, Ph, hWd]
  rw [hdF]
  have Ux : W.len ≤ 4200 := by have h1 := hW.t; have h2 := hW.d; unfold Wd.len; omega
  refine WL.mv rfl rfl (WL.xt rfl rfl rfl (WL.xt rfl rfl rfl (WL.sg rfl rfl (WL.sg rfl rfl (WL.nil (WC.seq (WC.sr (WL.mv rfl rfl (WL.val (V.neq (OV.p rfl) (OV.p rfl)) rfl (WL.nil ?_))))))))))
  refine WC.aS rfl (by first | rfl | (simp; done) | (simp; omega)) ?_
  refine WC.skip (WC.sr (WL.mv rfl rfl (WL.call (vs := [_]) Tryz.call153 ⟨OV.p rfl, trivial⟩ (yN hW) rfl ?_)))
  rintro _ _ ⟨gs, rfl, rfl⟩
  rw [hp1, hp2, Ph]
  obtain ⟨s, hs⟩ : ∃ s, s = dL t (p.1, p.2) := ⟨_, rfl⟩
  have hs' : dL t p = s := hs.symm
  have hss : Small 8192 s := by rw [hs]; exact pW
  have hsl : s.length = 2 * t := by rw [hs]; exact vX
  rw [hs']
  refine WL.call (vs := [_]) Tryz.call152 ⟨OV.p rfl, trivial⟩ (DY (s := s) (Seq.xK hsl) hss (by omega)) rfl ?_
  rintro _ _ ⟨gl, cl, rl, rfl, rfl⟩
  obtain ⟨L, hL⟩ : ∃ L, L = ni s := ⟨_, rfl⟩
  obtain ⟨c, hc⟩ : ∃ c, c = lK s := ⟨_, rfl⟩
  have TQ := MO hss
  have hcs := GN hss
  rw [← hL, ← hc] at TQ ⊢
  rw [← hc] at hcs
  refine WL.sg rfl rfl (WL.nil (WC.seq (WC.sr (WL.mv rfl rfl (WL.val (V.len (t := 24) Tryz.runUnderlying24 (OV.p rfl)) rfl (WL.sb rfl rfl rfl ?_))))))
  refine WL.mv rfl rfl (WL.val (V.gtr (OV.p rfl) (OV.p rfl)) rfl (WL.nil ?_))
  refine WC.cond rfl (fun hc1 => ?_) (fun hc1 => ?_)
  ·simp only [decide_eq_true_eq, decide_eq_false_iff_not] at hc1
   have h1 := hc1
   rw [if_pos (by omega)]
   refine WC.sr (WL.sg rfl rfl (WL.sg rfl rfl (WL.sg rfl rfl (WL.sg rfl rfl (WL.nil (WC.ret ?_))))))
   exact ak.ret (H' := F) (aQ.Nq rfl rfl rfl rfl rfl) (fun w h => h.sel 5 [] rfl) ⟨rfl, rfl⟩
  ·simp only [decide_eq_true_eq, decide_eq_false_iff_not] at hc1
   have h1 := hc1
   rw [if_neg (by omega)]
   refine WC.skip (WC.seq ?_)
   have Sj : W.put (bH t c L p 0).1 = W := by unfold Wd.put bH; rw [← hp1, ← hp2]
   have hok : ∀ k, (W.put (bH t c L p k).1).Ok := fun k => by
     induction k with
     | zero => rw [Sj]; exact hW
     | succ k ih =>
       rw [bH]; split
       · have := ih.flip k
         rw [Wd.zm, Ph] at this
         exact this
       · exact ih
   refine WC.region (WL.sg rfl rfl (WL.nil (WC.seq (WC.sr (WL.mv rfl rfl ?_)))))
   refine WL.call (vs := [_]) Tryz.call154 ⟨OV.p rfl, trivial⟩ (EA hW (by repeat (first | exact bA.all | apply bA.up))) rfl ?_
   rintro _ H0 ⟨rfl, h0⟩
   subst H0
   refine WL.mv rfl rfl (WL.nil (WC.block ?_))
   refine WC.loop (σ := Nat) (fun k => [(10, ptr bw 0), (12, .slice (some ⟨gl, 0, none⟩) L cl), (13, .int .i64 ((bH t c L p k).2 : Nat)), (37, .int .i64 (W.len : Nat)), (38, .int .i64 (k : Int))]) (fun k => (W.put (bH t c L p k).1).parts bw ++ (Cells gl 3 (aA .i64 c ++ rl) :: F)) (fun k => k ≤ W.len) (fun k => W.len - k) 0 (Nat.zero_le _) (.cons rfl (.cons rfl (.cons rfl (.cons rfl (.cons rfl (.nil _)))))) (fun w h => by rw [Sj]; exact h.sel 5 [2, 3, 4, 0] rfl) ?_
   rintro k hk
   obtain ⟨U, hV⟩ : ∃ U, U = W.put (bH t c L p k).1 := ⟨_, rfl⟩
   have SG : U.Ok := by rw [hV]; exact hok k
   have Sv : U.t = t := by rw [hV]; exact Ph
   have SB : U.d.length = W.d.length := by rw [hV, hp1]; exact (iY t c L p k).1
   have UK : U.len = W.len := by unfold Wd.len; rw [Sv, SB, Ph]
   have hdl := zX t c L p k
   rw [← hV]
   refine WC.sr (WL.val (V.lss (OV.p rfl) (OV.p rfl)) rfl (WL.nil (WC.seq ?_)))
   refine WC.cond rfl (fun hc2 => ?_) (fun hc2 => ?_)
   ·simp only [decide_eq_true_eq, decide_eq_false_iff_not] at hc2
    refine WC.skip (WC.seq (WC.block (WC.sr (WL.mv rfl rfl (WL.sg rfl rfl (WL.nil (WC.seq ?_)))))))
    obtain ⟨x, hx⟩ : ∃ x, x = bW (-(k : Int)) := ⟨_, rfl⟩
    have QG : x < 8192 := by rw [hx]; exact jK _
    refine WC.region (WL.mv rfl rfl ?_)
    refine WL.val (V.Ro (OV.p rfl) (fun _ => by omega)) rfl ?_
    refine WL.call (vs := [_]) Tryz.call155 ⟨OV.p rfl, trivial⟩ (Gu (-(k : Int)) (by omega)) rfl ?_
    rintro _ H0 ⟨rfl, h0⟩
    subst H0
    refine WL.sg rfl rfl (WL.sg rfl rfl (WL.nil (WC.seq (WC.sr (WL.mv rfl rfl (WL.val (V.len (t := 24) Tryz.runUnderlying24 (OV.p rfl)) rfl ?_))))))
    refine WL.val (V.aB (v' := .int .i64 ((L : Int) - 1)) (V.sZ (OV.p rfl) (OV.p rfl) (fun _ => by omega)) (fun _ => rfl)) rfl ?_
    rw [← hx]
    refine WL.sg rfl rfl (WL.nil (WC.block ?_))
    refine WC.loop (σ := Nat × Nat) (fun y => [(10, ptr bw 0), (12, .slice (some ⟨gl, 0, none⟩) L cl), (13, .int .i64 ((bH t c L p k).2 : Nat)), (37, .int .i64 (W.len : Nat)), (38, .int .i64 (k : Int)), (14, .int .i64 (k : Int)), (15, .int .i64 (x : Int)), (16, .int .i64 (y.2 : Int)), (17, .int .i64 ((y.1 : Int) - 1))]) (fun _ => U.parts bw ++ (Cells gl 3 (aA .i64 c ++ rl) :: F)) (fun y => y.1 ≤ L ∧ y.2 < 8192 ∧ rO c x y.1 y.2 = rO c x L 0) (fun y => y.1) (L, 0) ⟨Nat.le_refl _, by show 0 < 8192; decide, rfl⟩ (.cons rfl (.cons rfl (.cons rfl (.cons rfl (.cons rfl (.cons rfl (.cons rfl (.cons rfl (.cons rfl (.nil _)))))))))) (fun w h => h) ?_
    rintro ⟨j, v⟩ ⟨hj, hv, hev⟩
    dsimp only at hj hv hev ⊢
    refine WC.seq (WC.sr (WL.mv rfl rfl (WL.val (V.geq (OV.p rfl) (OV.p rfl)) rfl (WL.nil ?_))))
    refine WC.cond rfl (fun hc3 => ?_) (fun hc3 => ?_)
    ·simp only [decide_eq_true_eq, decide_eq_false_iff_not] at hc3
     obtain ⟨j', rfl⟩ : ∃ j', j = j' + 1 := ⟨j - 1, by omega⟩
     have hj1 : ((j' + 1 : Nat) : Int) - 1 = (j' : Int) := by omega
     rw [hj1]
     rw [Ak] at hev
     have Oh := aP (b := x) hv
     have hcj := hcs.at_ (by decide) j'
     have hrc : Rd K (U.parts bw ++ (Cells gl 3 (aA .i64 c ++ rl) :: F)) (some ⟨gl, 0 + (j' : Int).toNat * 1, none⟩) (.int .i64 (c.getD j' 0 : Nat)) := by
       rw [show 0 + (j' : Int).toNat * 1 = j' by omega]
       exact Rd.up (Rd.up (Rd.up (Rd.here (iZ _ _ _ (by omega)))))
     refine WC.skip (WC.seq (WC.block ?_))
     refine WC.dP (by kernel_rfl) (by kernel_rfl) ?_
     refine WQ.val (V.move (OV.p rfl)) rfl (WQ.val (V.move (OV.p rfl)) rfl (WQ.call (vs := [_, _]) Tryz.call156 ⟨OV.p rfl, OV.p rfl, trivial⟩ (qL hv QG) rfl (WQ.val (V.move (OV.p rfl)) rfl (WQ.val (V.move (OV.p rfl)) rfl ?_))))
     refine WQ.val (V.bM cO (OV.p rfl) (OV.p rfl) (fun hc => by omega)) rfl ?_
     refine WQ.val (V.load Tryz.isAgg3 (OV.p rfl) (fun hc => hrc)) rfl ?_
     refine WQ.val (V.aB (v' := .int .i64 ((aL v x ^^^ c.getD j' 0 : Nat) : Int)) (V.xor (OV.p rfl) (OV.p rfl)) (fun _ => by rw [jy (by omega) (by omega)])) rfl ?_
     refine WQ.val (V.assign (OV.p rfl)) rfl (WQ.nil (WC.region (WL.mv rfl rfl (WL.sb rfl rfl rfl ?_))))
     refine WL.sg rfl rfl (WL.nil ?_)
     refine ⟨rfl, ?_⟩
     exact ⟨(j', aL v x ^^^ c.getD j' 0), ⟨by show j' ≤ L; omega, dh (k := 13) Oh hcj, hev⟩, Nat.lt_succ_self _, .cons rfl (.cons rfl (.cons rfl (.cons rfl (.cons rfl (.cons rfl (.cons rfl (.cons rfl (.cons rfl (.nil _))))))))), fun w h => h⟩
    ·simp only [decide_eq_true_eq, decide_eq_false_iff_not] at hc3
     refine WC.exit (WC.seq ?_)
     obtain rfl : j = 0 := by omega
     have hv2 : v = rO c x L 0 := hev
     have hrt : nI c L k = decide (v = 0) := by unfold nI; rw [← hx, hv2]
     have hk1 : k < W.len := by omega
     refine WC.region (WL.mv rfl rfl (WL.val (V.eql (OV.p rfl) (OV.p rfl)) rfl (WL.nil ?_)))
     refine WC.cond rfl (fun hc4 => ?_) (fun hc4 => ?_)
     ·simp only [decide_eq_true_eq, decide_eq_false_iff_not] at hc4
      have h4 := hc4
      have hdk : bH t c L p (k + 1) = (iL t (bH t c L p k).1 k, (bH t c L p k).2 + 1) := by rw [bH, hrt, if_pos (decide_eq_true (show v = 0 by omega))]
      refine WC.sr (WL.mv rfl rfl (WL.mv rfl rfl ?_))
      refine WL.call (vs := [_, _]) Tryz.call157 ⟨OV.p rfl, OV.p rfl, trivial⟩ (JE SG (i := k) (by omega)) rfl ?_
      rintro v1 _ rfl
      refine WL.nil (WC.region (WL.mv rfl rfl (WL.ad rfl rfl rfl ?_)))
      refine WL.sg rfl rfl (WL.nil (WC.region (WL.ad rfl rfl rfl ?_)))
      refine WL.mv rfl rfl (WL.nil ?_)
      refine ⟨rfl, ?_⟩
      first
      | exact ⟨k + 1, (by show k + 1 ≤ W.len; omega), (by show W.len - (k + 1) < W.len - k; omega), .cons rfl (.cons rfl (.cons (look_eq rfl (by rw [hdk]; simp only [Int.natCast_add]; rfl)) (.cons rfl (.cons (look_eq rfl (by simp)) (.nil _))))), fun w h => by dsimp only; rw [hdk]; dsimp only; rw [hV, Wd.zm, Ph] at h; exact h⟩
      | exact ⟨k + 1, (by show k + 1 ≤ W.len; omega), (by show W.len - (k + 1) < W.len - k; omega), .cons rfl (.cons rfl (.cons (look_eq rfl (by rw [hdk])) (.cons rfl (.cons (look_eq rfl (by simp)) (.nil _))))), fun w h => by dsimp only; rw [hdk, ← hV]; exact h⟩
     ·simp only [decide_eq_true_eq, decide_eq_false_iff_not] at hc4
      have h4 := hc4
      have hdk : bH t c L p (k + 1) = bH t c L p k := by rw [bH, hrt, decide_eq_false (show ¬ v = 0 by omega)]; rfl
      refine WC.skip (WC.region (WL.ad rfl rfl rfl ?_))
      refine WL.mv rfl rfl (WL.nil ?_)
      refine ⟨rfl, ?_⟩
      first
      | exact ⟨k + 1, (by show k + 1 ≤ W.len; omega), (by show W.len - (k + 1) < W.len - k; omega), .cons rfl (.cons rfl (.cons (look_eq rfl (by rw [hdk]; simp only [Int.natCast_add]; rfl)) (.cons rfl (.cons (look_eq rfl (by simp)) (.nil _))))), fun w h => by dsimp only; rw [hdk]; dsimp only; rw [hV, Wd.zm, Ph] at h; exact h⟩
      | exact ⟨k + 1, (by show k + 1 ≤ W.len; omega), (by show W.len - (k + 1) < W.len - k; omega), .cons rfl (.cons rfl (.cons (look_eq rfl (by rw [hdk])) (.cons rfl (.cons (look_eq rfl (by simp)) (.nil _))))), fun w h => by dsimp only; rw [hdk, ← hV]; exact h⟩
   ·simp only [decide_eq_true_eq, decide_eq_false_iff_not] at hc2
    refine WC.exit (WC.seq (WC.seq ?_))
    obtain rfl : k = W.len := by omega
    obtain ⟨r, hr⟩ : ∃ r, r = bH t c L p W.len := ⟨_, rfl⟩
    rw [← hr] at hV hdl ⊢
    have QN : U.d = r.1.1 := by rw [hV]; rfl
    have Rx : U.m = r.1.2 := by rw [hV]; rfl
    obtain ⟨bb, hbb⟩ : ∃ bb, bb = !decide ((r.2 : Int) = (L : Int) - 1) := ⟨_, rfl⟩
    refine WC.region (WL.mv rfl rfl (WL.mv rfl rfl (WL.val (V.len (t := 24) Tryz.runUnderlying24 (OV.p rfl)) rfl (WL.sb rfl rfl rfl ?_))))
    refine WL.val (V.aB (v' := .bool bb) (V.neq (OV.p rfl) (OV.p rfl)) (fun _ => by rw [hbb])) rfl ?_
    refine WL.val (V.move (OV.p rfl)) rfl ?_
    rcases Bool.eq_false_or_eq_true bb with hb | hb
    · subst hb
      have hne : ¬ r.2 + 1 = L := fun h => by
        have h6 : (r.2 : Int) = (L : Int) - 1 := by omega
        rw [decide_eq_true h6] at hbb
        cases hbb
      rw [if_pos hne]
      refine WL.vg (oj := _) rfl rfl rfl rfl rfl (fun d hd => by injection hd with hd; subst hd; rfl) ?_
      refine WL.vg (oj := _) rfl rfl rfl rfl rfl (fun d hd => by injection hd with hd; subst hd; rfl) ?_
      refine WL.vg (oj := _) rfl rfl rfl rfl rfl (fun d hd => by injection hd with hd; subst hd; rfl) ?_
      refine WL.vg (oj := _) rfl rfl rfl rfl rfl (fun d hd => by injection hd with hd; subst hd; rfl) ?_
      refine WL.vg (oj := _) rfl rfl rfl rfl rfl (fun d hd => by injection hd with hd; subst hd; rfl) ?_
      refine WL.val (V.NQ (OV.p rfl) (OV.p rfl)) rfl (WL.nil (WC.fM rfl rfl (WC.seq (WC.region (WL.val (V.assign (OV.p rfl)) rfl (WL.val (V.assign (OV.p rfl)) rfl (WL.val (V.assign (OV.p rfl)) rfl (WL.val (V.assign (OV.p rfl)) rfl (WL.nil (WC.ret ?_))))))))))
      exact ak.ret (H' := F) (aQ.Nq rfl rfl rfl rfl rfl) (fun w h => h.sel 4 [] rfl) ⟨rfl, rfl⟩
    subst hb
    have hne : r.2 + 1 = L := by
      have h6 : (r.2 : Int) = (L : Int) - 1 := by
        rcases Decidable.em ((r.2 : Int) = (L : Int) - 1) with h | h
        · exact h
        · rw [decide_eq_false h] at hbb; cases hbb
      omega
    rw [if_neg (fun h => h hne)]
    refine WL.known (oj := _) rfl rfl rfl rfl (WL.mv rfl rfl (WL.known (oj := _) rfl rfl rfl rfl (WL.call (vs := [_]) Tryz.call153 ⟨OV.p rfl, trivial⟩ (yN SG) rfl ?_)))
    rintro _ _ ⟨gs2, rfl, rfl⟩
    rw [QN, Rx, Sv]
    obtain ⟨s2, hs2⟩ : ∃ s2, s2 = dL t r.1 := ⟨_, rfl⟩
    have RZ : Small 8192 s2 := by rw [hs2]; exact pW
    have hsl2 : s2.length = 2 * t := by rw [hs2]; exact vX
    rw [show dL t (r.1.1, r.1.2) = s2 from hs2.symm]
    refine WL.known (oj := _) rfl rfl rfl rfl ?_
    refine WL.call (vs := [_]) Tryz.call158 ⟨OV.p rfl, trivial⟩ (G7 (s := s2) (Seq.xK hsl2) RZ (by omega)) rfl ?_
    rintro _ _ ⟨gn, rfl, rfl⟩
    refine WL.known (oj := _) rfl rfl rfl rfl ?_
    refine WL.call (vs := [_]) Tryz.call150 ⟨OV.p rfl, trivial⟩ (Bo (xs := fB s2) (Seq.xK (by simp [fB]; exact hsl2)) (fun x hx => by obtain ⟨y, _, rfl⟩ := List.mem_map.1 hx; unfold nz; split <;> decide) (by omega)) rfl ?_
    rintro _ H0 ⟨rfl, h0⟩
    subst H0
    refine WL.known (oj := _) rfl rfl rfl rfl (WL.val (V.gtr (OV.p rfl) (OV.p rfl)) rfl (WL.val (V.bK (OV.p rfl) (OV.p rfl)) rfl (WL.nil ?_)))
    refine WC.cond rfl (fun mP => ?_) (fun mP => ?_)
    ·simp only [Bool.false_or, decide_eq_true_eq, decide_eq_false_iff_not] at mP
     have h5 := mP
     rw [if_pos (by omega)]
     refine WC.sr (WL.sg rfl rfl (WL.sg rfl rfl (WL.sg rfl rfl (WL.sg rfl rfl (WL.nil (WC.ret ?_))))))
     exact ak.ret (H' := F) (aQ.Nq rfl rfl rfl rfl rfl) (fun w h => h.sel 6 [] rfl) ⟨rfl, rfl⟩
    ·simp only [Bool.false_or, decide_eq_true_eq, decide_eq_false_iff_not] at mP
     have h5 := mP
     rw [if_neg (by omega)]
     refine WC.skip (WC.seq ?_)
     refine WC.dP (by kernel_rfl) (by kernel_rfl) ?_
     refine WQ.val (V.move (OV.p rfl)) rfl (WQ.val (V.nilCheck (OV.p rfl)) rfl (WQ.val (V.fieldAddr yt (OV.p rfl)) rfl ?_))
     refine WQ.val (V.load Tryz.isAgg43 (OV.p rfl) (fun _ => by repeat (first | exact Rd.here rfl | apply Rd.up))) rfl ?_
     refine WQ.val (V.move (OV.p rfl)) rfl (WQ.val (V.nilCheck (OV.p rfl)) rfl (WQ.val (V.fieldAddr yu (OV.p rfl)) rfl ?_))
     refine WQ.val (V.load Tryz.isAgg43 (OV.p rfl) (fun _ => by repeat (first | exact Rd.here rfl | apply Rd.up))) rfl ?_
     refine WQ.val (V.move (OV.p rfl)) rfl (WQ.val (V.assign (OV.p rfl)) rfl (WQ.val (V.assign (OV.p rfl)) rfl (WQ.val (V.assign (OV.p rfl)) rfl (WQ.val (V.assign (OV.p rfl)) rfl (WQ.nil (WC.ret ?_))))))
     refine ak.ret (H' := Cells U.g1 5 (aA .u8 r.1.1 ++ U.r1) :: Cells U.g2 5 (aA .u8 r.1.2 ++ U.r2) :: F) (aQ.Nq rfl rfl rfl rfl rfl) (fun w h => ?_) ⟨U.g1, U.c1, U.r1, U.g2, U.c2, U.r2, ?_, ?_, ?_, rfl⟩
     · have h' := h.sel 6 [3, 4] rfl
       rw [← QN, ← Rx]
       exact h'
     · rw [← QN, SB, hV]; exact hWc.1
     · rw [hr, (iY t c L p W.len).2, ← hp2, hV]; exact hWc.2
     · rw [QN, Rx]
end
abbrev NG (bl pg : Int) (S B t : Nat) : Geo := ⟨bl, pg, (S : Int), (B : Int), (t : Int)⟩
def fU (S B t : Nat) : Nat := S * (B + ay t) + 1
structure o8 (S B t : Nat) : Prop where
  s : 1 ≤ S ∧ S ≤ 8
  b : 4 ≤ B ∧ B ≤ 512
  t : 1 ≤ t ∧ t ≤ 8
theorem o8.of {bl pg : Int} {S B t : Nat} (h : (NG bl pg S B t).aD) : o8 S B t := by
  unfold Geo.aD at h
  dsimp only at h
  exact ⟨by omega, by omega, by omega⟩
theorem NG.whole {bl pg : Int} {S B t : Nat} : (NG bl pg S B t).whole = ((B + ay t : Nat) : Int) := by
  unfold Geo.whole Geo.more ay
  dsimp only
  omega
theorem NG.raw {bl pg : Int} {S B t : Nat} : (NG bl pg S B t).raw = ((fU S B t : Nat) : Int) := by
  unfold Geo.raw fU
  rw [NG.whole]
  dsimp only
  simp
theorem NG.room {bl pg : Int} {S B t : Nat} : (NG bl pg S B t).room = ((S * B : Nat) : Int) := by
  unfold Geo.room
  dsimp only
  rw [Int.natCast_mul]
def dI (B : Nat) (d : List Nat) (j : Nat) : List Nat := (d.drop (j * B)).take B
def vQ (t B : Nat) (d : List Nat) : Nat → List Nat
  | 0 => []
  | j + 1 => (vQ t B d j ++ dI B d j) ++ fD t (dI B d j)
def kg (t S B : Nat) (d : List Nat) : List Nat := vQ t B d S ++ [0]
theorem Small.drop {b n : Nat} {xs : List Nat} (h : Small b xs) : Small b (xs.drop n) := fun y hy => h y (List.mem_of_mem_drop hy)
theorem fP {B : Nat} {d : List Nat} (h : Small 256 d) (j : Nat) : Small 256 (dI B d j) := Small.take (Small.drop h)
theorem mq {B j S : Nat} {d : List Nat} (h : d.length = S * B) (hj : j < S) : (dI B d j).length = B := by
  unfold dI
  rw [List.length_take, List.length_drop, h]
  have : (j + 1) * B ≤ S * B := Nat.mul_le_mul_right _ hj
  rw [Nat.succ_mul] at this
  omega
theorem jS {t B S : Nat} {d : List Nat} (ht : 1 ≤ t ∧ t ≤ 8) (h8 : Small 256 d) (h : d.length = S * B) : ∀ j, j ≤ S → (vQ t B d j).length = j * (B + ay t)
  | 0, _ => by simp [vQ]
  | j + 1, hj => by
    rw [vQ, List.length_append, List.length_append, jS ht h8 h j (by omega), mq h (by omega), mh ht (fP h8 j), Nat.succ_mul]
    omega
theorem yE {t B : Nat} {d : List Nat} (ht : 1 ≤ t ∧ t ≤ 8) (h8 : Small 256 d) : ∀ j, Small 256 (vQ t B d j)
  | 0 => fun x hx => by simp [vQ] at hx
  | j + 1 => ((yE ht h8 j).append (fP h8 j)).append (sH ht (fP h8 j))
theorem nV {t B S : Nat} {d : List Nat} (ht : 1 ≤ t ∧ t ≤ 8) (h8 : Small 256 d) (h : d.length = S * B) : (kg t S B d).length = fU S B t := by
  unfold kg fU
  rw [List.length_append, jS ht h8 h S (Nat.le_refl _)]; rfl
theorem wO {t B S : Nat} {d : List Nat} (ht : 1 ≤ t ∧ t ≤ 8) (h8 : Small 256 d) : Small 256 (kg t S B d) := (yE ht h8 S).append (fun x hx => by rw [List.mem_singleton.1 hx]; decide)
theorem _root_.Go.Sl.Seq.Ef {K : World} {H : List aj} {A : Option Addr} {m l u : Nat} {vs : List Value} (hs : Seq K H A m 1 vs) (hl : l ≤ m) (hu : m ≤ u) : Seq K H (if u = l then A else A.map (·.add (l * 1))) (m - l) 1 (vs.drop l) := by
  have hlen := hs.len
  refine ⟨by rw [List.length_drop]; omega, fun i v hi => ?_⟩
  rw [List.getElem?_drop] at hi
  have hil : l + i < vs.length := (List.getElem?_eq_some_iff.1 hi).1
  rw [if_neg (by omega)]
  have := hs.rd (l + i) v hi
  intro w hw
  obtain ⟨a, h1, h2⟩ := this w hw
  cases A with
  | none => simp at h1
  | some a' =>
    refine ⟨_, rfl, ?_⟩
    simp only [Option.map_some, Option.some.injEq] at h1
    rw [← h1] at h2
    have h3 : ((a'.add (l * 1)).add i) = a'.add (l + i) := by rw [Nat.mul_one]; rcases Nat.eq_zero_or_pos l with h | h; · { subst h; rw [Nat.zero_add]; rfl }; · { rcases Nat.eq_zero_or_pos i with h' | h'; · { subst h'; rfl }; · { unfold Addr.add; rw [if_neg (by omega), if_neg (by omega), if_neg (by omega), Nat.add_assoc] } }
    show w.cell? ((a'.add (l * 1)).add i) = some v
    rw [h3]
    exact h2
section
variable {K : World} {F : List aj}
theorem yK (g : Geo) : aJ Tryz.prog 80 #[g.v] K F (.tuple (if g.may then #[.int .i64 g.room, .int .i64 0] else #[.int .i64 0, .int .i64 1])) := by
  refine Does.enter Tryz.func80 rfl Tryz.ntmps80 rfl ?_
  simp only [aH, Nat.reduceAdd]
  refine WC.sr ?_
  refine WL.box (cs := [_, _, _, _, _]) (OV.p rfl) rfl rfl (fun b1 => ?_)
  refine WL.sg rfl rfl (WL.sg rfl rfl (WL.nil (WC.seq (WC.sr ?_))))
  refine WL.val (V.bB (vs := [_, _, _, _, _]) ⟨Tryz.isAgg23, Tryz.sizeOf23⟩ (OV.p rfl) rfl (fun _ => by repeat (first | exact bA.gets ⟨rfl, rfl, rfl, rfl, rfl, trivial⟩ | apply bA.up))) rfl ?_
  refine WL.call (vs := [_]) Tryz.call77 ⟨OV.p rfl, trivial⟩ (Bh g _ _) rfl ?_
  rintro _ H0 ⟨rfl, h0⟩
  subst H0
  refine WL.sg rfl rfl (WL.nil (WC.sr (WL.mv rfl rfl (WL.val (V.neq (OV.p rfl) (OV.p rfl)) rfl (WL.nil ?_)))))
  refine WC.cond rfl (fun hc0 => ?_) (fun hc0 => ?_)
  ·skip
   have hm : g.may = false := by cases h : g.may <;> simp [h] at hc0 ⊢
   refine WC.sr (WL.mv rfl rfl (WL.sg rfl rfl (WL.sg rfl rfl (WL.nil (WC.ret ?_)))))
   rw [hm]
   exact ak.ret (H' := F) (aQ.fG rfl rfl rfl) (fun w h => h.drop 1) ⟨rfl, rfl⟩
  ·skip
   have hm : g.may = true := by cases h : g.may <;> simp [h] at hc0 ⊢
   have hb := Geo.oz hm
   have hr := Geo.tu (a := g.se) (b := g.sb) (A := 8) (B := 512) (by unfold Geo.aD at hb; omega) (by unfold Geo.aD at hb; omega) (by unfold Geo.aD at hb; omega) (by unfold Geo.aD at hb; omega)
   refine WC.skip (WC.sr (WL.val (V.fieldAddr nP (OV.p rfl)) rfl (WL.ld Tryz.isAgg3 rfl rfl ?_)))
   refine WL.val (V.fieldAddr gV (OV.p rfl)) rfl (WL.ld Tryz.isAgg3 rfl rfl ?_)
   refine WL.val (V.jI (OV.p rfl) (OV.p rfl) (fun hc => by omega)) rfl ?_
   refine WL.sg rfl rfl (WL.sg rfl rfl (WL.nil (WC.ret ?_)))
   refine ak.ret (H' := F) (aQ.fG rfl rfl rfl) (fun w h => h.drop 1) ⟨?_, rfl⟩
   rw [hm]; rfl
theorem J8 {bl pg : Int} {S B t : Nat} {A : Option Addr} {m cap : Nat} {d : List Nat} (hg : (NG bl pg S B t).aD) (hd : Seq K F A m 1 (aA .u8 d)) (h8 : Small 256 d) (hm : m = S * B) (hmc : m ≤ cap) :
    Does Tryz.prog 114 #[(NG bl pg S B t).v, .slice A m cap] K F
      (fun v H' => ∃ A' cap', v = .tuple #[.slice A' (fU S B t) cap', .int .i64 0] ∧ H' = aZ (.slice A' (fU S B t) cap') 5 1 (fU S B t) (aA .u8 (kg t S B d)) :: F) := by
  have hl : d.length = m := by simpa [aA] using hd.len
  have hmay : (NG bl pg S B t).may = true := decide_eq_true hg
  have hN := o8.of hg
  obtain ⟨hs, hb, ht⟩ := hN
  have hmore : 2 ≤ ay t ∧ ay t ≤ 13 := by unfold ay; omega
  have Tm : m ≤ 4096 := by rw [hm]; exact Nat.mul_le_mul hs.2 hb.2
  have hm1 : 1 * 4 ≤ m := by rw [hm]; exact Nat.mul_le_mul hs.1 hb.1
  refine Does.enter Tryz.func114 rfl Tryz.ntmps114 rfl ?_
  simp only [aH, Nat.reduceAdd]
  refine WC.sr ?_
  refine WL.box (cs := [_, _, _, _, _]) (OV.p rfl) rfl rfl (fun b2 => ?_)
  refine WL.sg rfl rfl (WL.sg rfl rfl (WL.nil (WC.sr ?_)))
  refine WL.val (V.bB (vs := [_, _, _, _, _]) ⟨Tryz.isAgg23, Tryz.sizeOf23⟩ (OV.p rfl) rfl (fun _ => by repeat (first | exact bA.gets ⟨rfl, rfl, rfl, rfl, rfl, trivial⟩ | apply bA.up))) rfl ?_
  refine WL.call (vs := [_]) Tryz.call80 ⟨OV.p rfl, trivial⟩ (aJ.eq (v' := .tuple #[.int .i64 (m : Int), .int .i64 0]) (yK (NG bl pg S B t)) (by rw [hmay, NG.room, hm]; rfl)) rfl ?_
  rintro _ H0 ⟨rfl, h0⟩
  subst H0
  refine WL.mv rfl rfl (WL.xt rfl rfl rfl (WL.xt rfl rfl rfl (WL.sg rfl rfl (WL.sg rfl rfl (WL.nil (WC.seq (WC.sr (WL.mv rfl rfl (WL.val (V.neq (OV.p rfl) (OV.p rfl)) rfl (WL.mv rfl rfl (WL.av (oj := _) rfl rfl rfl GC.f (V.move (OV.p rfl)) rfl (WL.av (oj := _) rfl rfl rfl GC.f (V.len (t := 43) Tryz.runUnderlying43 (OV.g rfl id)) rfl (WL.av (oj := _) rfl rfl rfl GC.f (V.move (OV.p rfl)) rfl (WL.av (oj := _) rfl rfl rfl GC.f (V.neq (OV.g rfl id) (OV.g rfl id)) rfl (WL.val (V.bK (OV.p rfl) (OV.g rfl id)) rfl (WL.nil ?_))))))))))))))))
  refine WC.aS rfl (by first | rfl | (simp; done) | (simp; omega)) ?_
  refine WC.skip (WC.sr (WL.sg rfl rfl (WL.nil (WC.seq (WC.block ?_)))))
  refine WC.loop (σ := Nat × Option Addr × Nat × Option Addr × Nat) (fun x => [(1, .slice x.2.1 (m - x.1 * B) x.2.2.1), (2, ptr b2 0), (8, .slice x.2.2.2.1 (x.1 * (B + ay t)) x.2.2.2.2)]) (fun x => aZ (.slice x.2.2.2.1 (x.1 * (B + ay t)) x.2.2.2.2) 5 1 (x.1 * (B + ay t)) (aA .u8 (vQ t B d x.1)) :: Cells b2 23 [.int .i64 bl, .int .i64 pg, .int .i64 (S : Int), .int .i64 (B : Int), .int .i64 (t : Int)] :: F) (fun x => x.1 ≤ S ∧ m - x.1 * B ≤ x.2.2.1 ∧ Seq K F x.2.1 (m - x.1 * B) 1 (aA .u8 (d.drop (x.1 * B)))) (fun x => S - x.1) (0, A, cap, none, 0) ⟨Nat.zero_le _, by show m - 0 * B ≤ cap; omega, by simpa using hd⟩ (.cons (look_eq rfl (by simp)) (.cons rfl (.cons (look_eq rfl (by simp)) (.nil _)))) (fun w h => by simpa [vQ, aA] using Sat.iE h 5 1) ?_
  rintro ⟨j, Aj, cj, Ao, co⟩ ⟨hj, hjc, hjs⟩
  dsimp only at hj hjc hjs ⊢
  have UW : j * B ≤ m := by rw [hm]; exact Nat.mul_le_mul_right _ hj
  have hpl := jS ht h8 (hl.trans hm) j hj
  refine WC.seq (WC.sr (WL.mv rfl rfl (WL.val (V.len (t := 43) Tryz.runUnderlying43 (OV.p rfl)) rfl (WL.val (V.gtr (OV.p rfl) (OV.p rfl)) rfl (WL.nil ?_)))))
  refine WC.cond rfl (fun hc1 => ?_) (fun hc1 => ?_)
  ·simp only [decide_eq_true_eq, decide_eq_false_iff_not] at hc1
   have Mg : j < S := by
     rcases Nat.lt_or_ge j S with h | h
     · exact h
     · exfalso
       have : j = S := by omega
       rw [this, ← hm] at hc1
       omega
   have hj1 : (j + 1) * B ≤ m := by rw [hm]; exact Nat.mul_le_mul_right _ Mg
   rw [Nat.succ_mul] at hj1
   have hsl := mq (hl.trans hm) Mg
   have F4 : Seq K F Aj B 1 (aA .u8 (dI B d j)) := by
     have h1 := Seq.take hjs (show B ≤ m - j * B by omega)
     rw [gy] at h1; exact h1
   refine WC.skip (WC.seq (WC.block (WC.sr (WL.mv rfl rfl (WL.val (V.fieldAddr gV (OV.p rfl)) rfl (WL.ld Tryz.isAgg3 rfl rfl ?_))))))
   refine WL.val (V.fieldAddr gV (OV.p rfl)) rfl (WL.ld Tryz.isAgg3 rfl rfl ?_)
   refine WL.val (V.aB (v' := .slice Aj B B) (V.slice (l := 0) (h := B) (u := B) eZ (OV.p rfl) OO.none (OO.some (OV.p rfl) (fun _ => rfl)) (OO.some (OV.p rfl) (fun _ => rfl)) (by simp) (Nat.zero_le _) (Nat.le_refl _) (by omega)) (fun _ => by rw [show (B - 0 : Nat) = B from rfl]; cases Aj <;> simp [Addr.add])) rfl ?_
   refine WL.sg rfl rfl (WL.nil (WC.sr (WL.val (V.fieldAddr mO (OV.p rfl)) rfl (WL.ld Tryz.isAgg3 rfl rfl ?_))))
   refine WL.mv rfl rfl ?_
   refine WL.call (vs := [_, _]) Tryz.call136 ⟨OV.p rfl, OV.p rfl, trivial⟩ (Gt ht (F4.up.up) (fP h8 j) (by omega)) rfl ?_
   rintro _ _ ⟨Ae, ce, rfl, rfl⟩
   refine WL.mv rfl rfl (WL.xt rfl rfl rfl (WL.xt rfl rfl rfl (WL.sg rfl rfl (WL.sg rfl rfl (WL.nil (WC.region (WL.mv rfl rfl (WL.mv rfl rfl ?_))))))))
   refine WL.sub (Sub.refl _) (fun w h => h.p1) ?_
   refine WL.append (m := j * (B + ay t)) (q := B) Tryz.underlying43 wX (OV.p rfl) (OV.p rfl) (by repeat (first | exact F4 | apply Seq.up)) (ny _ _) (by have := Nat.mul_le_mul hj (show B + ay t ≤ 525 by omega); omega) rfl rfl (fun A3 c3 hA3 hc3 => ?_)
   refine WL.mv rfl rfl ?_
   refine WL.append (m := j * (B + ay t) + B) (q := ay t) (news := aA .u8 (fD t (dI B d j))) Tryz.underlying43 wX (OV.p rfl) (OV.p rfl) (aZ.seq (by rw [aG, mh ht (fP h8 j), Nat.mul_one])) (ny _ _) (by have := Nat.mul_le_mul hj (show B + ay t ≤ 525 by omega); omega) rfl rfl (fun A4 c4 RY hc4 => ?_)
   refine WL.sg rfl rfl (WL.nil (WC.region (WL.mv rfl rfl (WL.val (V.fieldAddr gV (OV.p rfl)) rfl (WL.ld Tryz.isAgg3 rfl rfl ?_)))))
   refine WL.val (V.slice (l := B) (h := m - j * B) (u := cj) eZ (OV.p rfl) (OO.some (OV.p rfl) (fun _ => rfl)) OO.none OO.none (by simp) (by omega) (by omega) (Nat.le_refl _)) rfl ?_
   refine WL.sg rfl rfl (WL.nil ?_)
   refine ⟨rfl, ?_⟩
   refine ⟨(j + 1, (if cj = B then Aj else Aj.map (·.add (B * 1))), cj - B, A4, c4), ⟨Mg, by show m - (j + 1) * B ≤ cj - B; rw [Nat.succ_mul]; omega, ?_⟩, (by show S - (j + 1) < S - j; omega), .cons (look_eq rfl (by dsimp only; rw [Nat.succ_mul, Nat.sub_sub])) (.cons rfl (.cons (look_eq rfl (by dsimp only; rw [Nat.succ_mul, Nat.add_assoc])) (.nil _))), fun w h => ?_⟩
   · have h1 := Seq.Ef hjs (show B ≤ m - j * B by omega) hjc
     rw [nD, List.drop_drop, Nat.sub_sub] at h1
     dsimp only
     rw [Nat.succ_mul]
     exact h1
   · dsimp only
     rw [Nat.succ_mul, ← Nat.add_assoc, vQ, dz, dz]
     exact h.sel 3 [0, 2] rfl
  ·simp only [decide_eq_true_eq, decide_eq_false_iff_not] at hc1
   refine WC.exit (WC.sr (WL.mv rfl rfl ?_))
   refine WL.buildSlice (E := 5) (cs := [_]) (vs := [(0, _)]) ⟨OV.p rfl, trivial⟩ rfl (BJ _) rfl (fun U2 => ?_)
   obtain rfl : j = S := by
     rcases Nat.lt_or_ge j S with h | h
     · exfalso
       have hj1 : (j + 1) * B ≤ m := by rw [hm]; exact Nat.mul_le_mul_right _ h
       rw [Nat.succ_mul] at hj1
       omega
     · omega
   refine WL.sub (Sub.refl _) (fun w h => h.p1) ?_
   refine WL.append (m := j * (B + ay t)) (q := 1) (news := [.int .u8 0]) Tryz.underlying43 wX (OV.p rfl) (OV.p rfl) (Seq.all rfl) (by intro u hu; rw [List.mem_singleton.1 hu]; rfl) (by have := Nat.mul_le_mul hj (show B + ay t ≤ 525 by omega); omega) rfl rfl (fun A5 c5 Hz mP => ?_)
   refine WL.sg rfl rfl (WL.sg rfl rfl (WL.nil (WC.ret ?_)))
   refine ak.ret (H' := aZ (.slice A5 (fU j B t) c5) 5 1 (fU j B t) (aA .u8 (kg t j B d)) :: F) (aQ.fG rfl rfl rfl) (fun w h => ?_) ⟨A5, c5, rfl, rfl⟩
   have h' := h.sel 3 [0] rfl
   unfold kg fU
   rw [dz]
   exact h'
end
theorem DK (a b c d : Nat) : (a ^^^ b) ^^^ (c ^^^ d) = (a ^^^ c) ^^^ (b ^^^ d) := by
  rw [Nat.xor_assoc, Nat.xor_assoc, ← Nat.xor_assoc b, ← Nat.xor_assoc c, Nat.xor_comm b c]
theorem Cj {a : Nat} (h : a < 8192) : red (2 * a) = 2 * a ^^^ (if a.testBit 12 = true then 8219 else 0) := by
  have h1 : a.testBit 12 = decide (8192 ≤ 2 * a) := by
    rw [Nat.testBit_eq_decide_div_mod_eq]
    apply decide_eq_decide.2
    omega
  unfold red
  rw [h1]
  by_cases h2 : 8192 ≤ 2 * a
  · simp [h2]
  · simp [h2]
theorem MG (a b : Nat) : 2 * (a ^^^ b) = 2 * a ^^^ 2 * b := by
  apply Nat.eq_of_testBit_eq
  intro i
  rw [Nat.testBit_xor, Nat.mul_comm 2, Nat.mul_comm 2, Nat.mul_comm 2, ← Nat.pow_one 2]
  rw [iT, iT, iT, Nat.testBit_xor]
  cases decide (1 ≤ i) <;> simp
theorem Nn {a b : Nat} (ha : a < 8192) (hb : b < 8192) : red (2 * (a ^^^ b)) = red (2 * a) ^^^ red (2 * b) := by
  rw [Cj ha, Cj hb, Cj (dh (k := 13) ha hb), MG, DK, Nat.testBit_xor]
  congr 1
  cases a.testBit 12 <;> cases b.testBit 12 <;> simp
theorem wu : ∀ (k o1 o2 a1 a2 b : Nat), a1 < 8192 → a2 < 8192 → kr k (o1 ^^^ o2) (a1 ^^^ a2) b = kr k o1 a1 b ^^^ kr k o2 a2 b
  | 0, _, _, _, _, _, _, _ => rfl
  | k + 1, o1, o2, a1, a2, b, h1, h2 => by
    rw [kr, kr, kr]
    by_cases hb : b = 0
    · rw [if_pos hb, if_pos hb, if_pos hb]
    · rw [if_neg hb, if_neg hb, if_neg hb, Nn h1 h2]
      by_cases h3 : b % 2 = 1
      · rw [if_pos h3, if_pos h3, if_pos h3, DK]
        exact wu k _ _ _ _ _ (nL h1) (nL h2)
      · rw [if_neg h3, if_neg h3, if_neg h3]
        exact wu k _ _ _ _ _ (nL h1) (nL h2)
theorem cB {a b : Nat} (x : Nat) (ha : a < 8192) (hb : b < 8192) : aL (a ^^^ b) x = aL a x ^^^ aL b x := by
  have h := wu 13 0 0 a b x ha hb
  rwa [Nat.xor_self] at h
theorem bX (x : Nat) : aL 0 x = 0 := by
  have h := cB (a := 0) (b := 0) x (by decide) (by decide)
  rwa [Nat.xor_self, Nat.xor_self] at h
def it (x : Nat) : Nat → Nat → Nat
  | 0, v => v
  | n + 1, v => it x n (aL v x)
theorem J3 {x : Nat} : ∀ (n v : Nat), v < 8192 → it x n v < 8192
  | 0, v, h => h
  | n + 1, v, h => J3 n _ (aP h)
theorem CJ {x : Nat} : ∀ (n v u : Nat), v < 8192 → u < 8192 → it x n (v ^^^ u) = it x n v ^^^ it x n u
  | 0, _, _, _, _ => rfl
  | n + 1, v, u, h1, h2 => by
    rw [it, it, it, cB x h1 h2]
    exact CJ n _ _ (aP h1) (aP h2)
theorem kM (x : Nat) : ∀ n, it x n 0 = 0
  | 0 => rfl
  | n + 1 => by rw [it, bX]; exact kM x n
theorem Lv (x : Nat) : ∀ (m n v : Nat), it x (m + n) v = it x n (it x m v)
  | 0, n, v => by rw [Nat.zero_add]; rfl
  | m + 1, n, v => by rw [Nat.succ_add_eq_add_succ, Nat.add_succ, it, it]; exact Lv x m n _
def ev (x : Nat) (f : Nat → Bool) : Nat → Nat
  | 0 => 0
  | n + 1 => it x n (xH (f n)) ^^^ ev x f n
theorem nZ (b : Bool) : xH b < 8192 := by cases b <;> decide
theorem NS {x : Nat} {f : Nat → Bool} : ∀ n, ev x f n < 8192
  | 0 => (by decide : 0 < 8192)
  | n + 1 => dh (k := 13) (J3 _ _ (nZ _)) (NS n)
theorem yL {x : Nat} {f : Nat → Bool} : ∀ (n v : Nat), v < 8192 → hor f x n v = it x n v ^^^ ev x f n
  | 0, v, _ => by rw [hor, it, ev, Nat.xor_zero]
  | n + 1, v, h => by
    rw [hor, yL n _ (dh (k := 13) (aP h) (nZ _)), CJ n _ _ (aP h) (nZ _), it, ev, Nat.xor_assoc]
theorem jU {x : Nat} {f g : Nat → Bool} : ∀ n, (∀ i, i < n → f i = g i) → ev x f n = ev x g n
  | 0, _ => rfl
  | n + 1, h => by rw [ev, ev, h n (Nat.lt_succ_self _), jU n (fun i hi => h i (Nat.lt_succ_of_lt hi))]
theorem zx {x : Nat} {f g : Nat → Bool} : ∀ n, ev x (fun i => f i ^^ g i) n = ev x f n ^^^ ev x g n
  | 0 => (Nat.xor_self 0).symm
  | n + 1 => by
    have h : xH (f n ^^ g n) = xH (f n) ^^^ xH (g n) := by cases f n <;> cases g n <;> rfl
    rw [ev, ev, ev, zx n, h, CJ _ _ _ (nZ _) (nZ _), DK]
theorem J7 {x : Nat} {f : Nat → Bool} {n : Nat} (h : ∀ i, n ≤ i → f i = false) : ∀ m, ev x f (n + m) = ev x f n
  | 0 => rfl
  | m + 1 => by
    rw [Nat.add_succ, ev, h _ (Nat.le_add_right _ _), show xH false = 0 from rfl, kM, Nat.zero_xor, J7 h m]
theorem om {x : Nat} {f : Nat → Bool} {n m : Nat} (h : ∀ i, n ≤ i → f i = false) (hm : n ≤ m) : ev x f m = ev x f n := by
  have := J7 (x := x) h (m - n)
  rwa [Nat.add_sub_cancel' hm] at this
theorem uj {x : Nat} {f : Nat → Bool} : ∀ n, (∀ i, i < n → f i = false) → ev x f n = 0
  | 0, _ => rfl
  | n + 1, h => by rw [ev, h n (Nat.lt_succ_self _), show xH false = 0 from rfl, kM, Nat.zero_xor, uj n (fun i hi => h i (Nat.lt_succ_of_lt hi))]
theorem El {x m : Nat} {f : Nat → Bool} : ∀ n, ev x (fun i => decide (m ≤ i) && f (i - m)) (n + m) = it x m (ev x f n)
  | 0 => by
    rw [Nat.zero_add, uj m (fun i hi => by rw [decide_eq_false (by omega)]; rfl), ev, kM]
  | n + 1 => by
    rw [Nat.succ_add, ev, ev, CJ _ _ _ (J3 _ _ (nZ _)) (NS _), El n, decide_eq_true (by omega), Bool.true_and, Nat.add_sub_cancel, Lv]
theorem Bp {x m n N : Nat} {f : Nat → Bool} (hf : ∀ i, n ≤ i → f i = false) (hN : n + m ≤ N) : ev x (fun i => decide (m ≤ i) && f (i - m)) N = it x m (ev x f n) := by
  rw [← El n]
  refine om (fun i hi => ?_) hN
  rw [hf _ (by omega), Bool.and_false]
theorem DZ {x at_ : Nat} {out p : List Nat} (ho : Small 256 out) (hp : Small 256 p) (hl : p.length + at_ / 8 < out.length) :
    ev x (aR (jh out p at_ p.length)) (8 * out.length) = ev x (aR out) (8 * out.length) ^^^ it x at_ (ev x (aR p) (8 * p.length)) := by
  rw [← Bp (x := x) (m := at_) (N := 8 * out.length) (fun i hi => gW hi) (by omega), ← zx]
  refine jU _ (fun i _ => ?_)
  rw [oQ ho hp _ hl]
  congr 1
  by_cases h : i - at_ < 8 * p.length
  · rw [decide_eq_true h, Bool.and_true]
  · rw [decide_eq_false h, Bool.and_false, Bool.false_and, gW (by omega), Bool.and_false]
theorem Kr {x lq d : Nat} {p q : List Nat} (hp : Small 256 p) (hq : Small 256 q) (hlq : q.length = lq) (hld : lq = d / 8 + 1) (hx : ev x (aR q) (8 * q.length) = 0) : ∀ k, k ≤ 8 * p.length - d →
    ev x (aR (dU p q lq d k)) (8 * (p.length + 1)) = ev x (aR p) (8 * p.length)
  | 0, _ => by
    rw [dU]
    have h1 : ∀ i, aR (p ++ [0]) i = aR p i := fun i => by
      unfold aR
      congr 1
      by_cases h : i / 8 < p.length
      · simp [List.getD, List.getElem?_append_left h]
      · simp only [List.getD]
        rw [List.getElem?_append_right (by omega), List.getElem?_eq_none (by omega : p.length ≤ i / 8)]
        rcases Nat.eq_zero_or_pos (i / 8 - p.length) with h2 | h2
        · rw [h2]; rfl
        · rw [List.getElem?_eq_none (by simp; omega)]
    rw [jU _ (fun i _ => h1 i)]
    exact om (fun i hi => gW hi) (by omega)
  | k + 1, hk => by
    have ih := Kr hp hq hlq hld hx k (by omega)
    rw [dU]
    split
    · have h := DZ (x := x) (at_ := 8 * p.length - 1 - k - d) (fI (lq := lq) (d := d) hp hq k) hq (by rw [dJ, hlq]; omega)
      rw [dJ, hx, kM, Nat.xor_zero, ih, hlq] at h
      exact h
    · exact ih
theorem nX {xs : List Nat} : ∀ n j, aF xs n ≤ j → j < n → xs.getD j 0 = 0
  | 0, _, _, h => absurd h (Nat.not_lt_zero _)
  | n + 1, j, h1, h2 => by
    rw [aF] at h1
    split at h1
    · rename_i h3
      rcases Nat.lt_or_ge j n with h | h
      · exact nX n j h1 h
      · have : j = n := by omega
        subst this; exact h3
    · omega
theorem zR {xs : List Nat} {n : Nat} (hn : n = xs.length) (k : Nat) : aR (xs.take (aF xs n)) k = aR xs k := by
  unfold aR
  congr 1
  by_cases h : k / 8 < aF xs n
  · simp [List.getD, List.getElem?_take, h]
  · have h0 : (xs.take (aF xs n)).getD (k / 8) 0 = 0 := by simp [List.getD, List.getElem?_take, h]
    rw [h0]
    by_cases h2 : k / 8 < n
    · exact (nX n _ (by omega) h2).symm
    · rw [List.getD, List.getElem?_eq_none (by omega)]; rfl
theorem EC (n k : Nat) : aR (List.replicate n 0) k = false := by
  unfold aR
  by_cases h : k / 8 < n
  · simp [List.getD, List.getElem?_replicate, h]
  · simp [List.getD, List.getElem?_replicate, h]
theorem F8 (xs : List Nat) (n k : Nat) : aR (xs ++ List.replicate n 0) k = aR xs k := by
  unfold aR
  congr 1
  by_cases h : k / 8 < xs.length
  · simp [List.getD, List.getElem?_append_left h]
  · have h0 : xs.getD (k / 8) 0 = 0 := by rw [List.getD, List.getElem?_eq_none (by omega)]; rfl
    rw [h0, List.getD, List.getElem?_append_right (by omega), List.getElem?_replicate]
    split <;> rfl
theorem Gv (t i : Nat) : aR (bU t) i = decide (i = 13 * t) := by
  unfold aR bU
  rw [lC, List.length_replicate]
  have hm : 13 * t / 8 < ay t + 1 := by unfold ay; omega
  by_cases h : 13 * t / 8 = i / 8
  · rw [if_pos ⟨h, by omega⟩, Nat.testBit_two_pow]
    apply decide_eq_decide.2
    omega
  · rw [if_neg (by omega)]
    have h0 : (List.replicate (ay t + 1) 0).getD (i / 8) 0 = 0 := by
      by_cases h : i / 8 < ay t + 1 <;> simp [List.getD, List.getElem?_replicate, h]
    rw [h0, Nat.zero_testBit, decide_eq_false (by omega)]
theorem Bq {t : Nat} {d : List Nat} : ∀ i, iF (bU t) d i = if i ≤ 13 * t then List.replicate ((bU t).length + d.length + 1) 0 else jh (List.replicate ((bU t).length + d.length + 1) 0) d (13 * t) d.length
  | 0 => by rw [iF, if_pos (Nat.zero_le _)]
  | i + 1 => by
    rw [iF, Bq i, Gv]
    by_cases h : i = 13 * t
    · rw [decide_eq_true h, if_pos rfl, if_pos (by omega), if_neg (by omega), h]
    · rw [decide_eq_false h]
      by_cases h2 : i ≤ 13 * t
      · rw [if_neg Bool.false_ne_true, if_pos h2, if_pos (by omega)]
      · rw [if_neg Bool.false_ne_true, if_neg h2, if_neg (by omega)]
def IX (t : Nat) : Bool := (List.range (2 * t)).all fun k => decide (hor (aR (dF t)) (bW ((k + 1 : Nat) : Int)) (8 * (dF t).length) 0 = 0)
theorem II : [1, 2, 3, 4, 5, 6, 7, 8].all IX = true := by kernel_rfl
theorem KP {t k : Nat} (ht : 1 ≤ t ∧ t ≤ 8) (hk : k < 2 * t) : ev (bW ((k + 1 : Nat) : Int)) (aR (dF t)) (8 * (dF t).length) = 0 := by
  have h := List.all_eq_true.1 II t (by simp only [List.mem_cons, List.not_mem_nil, or_false]; omega)
  have h1 := of_decide_eq_true (List.all_eq_true.1 h k (List.mem_range.2 hk))
  rw [yL _ _ (by decide), kM, Nat.zero_xor] at h1
  exact h1
theorem GH (t : Nat) (d : List Nat) : fF (bU t) d = jh (List.replicate ((bU t).length + d.length + 1) 0) d (13 * t) d.length := by
  unfold fF
  rw [Bq, if_neg]
  rw [iJ]; unfold ay; omega
theorem MU {x t : Nat} {d : List Nat} (hd : Small 256 d) : ev x (aR (fZ t d)) (8 * (fZ t d).length) = it x (13 * t) (ev x (aR d) (8 * d.length)) := by
  have hl : (fF (bU t) d).length = (bU t).length + d.length + 1 := fC _ _ _
  have h1 : ∀ k, aR (fZ t d) k = aR (fF (bU t) d) k := fun k => by unfold fZ; exact zR hl.symm k
  have h2 := DZ (x := x) (at_ := 13 * t) (out := List.replicate ((bU t).length + d.length + 1) 0) (p := d) (Small.vN (by decide)) hd (by rw [List.length_replicate, iJ]; unfold ay; omega)
  rw [← GH, uj _ (fun i _ => EC _ i), Nat.zero_xor, List.length_replicate, ← hl] at h2
  rw [← h2, ← om (x := x) (f := aR (fZ t d)) (n := 8 * (fZ t d).length) (m := 8 * (fF (bU t) d).length) (fun i hi => gW hi) (by unfold fZ; rw [List.length_take]; omega)]
  exact jU _ (fun i _ => h1 i)
theorem yJ {t : Nat} {d : List Nat} (k : Nat) : aR (fD t d) k = aR (pU t d) k := by
  unfold fD
  rw [F8]
  unfold gK
  exact zR (kN t d).symm k
theorem nu {t : Nat} {d : List Nat} (ht : 1 ≤ t ∧ t ≤ 8) (hd : Small 256 d) {k : Nat} (hk : 13 * t ≤ k) : aR (fD t d) k = false := by
  obtain ⟨g1, g2, g3, g4, g5⟩ := nE ht
  rw [yJ]
  exact Bd (ko hd) g5 rfl g3 g4 hk
theorem Hu {t k : Nat} {d : List Nat} (ht : 1 ≤ t ∧ t ≤ 8) (hd : Small 256 d) (hk : k < 2 * t) :
    hor (yg t d (fD t d)) (bW ((k + 1 : Nat) : Int)) (13 * t + 8 * d.length) 0 = 0 := by
  obtain ⟨g1, g2, g3, g4, g5⟩ := nE ht
  obtain ⟨x, hx⟩ : ∃ x, x = bW ((k + 1 : Nat) : Int) := ⟨_, rfl⟩
  have hr := KP ht hk
  rw [← hx] at hr ⊢
  rw [yL _ _ (by decide), kM, Nat.zero_xor]
  have h1 : ∀ i, yg t d (fD t d) i = ((decide (13 * t ≤ i) && aR d (i - 13 * t)) ^^ aR (fD t d) i) := fun i => by
    unfold yg
    by_cases h : 13 * t ≤ i
    · rw [if_pos h, decide_eq_true h, Bool.true_and, nu ht hd h, Bool.xor_false]
    · rw [if_neg h, decide_eq_false h, Bool.false_and, Bool.false_xor]
  rw [jU _ (fun i _ => h1 i), zx, Bp (n := 8 * d.length) (fun i hi => gW hi) (by omega)]
  have h2 : ev x (aR (fD t d)) (13 * t + 8 * d.length) = ev x (aR (fD t d)) (13 * t) := om (fun i hi => nu ht hd hi) (by omega)
  have h3 : ev x (aR (pU t d)) (8 * ((fZ t d).length + 1)) = ev x (aR (fZ t d)) (8 * (fZ t d).length) := Kr (ko hd) g5 rfl g3 hr _ (Nat.le_refl _)
  have h4 : ev x (aR (pU t d)) (8 * ((fZ t d).length + 1)) = ev x (aR (fD t d)) (13 * t) := by
    rw [← jU _ (fun i _ => yJ (t := t) (d := d) i)]
    rcases Nat.le_total (13 * t) (8 * ((fZ t d).length + 1)) with h | h
    · exact om (fun i hi => nu ht hd hi) h
    · refine (om (fun i hi => ?_) h).symm
      rw [yJ]
      exact gW (by rw [kN]; exact hi)
  rw [h2, ← h4, h3, MU hd, Nat.xor_self]
theorem JA {x j : Nat} (hx : x < 256) (hj : x.testBit j = false) : yD x j = x := by
  unfold yD
  apply Nat.eq_of_testBit_eq
  intro i
  rw [Nat.testBit_and, Nat.testBit_xor, Nat.testBit_two_pow]
  by_cases h8 : i < 8
  · have : (255 : Nat).testBit i = true := by
      have : ∀ i, i < 8 → (255 : Nat).testBit i = true := by decide
      exact this i h8
    rw [this]
    by_cases h : j = i
    · subst h; rw [hj]; rfl
    · rw [decide_eq_false h]; simp
  · rw [iw hx (by omega), Bool.false_and]
theorem K6 {xs : List Nat} {i : Nat} : xs.set i (xs.getD i 0) = xs := by
  apply List.ext_getElem?
  intro k
  rw [List.getElem?_set]
  by_cases h : i = k
  · subst h
    by_cases hl : i < xs.length
    · simp [List.getD, hl]
    · simp [List.getElem?_eq_none (Nat.le_of_not_lt hl), hl]
  · simp [h]
theorem wK {m : List Nat} {i0 : Nat} (hm : Small 256 m) (h : ∀ k, i0 ≤ k → aR m k = false) : ∀ k, eG m i0 k = m
  | 0 => rfl
  | k + 1 => by
    rw [eG, wK hm h k, JA (hm.at_ (by decide) _) (h (i0 + k) (by omega)), K6]
theorem Js {t : Nat} {d : List Nat} (ht : 1 ≤ t ∧ t ≤ 8) (hd : Small 256 d) : dH t (fD t d) = fD t d := wK (sH ht hd) (fun k hk => nu ht hd hk) _
theorem zG {t : Nat} {d : List Nat} (ht : 1 ≤ t ∧ t ≤ 8) (hd : Small 256 d) : dL t (d, fD t d) = List.replicate (2 * t) 0 := by
  unfold dL kG
  apply List.ext_getElem
  · simp
  · intro i h1 h2
    simp only [List.getElem_map, List.getElem_range, List.getElem_replicate]
    exact Hu ht hd (by simpa using h1)
theorem yY (m : Nat) : ∀ n, gJ (List.replicate m 0) n = ⟨[1], [1], 0, n + 1, 1⟩
  | 0 => rfl
  | n + 1 => by
    have h0 : (List.replicate m 0).getD n 0 = 0 := by
      by_cases h : n < m <;> simp [List.getD, List.getElem?_replicate, h]
    rw [gJ, yY m n]
    unfold qB
    rw [if_pos]
    show oP _ _ _ (min 0 _) = 0
    rw [Nat.zero_min]
    exact h0
theorem JG (m : Nat) : lK (List.replicate m 0) = [1] ∧ ni (List.replicate m 0) = 1 := by
  have h : lK (List.replicate m 0) = [1] := by unfold lK; rw [yY]
  refine ⟨h, ?_⟩
  unfold ni
  rw [h]; rfl
theorem Bf (t : Nat) (p : LL) : ∀ k, bH t [1] 1 p k = (p, 0)
  | 0 => rfl
  | k + 1 => by
    rw [bH, if_neg, Bf t p k]
    unfold nI
    rw [Ak, bX]
    show ¬ decide ((0 ^^^ 1 : Nat) = 0) = true
    decide
theorem sP : ∀ m, ones (List.replicate m 0) = 0
  | 0 => rfl
  | m + 1 => by rw [List.replicate_succ, ones, sP m]; rfl
theorem Nf {t : Nat} {d : List Nat} (ht : 1 ≤ t ∧ t ≤ 8) (hd : Small 256 d) : lJ t d (fD t d) = some ((d, fD t d), 0) := by
  obtain ⟨l1, l2⟩ := JG (2 * t)
  unfold lJ
  rw [Js ht hd, zG ht hd, l1, l2, Bf, if_neg (by omega), if_neg (fun h => h rfl), if_neg]
  show ¬ 0 < ones (fB (dL t (d, fD t d)))
  rw [zG ht hd]
  unfold fB
  rw [List.map_replicate, show nz 0 = 0 from rfl, sP]
  decide
end Go.Proofs.YtcmojpiokjhmhaaGreat
