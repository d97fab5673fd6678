import Derived.Test.YtcmojpiokjhmhaaGreatP12
import Derived.Test.YtcmojpiokjhmhaaGreatP11
namespace Go.Proofs.YtcmojpiokjhmhaaGreat
open Go.Sl Go.RowKit
set_option linter.unusedVariables false
set_option linter.unusedSimpArgs false
set_option maxRecDepth 20000
abbrev LL := List Nat × List Nat
def iN (t : Nat) (p : LL) (i : Nat) : LL := if 13 * t ≤ i then (iL p.1 (i - 13 * t), p.2) else (p.1, iL p.2 i)
def sN (c : List Nat) (x : Nat) : Nat → Nat → Nat
  | 0, v => v
  | k + 1, v => sN c x k (aN v x ^^^ c.getD k 0)
def nV (c : List Nat) (L i : Nat) : Bool := decide (sN c (bX (-(i : Int))) L 0 = 0)
def bJ (t : Nat) (c : List Nat) (L : Nat) (p : LL) : Nat → LL × Nat
  | 0 => (p, 0)
  | k + 1 => if nV c L k = true then (iN t (bJ t c L p k).1 k, (bJ t c L p k).2 + 1) else bJ t c L p k
def dQ (t : Nat) (p : LL) : List Nat := kG t (13 * t + 8 * p.1.length) (yU t p.1 p.2)
def lT (t : Nat) (d m : List Nat) : Option (LL × Nat) :=
  if t + 1 < mZ (dQ t (d, dM t m)) then none
  else
    if (bJ t (lU (dQ t (d, dM t m))) (mZ (dQ t (d, dM t m))) (d, dM t m) (13 * t + 8 * d.length)).2 + 1 ≠ mZ (dQ t (d, dM t m)) then none
    else if 0 < ones (fH (dQ t (bJ t (lU (dQ t (d, dM t m))) (mZ (dQ t (d, dM t m))) (d, dM t m) (13 * t + 8 * d.length)).1)) then none
    else some (bJ t (lU (dQ t (d, dM t m))) (mZ (dQ t (d, dM t m))) (d, dM t m) (13 * t + 8 * d.length))
theorem zT {c : List Nat} {x k v : Nat} : sN c x (k + 1) v = sN c x k (aN v x ^^^ c.getD k 0) := rfl
theorem Ak (t : Nat) (c : List Nat) (L : Nat) (p : LL) : ∀ k, (bJ t c L p k).2 ≤ k
  | 0 => Nat.le_refl _
  | k + 1 => by
    have := Ak t c L p k
    rw [bJ]; split
    · show (bJ t c L p k).2 + 1 ≤ k + 1; omega
    · omega
theorem Ka (t : Nat) (p : LL) (i : Nat) : (iN t p i).1.length = p.1.length ∧ (iN t p i).2.length = p.2.length := by
  unfold iN; split <;> simp [d9]
theorem jd (t : Nat) (c : List Nat) (L : Nat) (p : LL) : ∀ k, (bJ t c L p k).1.1.length = p.1.length ∧ (bJ t c L p k).1.2.length = p.2.length
  | 0 => ⟨rfl, rfl⟩
  | k + 1 => by
    have ih := jd t c L p k
    rw [bJ]; split
    · have := Ka t (bJ t c L p k).1 k
      exact ⟨by show (iN _ _ _).1.length = _; omega, by show (iN _ _ _).2.length = _; omega⟩
    · exact ih
theorem qg {t len : Nat} {bit : Nat → Bool} : Small 8192 (kG t len bit) := fun x hx => by
  obtain ⟨k, _, rfl⟩ := List.mem_map.1 hx
  exact Ls _ _ (by decide)
theorem wY {t len : Nat} {bit : Nat → Bool} : (kG t len bit).length = 2 * t := by simp [kG]
theorem Ie {s : List Nat} (hs : Small 8192 s) : Small 8192 (lU s) := (vK hs _).cs
theorem Nf {s : List Nat} (hs : Small 8192 s) : mZ s ≤ (lU s).length ∧ (lU s).length ≤ s.length + 1 := ⟨eX _ _, (vK hs _).c2⟩
namespace Wd
def put (W : Wd) (p : LL) : Wd := { W with d := p.1, m := p.2 }
theorem zu (W : Wd) (p : LL) (i : Nat) : (W.put p).flip i = W.put (iN W.t p i) := by
  unfold Wd.flip iN put
  split <;> rfl
end Wd
def M7 (F : List ak) (o : Option (LL × Nat)) (v : Value) (H' : List ak) : Prop :=
  match o with
  | none => v = .tuple #[.slice none 0 0, .slice none 0 0, .int .i64 0, .int .i64 50] ∧ H' = F
  | some (p, n) => ∃ g1 c1 r1 g2 c2 r2, p.1.length ≤ c1 ∧ p.2.length ≤ c2 ∧ v = .tuple #[.slice (some ⟨g1, 0, none⟩) p.1.length c1, .slice (some ⟨g2, 0, none⟩) p.2.length c2, .int .i64 (n : Int), .int .i64 0] ∧ H' = Cells g1 5 (aA .u8 p.1 ++ r1) :: Cells g2 5 (aA .u8 p.2 ++ r2) :: F
section
variable {K : World} {F : List ak}
theorem Az {bw : Nat} {V : Wd} (h : V.Ok) : Does Tryz.prog 153 #[ptr bw 0] K (V.parts bw ++ F) (fun v H' => ∃ g, v = .slice (some ⟨g, 0, none⟩) (2 * V.t) (2 * V.t) ∧ H' = Cells g 3 (aA .i64 (dQ V.t (V.d, V.m))) :: (V.parts bw ++ F)) :=
  JL h bD.all (Seq.up (Seq.here (by rw [aH]; omega) (by rw [List.drop_zero]; exact List.prefix_append _ _))) (Seq.up (Seq.up (Seq.here (by rw [aH]; omega) (by rw [List.drop_zero]; exact List.prefix_append _ _))))
theorem GU {t : Nat} {A B : Option Addr} {m q cap cap' : Nat} {d mo : List Nat} (ht : 1 ≤ t ∧ t ≤ 8) (hd : Seq K F A m 1 (aA .u8 d)) (hm : Seq K F B q 1 (aA .u8 mo)) (BI : Small 256 d) (OE : Small 256 mo) (hdl : 1 ≤ m ∧ m ≤ 512) (hml : q = ay t) :
    Does Tryz.prog 138 #[.int .i64 (t : Int), .slice A m cap, .slice B q cap'] K F (M7 F (lT t d mo)) := by
  refine Does.enter Tryz.func138 rfl Tryz.ntmps138 rfl ?_
  simp only [aI, Nat.reduceAdd]
  refine WC.sr (WL.sg rfl rfl (WL.sg rfl rfl (WL.sg rfl rfl (WL.sg rfl rfl (WL.nil (WC.sr (WL.mv rfl rfl (WL.mv rfl rfl (WL.mv rfl rfl (WL.call (vs := [_, _, _]) Tryz.call151 ⟨OV.p rfl, OV.p rfl, OV.p rfl, trivial⟩ (Gh ht hd hm BI OE hdl hml) rfl ?_))))))))))
  rintro _ _ ⟨bw, W, hW, OW, hWd, UC, hWc, rfl, rfl⟩
  obtain ⟨p, hp⟩ : ∃ p : LL, p = (d, dM t mo) := ⟨_, rfl⟩
  have hp1 : W.d = p.1 := by rw [hp, hWd]
  have hp2 : W.m = p.2 := by rw [hp, UC]
  have hdF : lT t d mo = (if t + 1 < mZ (dQ t p) then none else if (bJ t (lU (dQ t p)) (mZ (dQ t p)) p W.len).2 + 1 ≠ mZ (dQ t p) then none else if 0 < ones (fH (dQ t (bJ t (lU (dQ t p)) (mZ (dQ t p)) p W.len).1)) then none else some (bJ t (lU (dQ t p)) (mZ (dQ t p)) p W.len)) := by
    unfold lT Wd.len
    rw [hp, OW, hWd]
  rw [hdF]
  have Vb : W.len ≤ 4200 := by have h1 := hW.t; have h2 := hW.d; unfold Wd.len; omega
  refine WL.mv rfl rfl (WL.xt rfl rfl rfl (WL.xt rfl rfl rfl (WL.sg rfl rfl (WL.sg rfl rfl (WL.nil (WC.seq (WC.sr (WL.mv rfl rfl (WL.val (V.neq (OV.p rfl) (OV.p rfl)) rfl (WL.nil ?_))))))))))
  refine WC.aQ rfl (by first | rfl | (simp; done) | (simp; omega)) ?_
  refine WC.skip (WC.sr (WL.mv rfl rfl (WL.call (vs := [_]) Tryz.call153 ⟨OV.p rfl, trivial⟩ (Az hW) rfl ?_)))
  rintro _ _ ⟨gs, rfl, rfl⟩
  rw [hp1, hp2, OW]
  obtain ⟨s, hs⟩ : ∃ s, s = dQ t (p.1, p.2) := ⟨_, rfl⟩
  have hs' : dQ t p = s := hs.symm
  have hss : Small 8192 s := by rw [hs]; exact qg
  have hsl : s.length = 2 * t := by rw [hs]; exact wY
  rw [hs']
  refine WL.call (vs := [_]) Tryz.call152 ⟨OV.p rfl, trivial⟩ (Fv (s := s) (Seq.yG hsl) hss (by omega)) rfl ?_
  rintro _ _ ⟨gl, cl, rl, rfl, rfl⟩
  obtain ⟨L, hL⟩ : ∃ L, L = mZ s := ⟨_, rfl⟩
  obtain ⟨c, hc⟩ : ∃ c, c = lU s := ⟨_, rfl⟩
  have Ux := Nf hss
  have hcs := Ie hss
  rw [← hL, ← hc] at Ux ⊢
  rw [← hc] at hcs
  refine WL.sg rfl rfl (WL.nil (WC.seq (WC.sr (WL.mv rfl rfl (WL.val (V.len (t := 24) Tryz.runUnderlying24 (OV.p rfl)) rfl (WL.sb rfl rfl rfl ?_))))))
  refine WL.mv rfl rfl (WL.val (V.gtr (OV.p rfl) (OV.p rfl)) rfl (WL.nil ?_))
  refine WC.cond rfl (fun hc1 => ?_) (fun hc1 => ?_)
  ·simp only [decide_eq_true_eq, decide_eq_false_iff_not] at hc1
   have h1 := hc1
   rw [if_pos (by omega)]
   refine WC.sr (WL.sg rfl rfl (WL.sg rfl rfl (WL.sg rfl rfl (WL.sg rfl rfl (WL.nil (WC.ret ?_))))))
   exact au.ret (H' := F) (aO.MU rfl rfl rfl rfl rfl) (fun w h => h.sel 5 [] rfl) ⟨rfl, rfl⟩
  ·simp only [decide_eq_true_eq, decide_eq_false_iff_not] at hc1
   have h1 := hc1
   rw [if_neg (by omega)]
   refine WC.skip (WC.seq ?_)
   have TK : W.put (bJ t c L p 0).1 = W := by unfold Wd.put bJ; rw [← hp1, ← hp2]
   have hok : ∀ k, (W.put (bJ t c L p k).1).Ok := fun k => by
     induction k with
     | zero => rw [TK]; exact hW
     | succ k ih =>
       rw [bJ]; split
       · have := ih.flip k
         rw [Wd.zu, OW] at this
         exact this
       · exact ih
   refine WC.region (WL.sg rfl rfl (WL.nil (WC.seq (WC.sr (WL.mv rfl rfl ?_)))))
   refine WL.call (vs := [_]) Tryz.call154 ⟨OV.p rfl, trivial⟩ (FX hW (by repeat (first | exact bD.all | apply bD.up))) rfl ?_
   rintro _ H0 ⟨rfl, h0⟩
   subst H0
   refine WL.mv rfl rfl (WL.nil (WC.block ?_))
   refine WC.loop (σ := Nat) (fun k => [(10, ptr bw 0), (12, .slice (some ⟨gl, 0, none⟩) L cl), (13, .int .i64 ((bJ t c L p k).2 : Nat)), (37, .int .i64 (W.len : Nat)), (38, .int .i64 (k : Int))]) (fun k => (W.put (bJ t c L p k).1).parts bw ++ (Cells gl 3 (aA .i64 c ++ rl) :: F)) (fun k => k ≤ W.len) (fun k => W.len - k) 0 (Nat.zero_le _) (.cons rfl (.cons rfl (.cons rfl (.cons rfl (.cons rfl (.nil _)))))) (fun w h => by rw [TK]; exact h.sel 5 [2, 3, 4, 0] rfl) ?_
   rintro k hk
   obtain ⟨U, hV⟩ : ∃ U, U = W.put (bJ t c L p k).1 := ⟨_, rfl⟩
   have TJ : U.Ok := by rw [hV]; exact hok k
   have SY : U.t = t := by rw [hV]; exact OW
   have SG : U.d.length = W.d.length := by rw [hV, hp1]; exact (jd t c L p k).1
   have Vl : U.len = W.len := by unfold Wd.len; rw [SY, SG, OW]
   have hdl := Ak t c L p k
   rw [← hV]
   refine WC.sr (WL.val (V.lss (OV.p rfl) (OV.p rfl)) rfl (WL.nil (WC.seq ?_)))
   refine WC.cond rfl (fun hc2 => ?_) (fun hc2 => ?_)
   ·simp only [decide_eq_true_eq, decide_eq_false_iff_not] at hc2
    refine WC.skip (WC.seq (WC.block (WC.sr (WL.mv rfl rfl (WL.sg rfl rfl (WL.nil (WC.seq ?_)))))))
    obtain ⟨x, hx⟩ : ∃ x, x = bX (-(k : Int)) := ⟨_, rfl⟩
    have QI : x < 8192 := by rw [hx]; exact jJ _
    refine WC.region (WL.mv rfl rfl ?_)
    refine WL.val (V.RU (OV.p rfl) (fun _ => by omega)) rfl ?_
    refine WL.call (vs := [_]) Tryz.call155 ⟨OV.p rfl, trivial⟩ (GR (-(k : Int)) (by omega)) rfl ?_
    rintro _ H0 ⟨rfl, h0⟩
    subst H0
    refine WL.sg rfl rfl (WL.sg rfl rfl (WL.nil (WC.seq (WC.sr (WL.mv rfl rfl (WL.val (V.len (t := 24) Tryz.runUnderlying24 (OV.p rfl)) rfl ?_))))))
    refine WL.val (V.aC (v' := .int .i64 ((L : Int) - 1)) (V.tu (OV.p rfl) (OV.p rfl) (fun _ => by omega)) (fun _ => rfl)) rfl ?_
    rw [← hx]
    refine WL.sg rfl rfl (WL.nil (WC.block ?_))
    refine WC.loop (σ := Nat × Nat) (fun y => [(10, ptr bw 0), (12, .slice (some ⟨gl, 0, none⟩) L cl), (13, .int .i64 ((bJ t c L p k).2 : Nat)), (37, .int .i64 (W.len : Nat)), (38, .int .i64 (k : Int)), (14, .int .i64 (k : Int)), (15, .int .i64 (x : Int)), (16, .int .i64 (y.2 : Int)), (17, .int .i64 ((y.1 : Int) - 1))]) (fun _ => U.parts bw ++ (Cells gl 3 (aA .i64 c ++ rl) :: F)) (fun y => y.1 ≤ L ∧ y.2 < 8192 ∧ sN c x y.1 y.2 = sN c x L 0) (fun y => y.1) (L, 0) ⟨Nat.le_refl _, by show 0 < 8192; decide, rfl⟩ (.cons rfl (.cons rfl (.cons rfl (.cons rfl (.cons rfl (.cons rfl (.cons rfl (.cons rfl (.cons rfl (.nil _)))))))))) (fun w h => h) ?_
    rintro ⟨j, v⟩ ⟨hj, hv, hev⟩
    dsimp only at hj hv hev ⊢
    refine WC.seq (WC.sr (WL.mv rfl rfl (WL.val (V.geq (OV.p rfl) (OV.p rfl)) rfl (WL.nil ?_))))
    refine WC.cond rfl (fun hc3 => ?_) (fun hc3 => ?_)
    ·simp only [decide_eq_true_eq, decide_eq_false_iff_not] at hc3
     obtain ⟨j', rfl⟩ : ∃ j', j = j' + 1 := ⟨j - 1, by omega⟩
     have hj1 : ((j' + 1 : Nat) : Int) - 1 = (j' : Int) := by omega
     rw [hj1]
     rw [zT] at hev
     have Pz := aR (b := x) hv
     have hcj := hcs.at_ (by decide) j'
     have hrc : Rd K (U.parts bw ++ (Cells gl 3 (aA .i64 c ++ rl) :: F)) (some ⟨gl, 0 + (j' : Int).toNat * 1, none⟩) (.int .i64 (c.getD j' 0 : Nat)) := by
       rw [show 0 + (j' : Int).toNat * 1 = j' by omega]
       exact Rd.up (Rd.up (Rd.up (Rd.here (ji _ _ _ (by omega)))))
     refine WC.skip (WC.seq (WC.block ?_))
     refine WC.eG (by kernel_rfl) (by kernel_rfl) ?_
     refine WQ.val (V.move (OV.p rfl)) rfl (WQ.val (V.move (OV.p rfl)) rfl (WQ.call (vs := [_, _]) Tryz.call156 ⟨OV.p rfl, OV.p rfl, trivial⟩ (qV hv QI) rfl (WQ.val (V.move (OV.p rfl)) rfl (WQ.val (V.move (OV.p rfl)) rfl ?_))))
     refine WQ.val (V.bR bZ (OV.p rfl) (OV.p rfl) (fun hc => by omega)) rfl ?_
     refine WQ.val (V.load Tryz.isAgg3 (OV.p rfl) (fun hc => hrc)) rfl ?_
     refine WQ.val (V.aC (v' := .int .i64 ((aN v x ^^^ c.getD j' 0 : Nat) : Int)) (V.xor (OV.p rfl) (OV.p rfl)) (fun _ => by rw [jr (by omega) (by omega)])) rfl ?_
     refine WQ.val (V.assign (OV.p rfl)) rfl (WQ.nil (WC.region (WL.mv rfl rfl (WL.sb rfl rfl rfl ?_))))
     refine WL.sg rfl rfl (WL.nil ?_)
     refine ⟨rfl, ?_⟩
     exact ⟨(j', aN v x ^^^ c.getD j' 0), ⟨by show j' ≤ L; omega, dB (k := 13) Pz hcj, hev⟩, Nat.lt_succ_self _, .cons rfl (.cons rfl (.cons rfl (.cons rfl (.cons rfl (.cons rfl (.cons rfl (.cons rfl (.cons rfl (.nil _))))))))), fun w h => h⟩
    ·simp only [decide_eq_true_eq, decide_eq_false_iff_not] at hc3
     refine WC.exit (WC.seq ?_)
     obtain rfl : j = 0 := by omega
     have hv2 : v = sN c x L 0 := hev
     have hrt : nV c L k = decide (v = 0) := by unfold nV; rw [← hx, hv2]
     have hk1 : k < W.len := by omega
     refine WC.region (WL.mv rfl rfl (WL.val (V.eql (OV.p rfl) (OV.p rfl)) rfl (WL.nil ?_)))
     refine WC.cond rfl (fun hc4 => ?_) (fun hc4 => ?_)
     ·simp only [decide_eq_true_eq, decide_eq_false_iff_not] at hc4
      have h4 := hc4
      have hdk : bJ t c L p (k + 1) = (iN t (bJ t c L p k).1 k, (bJ t c L p k).2 + 1) := by rw [bJ, hrt, if_pos (decide_eq_true (show v = 0 by omega))]
      refine WC.sr (WL.mv rfl rfl (WL.mv rfl rfl ?_))
      refine WL.call (vs := [_, _]) Tryz.call157 ⟨OV.p rfl, OV.p rfl, trivial⟩ (Km TJ (i := k) (by omega)) rfl ?_
      rintro v1 _ rfl
      refine WL.nil (WC.region (WL.mv rfl rfl (WL.ad rfl rfl rfl ?_)))
      refine WL.sg rfl rfl (WL.nil (WC.region (WL.ad rfl rfl rfl ?_)))
      refine WL.mv rfl rfl (WL.nil ?_)
      refine ⟨rfl, ?_⟩
      first
      | exact ⟨k + 1, (by show k + 1 ≤ W.len; omega), (by show W.len - (k + 1) < W.len - k; omega), .cons rfl (.cons rfl (.cons (look_eq rfl (by rw [hdk]; simp only [Int.natCast_add]; rfl)) (.cons rfl (.cons (look_eq rfl (by simp)) (.nil _))))), fun w h => by dsimp only; rw [hdk]; dsimp only; rw [hV, Wd.zu, OW] at h; exact h⟩
      | exact ⟨k + 1, (by show k + 1 ≤ W.len; omega), (by show W.len - (k + 1) < W.len - k; omega), .cons rfl (.cons rfl (.cons (look_eq rfl (by rw [hdk])) (.cons rfl (.cons (look_eq rfl (by simp)) (.nil _))))), fun w h => by dsimp only; rw [hdk, ← hV]; exact h⟩
     ·simp only [decide_eq_true_eq, decide_eq_false_iff_not] at hc4
      have h4 := hc4
      have hdk : bJ t c L p (k + 1) = bJ t c L p k := by rw [bJ, hrt, decide_eq_false (show ¬ v = 0 by omega)]; rfl
      refine WC.skip (WC.region (WL.ad rfl rfl rfl ?_))
      refine WL.mv rfl rfl (WL.nil ?_)
      refine ⟨rfl, ?_⟩
      first
      | exact ⟨k + 1, (by show k + 1 ≤ W.len; omega), (by show W.len - (k + 1) < W.len - k; omega), .cons rfl (.cons rfl (.cons (look_eq rfl (by rw [hdk]; simp only [Int.natCast_add]; rfl)) (.cons rfl (.cons (look_eq rfl (by simp)) (.nil _))))), fun w h => by dsimp only; rw [hdk]; dsimp only; rw [hV, Wd.zu, OW] at h; exact h⟩
      | exact ⟨k + 1, (by show k + 1 ≤ W.len; omega), (by show W.len - (k + 1) < W.len - k; omega), .cons rfl (.cons rfl (.cons (look_eq rfl (by rw [hdk])) (.cons rfl (.cons (look_eq rfl (by simp)) (.nil _))))), fun w h => by dsimp only; rw [hdk, ← hV]; exact h⟩
   ·simp only [decide_eq_true_eq, decide_eq_false_iff_not] at hc2
    refine WC.exit (WC.seq (WC.seq ?_))
    obtain rfl : k = W.len := by omega
    obtain ⟨r, hr⟩ : ∃ r, r = bJ t c L p W.len := ⟨_, rfl⟩
    rw [← hr] at hV hdl ⊢
    have Rn : U.d = r.1.1 := by rw [hV]; rfl
    have Ru : U.m = r.1.2 := by rw [hV]; rfl
    obtain ⟨bb, hbb⟩ : ∃ bb, bb = !decide ((r.2 : Int) = (L : Int) - 1) := ⟨_, rfl⟩
    refine WC.region (WL.mv rfl rfl (WL.mv rfl rfl (WL.val (V.len (t := 24) Tryz.runUnderlying24 (OV.p rfl)) rfl (WL.sb rfl rfl rfl ?_))))
    refine WL.val (V.aC (v' := .bool bb) (V.neq (OV.p rfl) (OV.p rfl)) (fun _ => by rw [hbb])) rfl ?_
    refine WL.val (V.move (OV.p rfl)) rfl ?_
    rcases Bool.eq_false_or_eq_true bb with hb | hb
    · subst hb
      have hne : ¬ r.2 + 1 = L := fun h => by
        have h6 : (r.2 : Int) = (L : Int) - 1 := by omega
        rw [decide_eq_true h6] at hbb
        cases hbb
      rw [if_pos hne]
      refine WL.uE (oj := _) rfl rfl rfl rfl rfl (fun d hd => by injection hd with hd; subst hd; rfl) ?_
      refine WL.uE (oj := _) rfl rfl rfl rfl rfl (fun d hd => by injection hd with hd; subst hd; rfl) ?_
      refine WL.uE (oj := _) rfl rfl rfl rfl rfl (fun d hd => by injection hd with hd; subst hd; rfl) ?_
      refine WL.uE (oj := _) rfl rfl rfl rfl rfl (fun d hd => by injection hd with hd; subst hd; rfl) ?_
      refine WL.uE (oj := _) rfl rfl rfl rfl rfl (fun d hd => by injection hd with hd; subst hd; rfl) ?_
      refine WL.val (V.OB (OV.p rfl) (OV.p rfl)) rfl (WL.nil (WC.dV rfl rfl (WC.seq (WC.region (WL.val (V.assign (OV.p rfl)) rfl (WL.val (V.assign (OV.p rfl)) rfl (WL.val (V.assign (OV.p rfl)) rfl (WL.val (V.assign (OV.p rfl)) rfl (WL.nil (WC.ret ?_))))))))))
      exact au.ret (H' := F) (aO.MU rfl rfl rfl rfl rfl) (fun w h => h.sel 4 [] rfl) ⟨rfl, rfl⟩
    subst hb
    have hne : r.2 + 1 = L := by
      have h6 : (r.2 : Int) = (L : Int) - 1 := by
        rcases Decidable.em ((r.2 : Int) = (L : Int) - 1) with h | h
        · exact h
        · rw [decide_eq_false h] at hbb; cases hbb
      omega
    rw [if_neg (fun h => h hne)]
    refine WL.known (oj := _) rfl rfl rfl rfl (WL.mv rfl rfl (WL.known (oj := _) rfl rfl rfl rfl (WL.call (vs := [_]) Tryz.call153 ⟨OV.p rfl, trivial⟩ (Az TJ) rfl ?_)))
    rintro _ _ ⟨gs2, rfl, rfl⟩
    rw [Rn, Ru, SY]
    obtain ⟨s2, hs2⟩ : ∃ s2, s2 = dQ t r.1 := ⟨_, rfl⟩
    have RH : Small 8192 s2 := by rw [hs2]; exact qg
    have hsl2 : s2.length = 2 * t := by rw [hs2]; exact wY
    rw [show dQ t (r.1.1, r.1.2) = s2 from hs2.symm]
    refine WL.known (oj := _) rfl rfl rfl rfl ?_
    refine WL.call (vs := [_]) Tryz.call158 ⟨OV.p rfl, trivial⟩ (GH (s := s2) (Seq.yG hsl2) RH (by omega)) rfl ?_
    rintro _ _ ⟨gn, rfl, rfl⟩
    refine WL.known (oj := _) rfl rfl rfl rfl ?_
    refine WL.call (vs := [_]) Tryz.call150 ⟨OV.p rfl, trivial⟩ (BS (xs := fH s2) (Seq.yG (by simp [fH]; exact hsl2)) (fun x hx => by obtain ⟨y, _, rfl⟩ := List.mem_map.1 hx; unfold nz; split <;> decide) (by omega)) rfl ?_
    rintro _ H0 ⟨rfl, h0⟩
    subst H0
    refine WL.known (oj := _) rfl rfl rfl rfl (WL.val (V.gtr (OV.p rfl) (OV.p rfl)) rfl (WL.val (V.bH (OV.p rfl) (OV.p rfl)) rfl (WL.nil ?_)))
    refine WC.cond rfl (fun ny => ?_) (fun ny => ?_)
    ·simp only [Bool.false_or, decide_eq_true_eq, decide_eq_false_iff_not] at ny
     have h5 := ny
     rw [if_pos (by omega)]
     refine WC.sr (WL.sg rfl rfl (WL.sg rfl rfl (WL.sg rfl rfl (WL.sg rfl rfl (WL.nil (WC.ret ?_))))))
     exact au.ret (H' := F) (aO.MU rfl rfl rfl rfl rfl) (fun w h => h.sel 6 [] rfl) ⟨rfl, rfl⟩
    ·simp only [Bool.false_or, decide_eq_true_eq, decide_eq_false_iff_not] at ny
     have h5 := ny
     rw [if_neg (by omega)]
     refine WC.skip (WC.seq ?_)
     refine WC.eG (by kernel_rfl) (by kernel_rfl) ?_
     refine WQ.val (V.move (OV.p rfl)) rfl (WQ.val (V.nilCheck (OV.p rfl)) rfl (WQ.val (V.fieldAddr y7 (OV.p rfl)) rfl ?_))
     refine WQ.val (V.load Tryz.isAgg43 (OV.p rfl) (fun _ => by repeat (first | exact Rd.here rfl | apply Rd.up))) rfl ?_
     refine WQ.val (V.move (OV.p rfl)) rfl (WQ.val (V.nilCheck (OV.p rfl)) rfl (WQ.val (V.fieldAddr yO (OV.p rfl)) rfl ?_))
     refine WQ.val (V.load Tryz.isAgg43 (OV.p rfl) (fun _ => by repeat (first | exact Rd.here rfl | apply Rd.up))) rfl ?_
     refine WQ.val (V.move (OV.p rfl)) rfl (WQ.val (V.assign (OV.p rfl)) rfl (WQ.val (V.assign (OV.p rfl)) rfl (WQ.val (V.assign (OV.p rfl)) rfl (WQ.val (V.assign (OV.p rfl)) rfl (WQ.nil (WC.ret ?_))))))
     refine au.ret (H' := Cells U.g1 5 (aA .u8 r.1.1 ++ U.r1) :: Cells U.g2 5 (aA .u8 r.1.2 ++ U.r2) :: F) (aO.MU rfl rfl rfl rfl rfl) (fun w h => ?_) ⟨U.g1, U.c1, U.r1, U.g2, U.c2, U.r2, ?_, ?_, ?_, rfl⟩
     · have h' := h.sel 6 [3, 4] rfl
       rw [← Rn, ← Ru]
       exact h'
     · rw [← Rn, SG, hV]; exact hWc.1
     · rw [hr, (jd t c L p W.len).2, ← hp2, hV]; exact hWc.2
     · rw [Rn, Ru]
end
abbrev NG (bl pg : Int) (S B t : Nat) : Geo := ⟨bl, pg, (S : Int), (B : Int), (t : Int)⟩
def fJ (S B t : Nat) : Nat := S * (B + ay t) + 1
structure qM (S B t : Nat) : Prop where
  s : 1 ≤ S ∧ S ≤ 8
  b : 4 ≤ B ∧ B ≤ 512
  t : 1 ≤ t ∧ t ≤ 8
theorem qM.of {bl pg : Int} {S B t : Nat} (h : (NG bl pg S B t).aD) : qM S B t := by
  unfold Geo.aD at h
  dsimp only at h
  exact ⟨by omega, by omega, by omega⟩
theorem NG.whole {bl pg : Int} {S B t : Nat} : (NG bl pg S B t).whole = ((B + ay t : Nat) : Int) := by
  unfold Geo.whole Geo.more ay
  dsimp only
  omega
theorem NG.raw {bl pg : Int} {S B t : Nat} : (NG bl pg S B t).raw = ((fJ S B t : Nat) : Int) := by
  unfold Geo.raw fJ
  rw [NG.whole]
  dsimp only
  simp
theorem NG.room {bl pg : Int} {S B t : Nat} : (NG bl pg S B t).room = ((S * B : Nat) : Int) := by
  unfold Geo.room
  dsimp only
  rw [Int.natCast_mul]
def dG (B : Nat) (d : List Nat) (j : Nat) : List Nat := (d.drop (j * B)).take B
def wH (t B : Nat) (d : List Nat) : Nat → List Nat
  | 0 => []
  | j + 1 => (wH t B d j ++ dG B d j) ++ fI t (dG B d j)
def jD (t S B : Nat) (d : List Nat) : List Nat := wH t B d S ++ [0]
theorem Small.drop {b n : Nat} {xs : List Nat} (h : Small b xs) : Small b (xs.drop n) := fun y hy => h y (List.mem_of_mem_drop hy)
theorem fV {B : Nat} {d : List Nat} (h : Small 256 d) (j : Nat) : Small 256 (dG B d j) := Small.take (Small.drop h)
theorem l9 {B j S : Nat} {d : List Nat} (h : d.length = S * B) (hj : j < S) : (dG B d j).length = B := by
  unfold dG
  rw [List.length_take, List.length_drop, h]
  have : (j + 1) * B ≤ S * B := Nat.mul_le_mul_right _ hj
  rw [Nat.succ_mul] at this
  omega
theorem kr {t B S : Nat} {d : List Nat} (ht : 1 ≤ t ∧ t ≤ 8) (h8 : Small 256 d) (h : d.length = S * B) : ∀ j, j ≤ S → (wH t B d j).length = j * (B + ay t)
  | 0, _ => by simp [wH]
  | j + 1, hj => by
    rw [wH, List.length_append, List.length_append, kr ht h8 h j (by omega), l9 h (by omega), mq ht (fV h8 j), Nat.succ_mul]
    omega
theorem ze {t B : Nat} {d : List Nat} (ht : 1 ≤ t ∧ t ≤ 8) (h8 : Small 256 d) : ∀ j, Small 256 (wH t B d j)
  | 0 => fun x hx => by simp [wH] at hx
  | j + 1 => ((ze ht h8 j).append (fV h8 j)).append (tC ht (fV h8 j))
theorem nQ {t B S : Nat} {d : List Nat} (ht : 1 ≤ t ∧ t ≤ 8) (h8 : Small 256 d) (h : d.length = S * B) : (jD t S B d).length = fJ S B t := by
  unfold jD fJ
  rw [List.length_append, kr ht h8 h S (Nat.le_refl _)]; rfl
theorem xG {t B S : Nat} {d : List Nat} (ht : 1 ≤ t ∧ t ≤ 8) (h8 : Small 256 d) : Small 256 (jD t S B d) := (ze ht h8 S).append (fun x hx => by rw [List.mem_singleton.1 hx]; decide)
theorem _root_.Go.Sl.Seq.Gm {K : World} {H : List ak} {A : Option Addr} {m l u : Nat} {vs : List Value} (hs : Seq K H A m 1 vs) (hl : l ≤ m) (hu : m ≤ u) : Seq K H (if u = l then A else A.map (·.add (l * 1))) (m - l) 1 (vs.drop l) := by
  have hlen := hs.len
  refine ⟨by rw [List.length_drop]; omega, fun i v hi => ?_⟩
  rw [List.getElem?_drop] at hi
  have hil : l + i < vs.length := (List.getElem?_eq_some_iff.1 hi).1
  rw [if_neg (by omega)]
  have := hs.rd (l + i) v hi
  intro w hw
  obtain ⟨a, h1, h2⟩ := this w hw
  cases A with
  | none => simp at h1
  | some a' =>
    refine ⟨_, rfl, ?_⟩
    simp only [Option.map_some, Option.some.injEq] at h1
    rw [← h1] at h2
    have h3 : ((a'.add (l * 1)).add i) = a'.add (l + i) := by rw [Nat.mul_one]; rcases Nat.eq_zero_or_pos l with h | h; · { subst h; rw [Nat.zero_add]; rfl }; · { rcases Nat.eq_zero_or_pos i with h' | h'; · { subst h'; rfl }; · { unfold Addr.add; rw [if_neg (by omega), if_neg (by omega), if_neg (by omega), Nat.add_assoc] } }
    show w.cell? ((a'.add (l * 1)).add i) = some v
    rw [h3]
    exact h2
section
variable {K : World} {F : List ak}
theorem z8 (g : Geo) : aL Tryz.prog 80 #[g.v] K F (.tuple (if g.may then #[.int .i64 g.room, .int .i64 0] else #[.int .i64 0, .int .i64 1])) := by
  refine Does.enter Tryz.func80 rfl Tryz.ntmps80 rfl ?_
  simp only [aI, Nat.reduceAdd]
  refine WC.sr ?_
  refine WL.box (cs := [_, _, _, _, _]) (OV.p rfl) rfl rfl (fun b1 => ?_)
  refine WL.sg rfl rfl (WL.sg rfl rfl (WL.nil (WC.seq (WC.sr ?_))))
  refine WL.val (V.bB (vs := [_, _, _, _, _]) ⟨Tryz.isAgg23, Tryz.sizeOf23⟩ (OV.p rfl) rfl (fun _ => by repeat (first | exact bD.gets ⟨rfl, rfl, rfl, rfl, rfl, trivial⟩ | apply bD.up))) rfl ?_
  refine WL.call (vs := [_]) Tryz.call77 ⟨OV.p rfl, trivial⟩ (Ca g _ _) rfl ?_
  rintro _ H0 ⟨rfl, h0⟩
  subst H0
  refine WL.sg rfl rfl (WL.nil (WC.sr (WL.mv rfl rfl (WL.val (V.neq (OV.p rfl) (OV.p rfl)) rfl (WL.nil ?_)))))
  refine WC.cond rfl (fun hc0 => ?_) (fun hc0 => ?_)
  ·skip
   have hm : g.may = false := by cases h : g.may <;> simp [h] at hc0 ⊢
   refine WC.sr (WL.mv rfl rfl (WL.sg rfl rfl (WL.sg rfl rfl (WL.nil (WC.ret ?_)))))
   rw [hm]
   exact au.ret (H' := F) (aO.fD rfl rfl rfl) (fun w h => h.drop 1) ⟨rfl, rfl⟩
  ·skip
   have hm : g.may = true := by cases h : g.may <;> simp [h] at hc0 ⊢
   have hb := Geo.mE hm
   have hr := Geo.uh (a := g.se) (b := g.sb) (A := 8) (B := 512) (by unfold Geo.aD at hb; omega) (by unfold Geo.aD at hb; omega) (by unfold Geo.aD at hb; omega) (by unfold Geo.aD at hb; omega)
   refine WC.skip (WC.sr (WL.val (V.fieldAddr oL (OV.p rfl)) rfl (WL.ld Tryz.isAgg3 rfl rfl ?_)))
   refine WL.val (V.fieldAddr ig (OV.p rfl)) rfl (WL.ld Tryz.isAgg3 rfl rfl ?_)
   refine WL.val (V.jF (OV.p rfl) (OV.p rfl) (fun hc => by omega)) rfl ?_
   refine WL.sg rfl rfl (WL.sg rfl rfl (WL.nil (WC.ret ?_)))
   refine au.ret (H' := F) (aO.fD rfl rfl rfl) (fun w h => h.drop 1) ⟨?_, rfl⟩
   rw [hm]; rfl
theorem K8 {bl pg : Int} {S B t : Nat} {A : Option Addr} {m cap : Nat} {d : List Nat} (hg : (NG bl pg S B t).aD) (hd : Seq K F A m 1 (aA .u8 d)) (h8 : Small 256 d) (hm : m = S * B) (hmc : m ≤ cap) :
    Does Tryz.prog 114 #[(NG bl pg S B t).v, .slice A m cap] K F
      (fun v H' => ∃ A' cap', v = .tuple #[.slice A' (fJ S B t) cap', .int .i64 0] ∧ H' = aU (.slice A' (fJ S B t) cap') 5 1 (fJ S B t) (aA .u8 (jD t S B d)) :: F) := by
  have hl : d.length = m := by simpa [aA] using hd.len
  have hmay : (NG bl pg S B t).may = true := decide_eq_true hg
  have hN := qM.of hg
  obtain ⟨hs, hb, ht⟩ := hN
  have hmore : 2 ≤ ay t ∧ ay t ≤ 13 := by unfold ay; omega
  have UG : m ≤ 4096 := by rw [hm]; exact Nat.mul_le_mul hs.2 hb.2
  have hm1 : 1 * 4 ≤ m := by rw [hm]; exact Nat.mul_le_mul hs.1 hb.1
  refine Does.enter Tryz.func114 rfl Tryz.ntmps114 rfl ?_
  simp only [aI, Nat.reduceAdd]
  refine WC.sr ?_
  refine WL.box (cs := [_, _, _, _, _]) (OV.p rfl) rfl rfl (fun b2 => ?_)
  refine WL.sg rfl rfl (WL.sg rfl rfl (WL.nil (WC.sr ?_)))
  refine WL.val (V.bB (vs := [_, _, _, _, _]) ⟨Tryz.isAgg23, Tryz.sizeOf23⟩ (OV.p rfl) rfl (fun _ => by repeat (first | exact bD.gets ⟨rfl, rfl, rfl, rfl, rfl, trivial⟩ | apply bD.up))) rfl ?_
  refine WL.call (vs := [_]) Tryz.call80 ⟨OV.p rfl, trivial⟩ (aL.eq (v' := .tuple #[.int .i64 (m : Int), .int .i64 0]) (z8 (NG bl pg S B t)) (by rw [hmay, NG.room, hm]; rfl)) rfl ?_
  rintro _ H0 ⟨rfl, h0⟩
  subst H0
  refine WL.mv rfl rfl (WL.xt rfl rfl rfl (WL.xt rfl rfl rfl (WL.sg rfl rfl (WL.sg rfl rfl (WL.nil (WC.seq (WC.sr (WL.mv rfl rfl (WL.val (V.neq (OV.p rfl) (OV.p rfl)) rfl (WL.mv rfl rfl (WL.av (oj := _) rfl rfl rfl GC.f (V.move (OV.p rfl)) rfl (WL.av (oj := _) rfl rfl rfl GC.f (V.len (t := 43) Tryz.runUnderlying43 (OV.g rfl id)) rfl (WL.av (oj := _) rfl rfl rfl GC.f (V.move (OV.p rfl)) rfl (WL.av (oj := _) rfl rfl rfl GC.f (V.neq (OV.g rfl id) (OV.g rfl id)) rfl (WL.val (V.bH (OV.p rfl) (OV.g rfl id)) rfl (WL.nil ?_))))))))))))))))
  refine WC.aQ rfl (by first | rfl | (simp; done) | (simp; omega)) ?_
  refine WC.skip (WC.sr (WL.sg rfl rfl (WL.nil (WC.seq (WC.block ?_)))))
  refine WC.loop (σ := Nat × Option Addr × Nat × Option Addr × Nat) (fun x => [(1, .slice x.2.1 (m - x.1 * B) x.2.2.1), (2, ptr b2 0), (8, .slice x.2.2.2.1 (x.1 * (B + ay t)) x.2.2.2.2)]) (fun x => aU (.slice x.2.2.2.1 (x.1 * (B + ay t)) x.2.2.2.2) 5 1 (x.1 * (B + ay t)) (aA .u8 (wH t B d x.1)) :: Cells b2 23 [.int .i64 bl, .int .i64 pg, .int .i64 (S : Int), .int .i64 (B : Int), .int .i64 (t : Int)] :: F) (fun x => x.1 ≤ S ∧ m - x.1 * B ≤ x.2.2.1 ∧ Seq K F x.2.1 (m - x.1 * B) 1 (aA .u8 (d.drop (x.1 * B)))) (fun x => S - x.1) (0, A, cap, none, 0) ⟨Nat.zero_le _, by show m - 0 * B ≤ cap; omega, by simpa using hd⟩ (.cons (look_eq rfl (by simp)) (.cons rfl (.cons (look_eq rfl (by simp)) (.nil _)))) (fun w h => by simpa [wH, aA] using Sat.fO h 5 1) ?_
  rintro ⟨j, Aj, cj, Ao, co⟩ ⟨hj, hjc, hjs⟩
  dsimp only at hj hjc hjs ⊢
  have Vk : j * B ≤ m := by rw [hm]; exact Nat.mul_le_mul_right _ hj
  have hpl := kr ht h8 (hl.trans hm) j hj
  refine WC.seq (WC.sr (WL.mv rfl rfl (WL.val (V.len (t := 43) Tryz.runUnderlying43 (OV.p rfl)) rfl (WL.val (V.gtr (OV.p rfl) (OV.p rfl)) rfl (WL.nil ?_)))))
  refine WC.cond rfl (fun hc1 => ?_) (fun hc1 => ?_)
  ·simp only [decide_eq_true_eq, decide_eq_false_iff_not] at hc1
   have MS : j < S := by
     rcases Nat.lt_or_ge j S with h | h
     · exact h
     · exfalso
       have : j = S := by omega
       rw [this, ← hm] at hc1
       omega
   have hj1 : (j + 1) * B ≤ m := by rw [hm]; exact Nat.mul_le_mul_right _ MS
   rw [Nat.succ_mul] at hj1
   have hsl := l9 (hl.trans hm) MS
   have Ja : Seq K F Aj B 1 (aA .u8 (dG B d j)) := by
     have h1 := Seq.take hjs (show B ≤ m - j * B by omega)
     rw [gG] at h1; exact h1
   refine WC.skip (WC.seq (WC.block (WC.sr (WL.mv rfl rfl (WL.val (V.fieldAddr ig (OV.p rfl)) rfl (WL.ld Tryz.isAgg3 rfl rfl ?_))))))
   refine WL.val (V.fieldAddr ig (OV.p rfl)) rfl (WL.ld Tryz.isAgg3 rfl rfl ?_)
   refine WL.val (V.aC (v' := .slice Aj B B) (V.slice (l := 0) (h := B) (u := B) fE (OV.p rfl) OO.none (OO.some (OV.p rfl) (fun _ => rfl)) (OO.some (OV.p rfl) (fun _ => rfl)) (by simp) (Nat.zero_le _) (Nat.le_refl _) (by omega)) (fun _ => by rw [show (B - 0 : Nat) = B from rfl]; cases Aj <;> simp [Addr.add])) rfl ?_
   refine WL.sg rfl rfl (WL.nil (WC.sr (WL.val (V.fieldAddr oJ (OV.p rfl)) rfl (WL.ld Tryz.isAgg3 rfl rfl ?_))))
   refine WL.mv rfl rfl ?_
   refine WL.call (vs := [_, _]) Tryz.call136 ⟨OV.p rfl, OV.p rfl, trivial⟩ (Ig ht (Ja.up.up) (fV h8 j) (by omega)) rfl ?_
   rintro _ _ ⟨Ae, ce, rfl, rfl⟩
   refine WL.mv rfl rfl (WL.xt rfl rfl rfl (WL.xt rfl rfl rfl (WL.sg rfl rfl (WL.sg rfl rfl (WL.nil (WC.region (WL.mv rfl rfl (WL.mv rfl rfl ?_))))))))
   refine WL.sub (Sub.refl _) (fun w h => h.p1) ?_
   refine WL.append (m := j * (B + ay t)) (q := B) Tryz.underlying43 yD (OV.p rfl) (OV.p rfl) (by repeat (first | exact Ja | apply Seq.up)) (qz _ _) (by have := Nat.mul_le_mul hj (show B + ay t ≤ 525 by omega); omega) rfl rfl (fun A3 c3 hA3 hc3 => ?_)
   refine WL.mv rfl rfl ?_
   refine WL.append (m := j * (B + ay t) + B) (q := ay t) (news := aA .u8 (fI t (dG B d j))) Tryz.underlying43 yD (OV.p rfl) (OV.p rfl) (aU.seq (by rw [aH, mq ht (fV h8 j), Nat.mul_one])) (qz _ _) (by have := Nat.mul_le_mul hj (show B + ay t ≤ 525 by omega); omega) rfl rfl (fun A4 c4 Sv hc4 => ?_)
   refine WL.sg rfl rfl (WL.nil (WC.region (WL.mv rfl rfl (WL.val (V.fieldAddr ig (OV.p rfl)) rfl (WL.ld Tryz.isAgg3 rfl rfl ?_)))))
   refine WL.val (V.slice (l := B) (h := m - j * B) (u := cj) fE (OV.p rfl) (OO.some (OV.p rfl) (fun _ => rfl)) OO.none OO.none (by simp) (by omega) (by omega) (Nat.le_refl _)) rfl ?_
   refine WL.sg rfl rfl (WL.nil ?_)
   refine ⟨rfl, ?_⟩
   refine ⟨(j + 1, (if cj = B then Aj else Aj.map (·.add (B * 1))), cj - B, A4, c4), ⟨MS, by show m - (j + 1) * B ≤ cj - B; rw [Nat.succ_mul]; omega, ?_⟩, (by show S - (j + 1) < S - j; omega), .cons (look_eq rfl (by dsimp only; rw [Nat.succ_mul, Nat.sub_sub])) (.cons rfl (.cons (look_eq rfl (by dsimp only; rw [Nat.succ_mul, Nat.add_assoc])) (.nil _))), fun w h => ?_⟩
   · have h1 := Seq.Gm hjs (show B ≤ m - j * B by omega) hjc
     rw [ni, List.drop_drop, Nat.sub_sub] at h1
     dsimp only
     rw [Nat.succ_mul]
     exact h1
   · dsimp only
     rw [Nat.succ_mul, ← Nat.add_assoc, wH, dI, dI]
     exact h.sel 3 [0, 2] rfl
  ·simp only [decide_eq_true_eq, decide_eq_false_iff_not] at hc1
   refine WC.exit (WC.sr (WL.mv rfl rfl ?_))
   refine WL.buildSlice (E := 5) (cs := [_]) (vs := [(0, _)]) ⟨OV.p rfl, trivial⟩ rfl (Cb _) rfl (fun Va => ?_)
   obtain rfl : j = S := by
     rcases Nat.lt_or_ge j S with h | h
     · exfalso
       have hj1 : (j + 1) * B ≤ m := by rw [hm]; exact Nat.mul_le_mul_right _ h
       rw [Nat.succ_mul] at hj1
       omega
     · omega
   refine WL.sub (Sub.refl _) (fun w h => h.p1) ?_
   refine WL.append (m := j * (B + ay t)) (q := 1) (news := [.int .u8 0]) Tryz.underlying43 yD (OV.p rfl) (OV.p rfl) (Seq.all rfl) (by intro u hu; rw [List.mem_singleton.1 hu]; rfl) (by have := Nat.mul_le_mul hj (show B + ay t ≤ 525 by omega); omega) rfl rfl (fun A5 c5 EJ ny => ?_)
   refine WL.sg rfl rfl (WL.sg rfl rfl (WL.nil (WC.ret ?_)))
   refine au.ret (H' := aU (.slice A5 (fJ j B t) c5) 5 1 (fJ j B t) (aA .u8 (jD t j B d)) :: F) (aO.fD rfl rfl rfl) (fun w h => ?_) ⟨A5, c5, rfl, rfl⟩
   have h' := h.sel 3 [0] rfl
   unfold jD fJ
   rw [dI]
   exact h'
end
theorem FH (a b c d : Nat) : (a ^^^ b) ^^^ (c ^^^ d) = (a ^^^ c) ^^^ (b ^^^ d) := by
  rw [Nat.xor_assoc, Nat.xor_assoc, ← Nat.xor_assoc b, ← Nat.xor_assoc c, Nat.xor_comm b c]
theorem Df {a : Nat} (h : a < 8192) : red (2 * a) = 2 * a ^^^ (if a.testBit 12 = true then 8219 else 0) := by
  have h1 : a.testBit 12 = decide (8192 ≤ 2 * a) := by
    rw [Nat.testBit_eq_decide_div_mod_eq]
    apply decide_eq_decide.2
    omega
  unfold red
  rw [h1]
  by_cases h2 : 8192 ≤ 2 * a
  · simp [h2]
  · simp [h2]
theorem Nz (a b : Nat) : 2 * (a ^^^ b) = 2 * a ^^^ 2 * b := by
  apply Nat.eq_of_testBit_eq
  intro i
  rw [Nat.testBit_xor, Nat.mul_comm 2, Nat.mul_comm 2, Nat.mul_comm 2, ← Nat.pow_one 2]
  rw [iT, iT, iT, Nat.testBit_xor]
  cases decide (1 ≤ i) <;> simp
theorem NA {a b : Nat} (ha : a < 8192) (hb : b < 8192) : red (2 * (a ^^^ b)) = red (2 * a) ^^^ red (2 * b) := by
  rw [Df ha, Df hb, Df (dB (k := 13) ha hb), Nz, FH, Nat.testBit_xor]
  congr 1
  cases a.testBit 12 <;> cases b.testBit 12 <;> simp
theorem wT : ∀ (k o1 o2 a1 a2 b : Nat), a1 < 8192 → a2 < 8192 → jZ k (o1 ^^^ o2) (a1 ^^^ a2) b = jZ k o1 a1 b ^^^ jZ k o2 a2 b
  | 0, _, _, _, _, _, _, _ => rfl
  | k + 1, o1, o2, a1, a2, b, h1, h2 => by
    rw [jZ, jZ, jZ]
    by_cases hb : b = 0
    · rw [if_pos hb, if_pos hb, if_pos hb]
    · rw [if_neg hb, if_neg hb, if_neg hb, NA h1 h2]
      by_cases h3 : b % 2 = 1
      · rw [if_pos h3, if_pos h3, if_pos h3, FH]
        exact wT k _ _ _ _ _ (oC h1) (oC h2)
      · rw [if_neg h3, if_neg h3, if_neg h3]
        exact wT k _ _ _ _ _ (oC h1) (oC h2)
theorem cZ {a b : Nat} (x : Nat) (ha : a < 8192) (hb : b < 8192) : aN (a ^^^ b) x = aN a x ^^^ aN b x := by
  have h := wT 13 0 0 a b x ha hb
  rwa [Nat.xor_self] at h
theorem cu (x : Nat) : aN 0 x = 0 := by
  have h := cZ (a := 0) (b := 0) x (by decide) (by decide)
  rwa [Nat.xor_self, Nat.xor_self] at h
def it (x : Nat) : Nat → Nat → Nat
  | 0, v => v
  | n + 1, v => it x n (aN v x)
theorem Li {x : Nat} : ∀ (n v : Nat), v < 8192 → it x n v < 8192
  | 0, v, h => h
  | n + 1, v, h => Li n _ (aR h)
theorem Ej {x : Nat} : ∀ (n v u : Nat), v < 8192 → u < 8192 → it x n (v ^^^ u) = it x n v ^^^ it x n u
  | 0, _, _, _, _ => rfl
  | n + 1, v, u, h1, h2 => by
    rw [it, it, it, cZ x h1 h2]
    exact Ej n _ _ (aR h1) (aR h2)
theorem kI (x : Nat) : ∀ n, it x n 0 = 0
  | 0 => rfl
  | n + 1 => by rw [it, cu]; exact kI x n
theorem Lr (x : Nat) : ∀ (m n v : Nat), it x (m + n) v = it x n (it x m v)
  | 0, n, v => by rw [Nat.zero_add]; rfl
  | m + 1, n, v => by rw [Nat.succ_add_eq_add_succ, Nat.add_succ, it, it]; exact Lr x m n _
def ev (x : Nat) (f : Nat → Bool) : Nat → Nat
  | 0 => 0
  | n + 1 => it x n (yJ (f n)) ^^^ ev x f n
theorem nZ (b : Bool) : yJ b < 8192 := by cases b <;> decide
theorem OD {x : Nat} {f : Nat → Bool} : ∀ n, ev x f n < 8192
  | 0 => (by decide : 0 < 8192)
  | n + 1 => dB (k := 13) (Li _ _ (nZ _)) (OD n)
theorem zH {x : Nat} {f : Nat → Bool} : ∀ (n v : Nat), v < 8192 → hor f x n v = it x n v ^^^ ev x f n
  | 0, v, _ => by rw [hor, it, ev, Nat.xor_zero]
  | n + 1, v, h => by
    rw [hor, zH n _ (dB (k := 13) (aR h) (nZ _)), Ej n _ _ (aR h) (nZ _), it, ev, Nat.xor_assoc]
theorem jU {x : Nat} {f g : Nat → Bool} : ∀ n, (∀ i, i < n → f i = g i) → ev x f n = ev x g n
  | 0, _ => rfl
  | n + 1, h => by rw [ev, ev, h n (Nat.lt_succ_self _), jU n (fun i hi => h i (Nat.lt_succ_of_lt hi))]
theorem zx {x : Nat} {f g : Nat → Bool} : ∀ n, ev x (fun i => f i ^^ g i) n = ev x f n ^^^ ev x g n
  | 0 => (Nat.xor_self 0).symm
  | n + 1 => by
    have h : yJ (f n ^^ g n) = yJ (f n) ^^^ yJ (g n) := by cases f n <;> cases g n <;> rfl
    rw [ev, ev, ev, zx n, h, Ej _ _ _ (nZ _) (nZ _), FH]
theorem KP {x : Nat} {f : Nat → Bool} {n : Nat} (h : ∀ i, n ≤ i → f i = false) : ∀ m, ev x f (n + m) = ev x f n
  | 0 => rfl
  | m + 1 => by
    rw [Nat.add_succ, ev, h _ (Nat.le_add_right _ _), show yJ false = 0 from rfl, kI, Nat.zero_xor, KP h m]
theorem om {x : Nat} {f : Nat → Bool} {n m : Nat} (h : ∀ i, n ≤ i → f i = false) (hm : n ≤ m) : ev x f m = ev x f n := by
  have := KP (x := x) h (m - n)
  rwa [Nat.add_sub_cancel' hm] at this
theorem uS {x : Nat} {f : Nat → Bool} : ∀ n, (∀ i, i < n → f i = false) → ev x f n = 0
  | 0, _ => rfl
  | n + 1, h => by rw [ev, h n (Nat.lt_succ_self _), show yJ false = 0 from rfl, kI, Nat.zero_xor, uS n (fun i hi => h i (Nat.lt_succ_of_lt hi))]
theorem F3 {x m : Nat} {f : Nat → Bool} : ∀ n, ev x (fun i => decide (m ≤ i) && f (i - m)) (n + m) = it x m (ev x f n)
  | 0 => by
    rw [Nat.zero_add, uS m (fun i hi => by rw [decide_eq_false (by omega)]; rfl), ev, kI]
  | n + 1 => by
    rw [Nat.succ_add, ev, ev, Ej _ _ _ (Li _ _ (nZ _)) (OD _), F3 n, decide_eq_true (by omega), Bool.true_and, Nat.add_sub_cancel, Lr]
theorem CW {x m n N : Nat} {f : Nat → Bool} (hf : ∀ i, n ≤ i → f i = false) (hN : n + m ≤ N) : ev x (fun i => decide (m ≤ i) && f (i - m)) N = it x m (ev x f n) := by
  rw [← F3 n]
  refine om (fun i hi => ?_) hN
  rw [hf _ (by omega), Bool.and_false]
theorem E9 {x at_ : Nat} {out p : List Nat} (ho : Small 256 out) (hp : Small 256 p) (hl : p.length + at_ / 8 < out.length) :
    ev x (aS (jk out p at_ p.length)) (8 * out.length) = ev x (aS out) (8 * out.length) ^^^ it x at_ (ev x (aS p) (8 * p.length)) := by
  rw [← CW (x := x) (m := at_) (N := 8 * out.length) (fun i hi => iq hi) (by omega), ← zx]
  refine jU _ (fun i _ => ?_)
  rw [pY ho hp _ hl]
  congr 1
  by_cases h : i - at_ < 8 * p.length
  · rw [decide_eq_true h, Bool.and_true]
  · rw [decide_eq_false h, Bool.and_false, Bool.false_and, iq (by omega), Bool.and_false]
theorem LP {x lq d : Nat} {p q : List Nat} (hp : Small 256 p) (hq : Small 256 q) (hlq : q.length = lq) (hld : lq = d / 8 + 1) (hx : ev x (aS q) (8 * q.length) = 0) : ∀ k, k ≤ 8 * p.length - d →
    ev x (aS (eB p q lq d k)) (8 * (p.length + 1)) = ev x (aS p) (8 * p.length)
  | 0, _ => by
    rw [eB]
    have h1 : ∀ i, aS (p ++ [0]) i = aS p i := fun i => by
      unfold aS
      congr 1
      by_cases h : i / 8 < p.length
      · simp [List.getD, List.getElem?_append_left h]
      · simp only [List.getD]
        rw [List.getElem?_append_right (by omega), List.getElem?_eq_none (by omega : p.length ≤ i / 8)]
        rcases Nat.eq_zero_or_pos (i / 8 - p.length) with h2 | h2
        · rw [h2]; rfl
        · rw [List.getElem?_eq_none (by simp; omega)]
    rw [jU _ (fun i _ => h1 i)]
    exact om (fun i hi => iq hi) (by omega)
  | k + 1, hk => by
    have ih := LP hp hq hlq hld hx k (by omega)
    rw [eB]
    split
    · have h := E9 (x := x) (at_ := 8 * p.length - 1 - k - d) (gu (lq := lq) (d := d) hp hq k) hq (by rw [dO, hlq]; omega)
      rw [dO, hx, kI, Nat.xor_zero, ih, hlq] at h
      exact h
    · exact ih
theorem oq {xs : List Nat} : ∀ n j, aF xs n ≤ j → j < n → xs.getD j 0 = 0
  | 0, _, _, h => absurd h (Nat.not_lt_zero _)
  | n + 1, j, h1, h2 => by
    rw [aF] at h1
    split at h1
    · rename_i h3
      rcases Nat.lt_or_ge j n with h | h
      · exact oq n j h1 h
      · have : j = n := by omega
        subst this; exact h3
    · omega
theorem zP {xs : List Nat} {n : Nat} (hn : n = xs.length) (k : Nat) : aS (xs.take (aF xs n)) k = aS xs k := by
  unfold aS
  congr 1
  by_cases h : k / 8 < aF xs n
  · simp [List.getD, List.getElem?_take, h]
  · have h0 : (xs.take (aF xs n)).getD (k / 8) 0 = 0 := by simp [List.getD, List.getElem?_take, h]
    rw [h0]
    by_cases h2 : k / 8 < n
    · exact (oq n _ (by omega) h2).symm
    · rw [List.getD, List.getElem?_eq_none (by omega)]; rfl
theorem FV (n k : Nat) : aS (List.replicate n 0) k = false := by
  unfold aS
  by_cases h : k / 8 < n
  · simp [List.getD, List.getElem?_replicate, h]
  · simp [List.getD, List.getElem?_replicate, h]
theorem H8 (xs : List Nat) (n k : Nat) : aS (xs ++ List.replicate n 0) k = aS xs k := by
  unfold aS
  congr 1
  by_cases h : k / 8 < xs.length
  · simp [List.getD, List.getElem?_append_left h]
  · have h0 : xs.getD (k / 8) 0 = 0 := by rw [List.getD, List.getElem?_eq_none (by omega)]; rfl
    rw [h0, List.getD, List.getElem?_append_right (by omega), List.getElem?_replicate]
    split <;> rfl
theorem Hw (t i : Nat) : aS (bY t) i = decide (i = 13 * t) := by
  unfold aS bY
  rw [lu, List.length_replicate]
  have hm : 13 * t / 8 < ay t + 1 := by unfold ay; omega
  by_cases h : 13 * t / 8 = i / 8
  · rw [if_pos ⟨h, by omega⟩, Nat.testBit_two_pow]
    apply decide_eq_decide.2
    omega
  · rw [if_neg (by omega)]
    have h0 : (List.replicate (ay t + 1) 0).getD (i / 8) 0 = 0 := by
      by_cases h : i / 8 < ay t + 1 <;> simp [List.getD, List.getElem?_replicate, h]
    rw [h0, Nat.zero_testBit, decide_eq_false (by omega)]
theorem CS {t : Nat} {d : List Nat} : ∀ i, iJ (bY t) d i = if i ≤ 13 * t then List.replicate ((bY t).length + d.length + 1) 0 else jk (List.replicate ((bY t).length + d.length + 1) 0) d (13 * t) d.length
  | 0 => by rw [iJ, if_pos (Nat.zero_le _)]
  | i + 1 => by
    rw [iJ, CS i, Hw]
    by_cases h : i = 13 * t
    · rw [decide_eq_true h, if_pos rfl, if_pos (by omega), if_neg (by omega), h]
    · rw [decide_eq_false h]
      by_cases h2 : i ≤ 13 * t
      · rw [if_neg Bool.false_ne_true, if_pos h2, if_pos (by omega)]
      · rw [if_neg Bool.false_ne_true, if_neg h2, if_neg (by omega)]
def Kn (t : Nat) : Bool := (List.range (2 * t)).all fun k => decide (hor (aS (dJ t)) (bX ((k + 1 : Nat) : Int)) (8 * (dJ t).length) 0 = 0)
theorem Jc : [1, 2, 3, 4, 5, 6, 7, 8].all Kn = true := by kernel_rfl
theorem LQ {t k : Nat} (ht : 1 ≤ t ∧ t ≤ 8) (hk : k < 2 * t) : ev (bX ((k + 1 : Nat) : Int)) (aS (dJ t)) (8 * (dJ t).length) = 0 := by
  have h := List.all_eq_true.1 Jc t (by simp only [List.mem_cons, List.not_mem_nil, or_false]; omega)
  have h1 := of_decide_eq_true (List.all_eq_true.1 h k (List.mem_range.2 hk))
  rw [zH _ _ (by decide), kI, Nat.zero_xor] at h1
  exact h1
theorem Gw (t : Nat) (d : List Nat) : fM (bY t) d = jk (List.replicate ((bY t).length + d.length + 1) 0) d (13 * t) d.length := by
  unfold fM
  rw [CS, if_neg]
  rw [iM]; unfold ay; omega
theorem NT {x t : Nat} {d : List Nat} (hd : Small 256 d) : ev x (aS (gB t d)) (8 * (gB t d).length) = it x (13 * t) (ev x (aS d) (8 * d.length)) := by
  have hl : (fM (bY t) d).length = (bY t).length + d.length + 1 := fG _ _ _
  have h1 : ∀ k, aS (gB t d) k = aS (fM (bY t) d) k := fun k => by unfold gB; exact zP hl.symm k
  have h2 := E9 (x := x) (at_ := 13 * t) (out := List.replicate ((bY t).length + d.length + 1) 0) (p := d) (Small.vZ (by decide)) hd (by rw [List.length_replicate, iM]; unfold ay; omega)
  rw [← Gw, uS _ (fun i _ => FV _ i), Nat.zero_xor, List.length_replicate, ← hl] at h2
  rw [← h2, ← om (x := x) (f := aS (gB t d)) (n := 8 * (gB t d).length) (m := 8 * (fM (bY t) d).length) (fun i hi => iq hi) (by unfold gB; rw [List.length_take]; omega)]
  exact jU _ (fun i _ => h1 i)
theorem Ab {t : Nat} {d : List Nat} (k : Nat) : aS (fI t d) k = aS (pQ t d) k := by
  unfold fI
  rw [H8]
  unfold gN
  exact zP (kR t d).symm k
theorem nL {t : Nat} {d : List Nat} (ht : 1 ≤ t ∧ t ≤ 8) (hd : Small 256 d) {k : Nat} (hk : 13 * t ≤ k) : aS (fI t d) k = false := by
  obtain ⟨g1, g2, g3, g4, g5⟩ := nE ht
  rw [Ab]
  exact Ch (ko hd) g5 rfl g3 g4 hk
theorem Jb {t k : Nat} {d : List Nat} (ht : 1 ≤ t ∧ t ≤ 8) (hd : Small 256 d) (hk : k < 2 * t) :
    hor (yU t d (fI t d)) (bX ((k + 1 : Nat) : Int)) (13 * t + 8 * d.length) 0 = 0 := by
  obtain ⟨g1, g2, g3, g4, g5⟩ := nE ht
  obtain ⟨x, hx⟩ : ∃ x, x = bX ((k + 1 : Nat) : Int) := ⟨_, rfl⟩
  have hr := LQ ht hk
  rw [← hx] at hr ⊢
  rw [zH _ _ (by decide), kI, Nat.zero_xor]
  have h1 : ∀ i, yU t d (fI t d) i = ((decide (13 * t ≤ i) && aS d (i - 13 * t)) ^^ aS (fI t d) i) := fun i => by
    unfold yU
    by_cases h : 13 * t ≤ i
    · rw [if_pos h, decide_eq_true h, Bool.true_and, nL ht hd h, Bool.xor_false]
    · rw [if_neg h, decide_eq_false h, Bool.false_and, Bool.false_xor]
  rw [jU _ (fun i _ => h1 i), zx, CW (n := 8 * d.length) (fun i hi => iq hi) (by omega)]
  have h2 : ev x (aS (fI t d)) (13 * t + 8 * d.length) = ev x (aS (fI t d)) (13 * t) := om (fun i hi => nL ht hd hi) (by omega)
  have h3 : ev x (aS (pQ t d)) (8 * ((gB t d).length + 1)) = ev x (aS (gB t d)) (8 * (gB t d).length) := LP (ko hd) g5 rfl g3 hr _ (Nat.le_refl _)
  have h4 : ev x (aS (pQ t d)) (8 * ((gB t d).length + 1)) = ev x (aS (fI t d)) (13 * t) := by
    rw [← jU _ (fun i _ => Ab (t := t) (d := d) i)]
    rcases Nat.le_total (13 * t) (8 * ((gB t d).length + 1)) with h | h
    · exact om (fun i hi => nL ht hd hi) h
    · refine (om (fun i hi => ?_) h).symm
      rw [Ab]
      exact iq (by rw [kR]; exact hi)
  rw [h2, ← h4, h3, NT hd, Nat.xor_self]
theorem Ki {x j : Nat} (hx : x < 256) (hj : x.testBit j = false) : zS x j = x := by
  unfold zS
  apply Nat.eq_of_testBit_eq
  intro i
  rw [Nat.testBit_and, Nat.testBit_xor, Nat.testBit_two_pow]
  by_cases h8 : i < 8
  · have : (255 : Nat).testBit i = true := by
      have : ∀ i, i < 8 → (255 : Nat).testBit i = true := by decide
      exact this i h8
    rw [this]
    by_cases h : j = i
    · subst h; rw [hj]; rfl
    · rw [decide_eq_false h]; simp
  · rw [iH hx (by omega), Bool.false_and]
theorem KQ {xs : List Nat} {i : Nat} : xs.set i (xs.getD i 0) = xs := by
  apply List.ext_getElem?
  intro k
  rw [List.getElem?_set]
  by_cases h : i = k
  · subst h
    by_cases hl : i < xs.length
    · simp [List.getD, hl]
    · simp [List.getElem?_eq_none (Nat.le_of_not_lt hl), hl]
  · simp [h]
theorem xY {m : List Nat} {i0 : Nat} (hm : Small 256 m) (h : ∀ k, i0 ≤ k → aS m k = false) : ∀ k, eY m i0 k = m
  | 0 => rfl
  | k + 1 => by
    rw [eY, xY hm h k, Ki (hm.at_ (by decide) _) (h (i0 + k) (by omega)), KQ]
theorem JF {t : Nat} {d : List Nat} (ht : 1 ≤ t ∧ t ≤ 8) (hd : Small 256 d) : dM t (fI t d) = fI t d := xY (tC ht hd) (fun k hk => nL ht hd hk) _
theorem AQ {t : Nat} {d : List Nat} (ht : 1 ≤ t ∧ t ≤ 8) (hd : Small 256 d) : dQ t (d, fI t d) = List.replicate (2 * t) 0 := by
  unfold dQ kG
  apply List.ext_getElem
  · simp
  · intro i h1 h2
    simp only [List.getElem_map, List.getElem_range, List.getElem_replicate]
    exact Jb ht hd (by simpa using h1)
theorem zJ (m : Nat) : ∀ n, gK (List.replicate m 0) n = ⟨[1], [1], 0, n + 1, 1⟩
  | 0 => rfl
  | n + 1 => by
    have h0 : (List.replicate m 0).getD n 0 = 0 := by
      by_cases h : n < m <;> simp [List.getD, List.getElem?_replicate, h]
    rw [gK, zJ m n]
    unfold pR
    rw [if_pos]
    show qx _ _ _ (min 0 _) = 0
    rw [Nat.zero_min]
    exact h0
theorem J5 (m : Nat) : lU (List.replicate m 0) = [1] ∧ mZ (List.replicate m 0) = 1 := by
  have h : lU (List.replicate m 0) = [1] := by unfold lU; rw [zJ]
  refine ⟨h, ?_⟩
  unfold mZ
  rw [h]; rfl
theorem CO (t : Nat) (p : LL) : ∀ k, bJ t [1] 1 p k = (p, 0)
  | 0 => rfl
  | k + 1 => by
    rw [bJ, if_neg, CO t p k]
    unfold nV
    rw [zT, cu]
    show ¬ decide ((0 ^^^ 1 : Nat) = 0) = true
    decide
theorem tN : ∀ m, ones (List.replicate m 0) = 0
  | 0 => rfl
  | m + 1 => by rw [List.replicate_succ, ones, tN m]; rfl
theorem Od {t : Nat} {d : List Nat} (ht : 1 ≤ t ∧ t ≤ 8) (hd : Small 256 d) : lT t d (fI t d) = some ((d, fI t d), 0) := by
  obtain ⟨l1, l2⟩ := J5 (2 * t)
  unfold lT
  rw [JF ht hd, AQ ht hd, l1, l2, CO, if_neg (by omega), if_neg (fun h => h rfl), if_neg]
  show ¬ 0 < ones (fH (dQ t (d, fI t d)))
  rw [AQ ht hd]
  unfold fH
  rw [List.map_replicate, show nz 0 = 0 from rfl, tN]
  decide
end Go.Proofs.YtcmojpiokjhmhaaGreat
