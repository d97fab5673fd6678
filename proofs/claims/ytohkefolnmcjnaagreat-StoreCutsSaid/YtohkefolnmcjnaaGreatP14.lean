import Derived.Test.YtohkefolnmcjnaaGreatP13
import Derived.Test.YtohkefolnmcjnaaGreatP12
namespace Go.Proofs.YtohkefolnmcjnaaGreat
open Go.Sl Go.RowKit
set_option linter.unusedVariables false
set_option linter.unusedSimpArgs false
set_option maxRecDepth 20000
abbrev LL := List Nat × List Nat
def flip2 (t : Nat) (p : LL) (i : Nat) : LL := if 13 * t ≤ i then (flipB p.1 (i - 13 * t), p.2) else (p.1, flipB p.2 i)
def evalC (c : List Nat) (x : Nat) : Nat → Nat → Nat
  | 0, v => v
  | k + 1, v => evalC c x k (gmul v x ^^^ c.getD k 0)
def rootAt (c : List Nat) (L i : Nat) : Bool := decide (evalC c (gexp (-(i : Int))) L 0 = 0)
def decTo (t : Nat) (c : List Nat) (L : Nat) (p : LL) : Nat → LL × Nat
  | 0 => (p, 0)
  | k + 1 => if rootAt c L k = true then (flip2 t (decTo t c L p k).1 k, (decTo t c L p k).2 + 1) else decTo t c L p k
def sums2 (t : Nat) (p : LL) : List Nat := sumsW t (13 * t + 8 * p.1.length) (wAt t p.1 p.2)
def decF (t : Nat) (d m : List Nat) : Option (LL × Nat) :=
  if t + 1 < locL (sums2 t (d, maskM t m)) then none
  else
    if (decTo t (locC (sums2 t (d, maskM t m))) (locL (sums2 t (d, maskM t m))) (d, maskM t m) (13 * t + 8 * d.length)).2 + 1 ≠ locL (sums2 t (d, maskM t m)) then none
    else if 0 < ones (nozero (sums2 t (decTo t (locC (sums2 t (d, maskM t m))) (locL (sums2 t (d, maskM t m))) (d, maskM t m) (13 * t + 8 * d.length)).1)) then none
    else some (decTo t (locC (sums2 t (d, maskM t m))) (locL (sums2 t (d, maskM t m))) (d, maskM t m) (13 * t + 8 * d.length))
theorem evalC_code {c : List Nat} {x k v : Nat} : evalC c x (k + 1) v = evalC c x k (gmul v x ^^^ c.getD k 0) := rfl
theorem decTo_le (t : Nat) (c : List Nat) (L : Nat) (p : LL) : ∀ k, (decTo t c L p k).2 ≤ k
  | 0 => Nat.le_refl _
  | k + 1 => by
    have := decTo_le t c L p k
    rw [decTo]; split
    · show (decTo t c L p k).2 + 1 ≤ k + 1; omega
    · omega
theorem flip2_len (t : Nat) (p : LL) (i : Nat) : (flip2 t p i).1.length = p.1.length ∧ (flip2 t p i).2.length = p.2.length := by
  unfold flip2; split <;> simp [flipB_length]
theorem decTo_len (t : Nat) (c : List Nat) (L : Nat) (p : LL) : ∀ k, (decTo t c L p k).1.1.length = p.1.length ∧ (decTo t c L p k).1.2.length = p.2.length
  | 0 => ⟨rfl, rfl⟩
  | k + 1 => by
    have ih := decTo_len t c L p k
    rw [decTo]; split
    · have := flip2_len t (decTo t c L p k).1 k
      exact ⟨by show (flip2 _ _ _).1.length = _; omega, by show (flip2 _ _ _).2.length = _; omega⟩
    · exact ih
theorem sumsW_small {t len : Nat} {bit : Nat → Bool} : Small 8192 (sumsW t len bit) := fun x hx => by
  obtain ⟨k, _, rfl⟩ := List.mem_map.1 hx
  exact hor_lt _ _ (by decide)
theorem sumsW_len {t len : Nat} {bit : Nat → Bool} : (sumsW t len bit).length = 2 * t := by simp [sumsW]
theorem bmTo_small {s : List Nat} (hs : Small 8192 s) : Small 8192 (locC s) := (bmTo_ok hs _).cs
theorem locL_le {s : List Nat} (hs : Small 8192 s) : locL s ≤ (locC s).length ∧ (locC s).length ≤ s.length + 1 := ⟨normLen_le _ _, (bmTo_ok hs _).c2⟩
namespace Wd
def put (W : Wd) (p : LL) : Wd := { W with d := p.1, m := p.2 }
theorem flip_put (W : Wd) (p : LL) (i : Nat) : (W.put p).flip i = W.put (flip2 W.t p i) := by
  unfold Wd.flip flip2 put
  split <;> rfl
end Wd
def DecPost (F : List Assn) (o : Option (LL × Nat)) (v : Value) (H' : List Assn) : Prop :=
  match o with
  | none => v = .tuple #[.slice none 0 0, .slice none 0 0, .int .i64 0, .int .i64 50] ∧ H' = F
  | some (p, n) => ∃ g1 c1 r1 g2 c2 r2, p.1.length ≤ c1 ∧ p.2.length ≤ c2 ∧ v = .tuple #[.slice (some ⟨g1, 0, none⟩) p.1.length c1, .slice (some ⟨g2, 0, none⟩) p.2.length c2, .int .i64 (n : Int), .int .i64 0] ∧ H' = Cells g1 5 (nats .u8 p.1 ++ r1) :: Cells g2 5 (nats .u8 p.2 ++ r2) :: F
section
variable {K : World} {F : List Assn}
theorem word_sums' {bw : Nat} {V : Wd} (h : V.Ok) : Does Tryz.prog 166 #[ptr bw 0] K (V.parts bw ++ F) (fun v H' => ∃ g, v = .slice (some ⟨g, 0, none⟩) (2 * V.t) (2 * V.t) ∧ H' = Cells g 3 (nats .i64 (sums2 V.t (V.d, V.m))) :: (V.parts bw ++ F)) :=
  word_sums h Rds.all (Seq.up (Seq.here (by rw [nats_length]; omega) (by rw [List.drop_zero]; exact List.prefix_append _ _))) (Seq.up (Seq.up (Seq.here (by rw [nats_length]; omega) (by rw [List.drop_zero]; exact List.prefix_append _ _))))
theorem bch_Decode {t : Nat} {A B : Option Addr} {m q cap cap' : Nat} {d mo : List Nat} (ht : 1 ≤ t ∧ t ≤ 8) (hd : Seq K F A m 1 (nats .u8 d)) (hm : Seq K F B q 1 (nats .u8 mo)) (hd8 : Small 256 d) (hm8 : Small 256 mo) (hdl : 1 ≤ m ∧ m ≤ 512) (hml : q = moreLen t) :
    Does Tryz.prog 124 #[.int .i64 (t : Int), .slice A m cap, .slice B q cap'] K F (DecPost F (decF t d mo)) := by
  refine Does.enter Tryz.func124 rfl Tryz.ntmps124 rfl ?_
  simp only [env0, Nat.reduceAdd]
  refine WC.sr ?_
  refine WL.sg rfl rfl ?_
  refine WL.sg rfl rfl ?_
  refine WL.sg rfl rfl ?_
  refine WL.sg rfl rfl ?_
  refine WL.nil ?_
  refine WC.sr ?_
  refine WL.mv rfl rfl ?_
  refine WL.mv rfl rfl ?_
  refine WL.mv rfl rfl ?_
  refine WL.call (vs := [_, _, _]) Tryz.call164 ⟨OV.p rfl, OV.p rfl, OV.p rfl, trivial⟩ (bch_newWord ht hd hm hd8 hm8 hdl hml) rfl ?_
  rintro _ _ ⟨bw, W, hW, hWt, hWd, hWm, hWc, rfl, rfl⟩
  obtain ⟨p, hp⟩ : ∃ p : LL, p = (d, maskM t mo) := ⟨_, rfl⟩
  have hp1 : W.d = p.1 := by rw [hp, hWd]
  have hp2 : W.m = p.2 := by rw [hp, hWm]
  have hdF : decF t d mo = (if t + 1 < locL (sums2 t p) then none else if (decTo t (locC (sums2 t p)) (locL (sums2 t p)) p W.len).2 + 1 ≠ locL (sums2 t p) then none else if 0 < ones (nozero (sums2 t (decTo t (locC (sums2 t p)) (locL (sums2 t p)) p W.len).1)) then none else some (decTo t (locC (sums2 t p)) (locL (sums2 t p)) p W.len)) := by
    unfold decF Wd.len
    rw [hp, hWt, hWd]
  rw [hdF]
  have hWl : W.len ≤ 4200 := by have h1 := hW.t; have h2 := hW.d; unfold Wd.len; omega
  refine WL.mv rfl rfl ?_
  refine WL.xt rfl rfl rfl ?_
  refine WL.xt rfl rfl rfl ?_
  refine WL.sg rfl rfl ?_
  refine WL.sg rfl rfl ?_
  refine WL.nil ?_
  refine WC.seq ?_
  refine WC.sr ?_
  refine WL.mv rfl rfl ?_
  refine WL.val (V.neq (OV.p rfl) (OV.p rfl)) rfl ?_
  refine WL.nil ?_
  refine WC.condF' rfl (by first | rfl | (simp; done) | (simp; omega)) ?_
  refine WC.skip ?_
  refine WC.sr ?_
  refine WL.mv rfl rfl ?_
  refine WL.call (vs := [_]) Tryz.call166 ⟨OV.p rfl, trivial⟩ (word_sums' hW) rfl ?_
  rintro _ _ ⟨gs, rfl, rfl⟩
  rw [hp1, hp2, hWt]
  obtain ⟨s, hs⟩ : ∃ s, s = sums2 t (p.1, p.2) := ⟨_, rfl⟩
  have hs' : sums2 t p = s := hs.symm
  have hss : Small 8192 s := by rw [hs]; exact sumsW_small
  have hsl : s.length = 2 * t := by rw [hs]; exact sumsW_len
  rw [hs']
  refine WL.call (vs := [_]) Tryz.call165 ⟨OV.p rfl, trivial⟩ (bch_locator (s := s) (Seq.allN hsl) hss (by omega)) rfl ?_
  rintro _ _ ⟨gl, cl, rl, rfl, rfl⟩
  obtain ⟨L, hL⟩ : ∃ L, L = locL s := ⟨_, rfl⟩
  obtain ⟨c, hc⟩ : ∃ c, c = locC s := ⟨_, rfl⟩
  have hLc := locL_le hss
  have hcs := bmTo_small hss
  rw [← hL, ← hc] at hLc ⊢
  rw [← hc] at hcs
  refine WL.sg rfl rfl ?_
  refine WL.nil ?_
  refine WC.seq ?_
  refine WC.sr ?_
  refine WL.mv rfl rfl ?_
  refine WL.val (V.len (t := 42) Tryz.runUnderlying42 (OV.p rfl)) rfl ?_
  refine WL.sb rfl rfl rfl ?_
  refine WL.mv rfl rfl ?_
  refine WL.val (V.gtr (OV.p rfl) (OV.p rfl)) rfl ?_
  refine WL.nil ?_
  refine WC.cond rfl (fun hc1 => ?_) (fun hc1 => ?_)
  ·simp only [decide_eq_true_eq, decide_eq_false_iff_not] at hc1
   have h1 := hc1
   rw [if_pos (by omega)]
   refine WC.sr ?_
   refine WL.sg rfl rfl ?_
   refine WL.sg rfl rfl ?_
   refine WL.sg rfl rfl ?_
   refine WL.sg rfl rfl ?_
   refine WL.nil ?_
   refine WC.ret ?_
   exact BodyQ.ret (H' := F) (Res.tmp4 rfl rfl rfl rfl rfl) (fun w h => h.sel 5 [] rfl) ⟨rfl, rfl⟩
  ·simp only [decide_eq_true_eq, decide_eq_false_iff_not] at hc1
   have h1 := hc1
   rw [if_neg (by omega)]
   refine WC.skip ?_
   refine WC.seq ?_
   have hWW : W.put (decTo t c L p 0).1 = W := by unfold Wd.put decTo; rw [← hp1, ← hp2]
   have hok : ∀ k, (W.put (decTo t c L p k).1).Ok := fun k => by
     induction k with
     | zero => rw [hWW]; exact hW
     | succ k ih =>
       rw [decTo]; split
       · have := ih.flip k
         rw [Wd.flip_put, hWt] at this
         exact this
       · exact ih
   refine WC.region ?_
   refine WL.sg rfl rfl ?_
   refine WL.nil ?_
   refine WC.seq ?_
   refine WC.sr ?_
   refine WL.mv rfl rfl ?_
   refine WL.call (vs := [_]) Tryz.call167 ⟨OV.p rfl, trivial⟩ (word_len hW (by repeat (first | exact Rds.all | apply Rds.up))) rfl ?_
   rintro _ H0 ⟨rfl, h0⟩
   subst H0
   refine WL.mv rfl rfl ?_
   refine WL.nil ?_
   refine WC.block ?_
   refine WC.loop (σ := Nat) (fun k => [(10, ptr bw 0), (12, .slice (some ⟨gl, 0, none⟩) L cl), (13, .int .i64 ((decTo t c L p k).2 : Nat)), (37, .int .i64 (W.len : Nat)), (38, .int .i64 (k : Int))]) (fun k => (W.put (decTo t c L p k).1).parts bw ++ (Cells gl 3 (nats .i64 c ++ rl) :: F)) (fun k => k ≤ W.len) (fun k => W.len - k) 0 (Nat.zero_le _) (.cons rfl (.cons rfl (.cons rfl (.cons rfl (.cons rfl (.nil _)))))) (fun w h => by rw [hWW]; exact h.sel 5 [2, 3, 4, 0] rfl) ?_
   rintro k hk
   obtain ⟨U, hV⟩ : ∃ U, U = W.put (decTo t c L p k).1 := ⟨_, rfl⟩
   have hVo : U.Ok := by rw [hV]; exact hok k
   have hVt : U.t = t := by rw [hV]; exact hWt
   have hVc : U.d.length = W.d.length := by rw [hV, hp1]; exact (decTo_len t c L p k).1
   have hVl : U.len = W.len := by unfold Wd.len; rw [hVt, hVc, hWt]
   have hdl := decTo_le t c L p k
   rw [← hV]
   refine WC.sr ?_
   refine WL.val (V.lss (OV.p rfl) (OV.p rfl)) rfl ?_
   refine WL.nil ?_
   refine WC.seq ?_
   refine WC.cond rfl (fun hc2 => ?_) (fun hc2 => ?_)
   ·simp only [decide_eq_true_eq, decide_eq_false_iff_not] at hc2
    refine WC.skip ?_
    refine WC.seq ?_
    refine WC.block ?_
    refine WC.sr ?_
    refine WL.mv rfl rfl ?_
    refine WL.sg rfl rfl ?_
    refine WL.nil ?_
    refine WC.seq ?_
    obtain ⟨x, hx⟩ : ∃ x, x = gexp (-(k : Int)) := ⟨_, rfl⟩
    have hx8 : x < 8192 := by rw [hx]; exact gexp_lt _
    refine WC.region ?_
    refine WL.mv rfl rfl ?_
    refine WL.val (V.negI (OV.p rfl) (fun _ => by omega)) rfl ?_
    refine WL.call (vs := [_]) Tryz.call168 ⟨OV.p rfl, trivial⟩ (gf_Exp (-(k : Int)) (by omega)) rfl ?_
    rintro _ H0 ⟨rfl, h0⟩
    subst H0
    refine WL.sg rfl rfl ?_
    refine WL.sg rfl rfl ?_
    refine WL.nil ?_
    refine WC.seq ?_
    refine WC.sr ?_
    refine WL.mv rfl rfl ?_
    refine WL.val (V.len (t := 42) Tryz.runUnderlying42 (OV.p rfl)) rfl ?_
    refine WL.val (V.val_eq (v' := .int .i64 ((L : Int) - 1)) (V.subI (OV.p rfl) (OV.p rfl) (fun _ => by omega)) (fun _ => rfl)) rfl ?_
    rw [← hx]
    refine WL.sg rfl rfl ?_
    refine WL.nil ?_
    refine WC.block ?_
    refine WC.loop (σ := Nat × Nat) (fun y => [(10, ptr bw 0), (12, .slice (some ⟨gl, 0, none⟩) L cl), (13, .int .i64 ((decTo t c L p k).2 : Nat)), (37, .int .i64 (W.len : Nat)), (38, .int .i64 (k : Int)), (14, .int .i64 (k : Int)), (15, .int .i64 (x : Int)), (16, .int .i64 (y.2 : Int)), (17, .int .i64 ((y.1 : Int) - 1))]) (fun _ => U.parts bw ++ (Cells gl 3 (nats .i64 c ++ rl) :: F)) (fun y => y.1 ≤ L ∧ y.2 < 8192 ∧ evalC c x y.1 y.2 = evalC c x L 0) (fun y => y.1) (L, 0) ⟨Nat.le_refl _, by show 0 < 8192; decide, rfl⟩ (.cons rfl (.cons rfl (.cons rfl (.cons rfl (.cons rfl (.cons rfl (.cons rfl (.cons rfl (.cons rfl (.nil _)))))))))) (fun w h => h) ?_
    rintro ⟨j, v⟩ ⟨hj, hv, hev⟩
    dsimp only at hj hv hev ⊢
    refine WC.seq ?_
    refine WC.sr ?_
    refine WL.mv rfl rfl ?_
    refine WL.val (V.geq (OV.p rfl) (OV.p rfl)) rfl ?_
    refine WL.nil ?_
    refine WC.cond rfl (fun hc3 => ?_) (fun hc3 => ?_)
    ·simp only [decide_eq_true_eq, decide_eq_false_iff_not] at hc3
     obtain ⟨j', rfl⟩ : ∃ j', j = j' + 1 := ⟨j - 1, by omega⟩
     have hj1 : ((j' + 1 : Nat) : Int) - 1 = (j' : Int) := by omega
     rw [hj1]
     rw [evalC_code] at hev
     have hml2 := gmul_lt (b := x) hv
     have hcj := hcs.at_ (by decide) j'
     have hrc : Rd K (U.parts bw ++ (Cells gl 3 (nats .i64 c ++ rl) :: F)) (some ⟨gl, 0 + (j' : Int).toNat * 1, none⟩) (.int .i64 (c.getD j' 0 : Nat)) := by
       rw [show 0 + (j' : Int).toNat * 1 = j' by omega]
       exact Rd.up (Rd.up (Rd.up (Rd.here (nats_getA _ _ _ (by omega)))))
     refine WC.skip ?_
     refine WC.seq ?_
     refine WC.block ?_
     refine WC.regionQ (by kernel_rfl) (by kernel_rfl) ?_
     refine WQ.val (V.move (OV.p rfl)) rfl ?_
     refine WQ.val (V.move (OV.p rfl)) rfl ?_
     refine WQ.call (vs := [_, _]) Tryz.call169 ⟨OV.p rfl, OV.p rfl, trivial⟩ (bch_mul hv hx8) rfl ?_
     refine WQ.val (V.move (OV.p rfl)) rfl ?_
     refine WQ.val (V.move (OV.p rfl)) rfl ?_
     refine WQ.val (V.idxB st42 (OV.p rfl) (OV.p rfl) (fun hc => by omega)) rfl ?_
     refine WQ.val (V.load Tryz.isAgg3 (OV.p rfl) (fun hc => hrc)) rfl ?_
     refine WQ.val (V.val_eq (v' := .int .i64 ((gmul v x ^^^ c.getD j' 0 : Nat) : Int)) (V.xor (OV.p rfl) (OV.p rfl)) (fun _ => by rw [bits_xor (by omega) (by omega)])) rfl ?_
     refine WQ.val (V.assign (OV.p rfl)) rfl ?_
     refine WQ.nil ?_
     refine WC.region ?_
     refine WL.mv rfl rfl ?_
     refine WL.sb rfl rfl rfl ?_
     refine WL.sg rfl rfl ?_
     refine WL.nil ?_
     refine ⟨rfl, ?_⟩
     exact ⟨(j', gmul v x ^^^ c.getD j' 0), ⟨by show j' ≤ L; omega, xor_lt (k := 13) hml2 hcj, hev⟩, Nat.lt_succ_self _, .cons rfl (.cons rfl (.cons rfl (.cons rfl (.cons rfl (.cons rfl (.cons rfl (.cons rfl (.cons rfl (.nil _))))))))), fun w h => h⟩
    ·simp only [decide_eq_true_eq, decide_eq_false_iff_not] at hc3
     refine WC.exit ?_
     refine WC.seq ?_
     obtain rfl : j = 0 := by omega
     have hv2 : v = evalC c x L 0 := hev
     have hrt : rootAt c L k = decide (v = 0) := by unfold rootAt; rw [← hx, hv2]
     have hk1 : k < W.len := by omega
     refine WC.region ?_
     refine WL.mv rfl rfl ?_
     refine WL.val (V.eql (OV.p rfl) (OV.p rfl)) rfl ?_
     refine WL.nil ?_
     refine WC.cond rfl (fun hc4 => ?_) (fun hc4 => ?_)
     ·simp only [decide_eq_true_eq, decide_eq_false_iff_not] at hc4
      have h4 := hc4
      have hdk : decTo t c L p (k + 1) = (flip2 t (decTo t c L p k).1 k, (decTo t c L p k).2 + 1) := by rw [decTo, hrt, if_pos (decide_eq_true (show v = 0 by omega))]
      refine WC.sr ?_
      refine WL.mv rfl rfl ?_
      refine WL.mv rfl rfl ?_
      refine WL.call (vs := [_, _]) Tryz.call170 ⟨OV.p rfl, OV.p rfl, trivial⟩ (word_flip hVo (i := k) (by omega)) rfl ?_
      rintro v1 _ rfl
      refine WL.nil ?_
      refine WC.region ?_
      refine WL.mv rfl rfl ?_
      refine WL.ad rfl rfl rfl ?_
      refine WL.sg rfl rfl ?_
      refine WL.nil ?_
      refine WC.region ?_
      refine WL.ad rfl rfl rfl ?_
      refine WL.mv rfl rfl ?_
      refine WL.nil ?_
      refine ⟨rfl, ?_⟩
      first
      | exact ⟨k + 1, (by show k + 1 ≤ W.len; omega), (by show W.len - (k + 1) < W.len - k; omega), .cons rfl (.cons rfl (.cons (look_eq rfl (by rw [hdk]; simp only [Int.natCast_add]; rfl)) (.cons rfl (.cons (look_eq rfl (by simp)) (.nil _))))), fun w h => by dsimp only; rw [hdk]; dsimp only; rw [hV, Wd.flip_put, hWt] at h; exact h⟩
      | exact ⟨k + 1, (by show k + 1 ≤ W.len; omega), (by show W.len - (k + 1) < W.len - k; omega), .cons rfl (.cons rfl (.cons (look_eq rfl (by rw [hdk])) (.cons rfl (.cons (look_eq rfl (by simp)) (.nil _))))), fun w h => by dsimp only; rw [hdk, ← hV]; exact h⟩
     ·simp only [decide_eq_true_eq, decide_eq_false_iff_not] at hc4
      have h4 := hc4
      have hdk : decTo t c L p (k + 1) = decTo t c L p k := by rw [decTo, hrt, decide_eq_false (show ¬ v = 0 by omega)]; rfl
      refine WC.skip ?_
      refine WC.region ?_
      refine WL.ad rfl rfl rfl ?_
      refine WL.mv rfl rfl ?_
      refine WL.nil ?_
      refine ⟨rfl, ?_⟩
      first
      | exact ⟨k + 1, (by show k + 1 ≤ W.len; omega), (by show W.len - (k + 1) < W.len - k; omega), .cons rfl (.cons rfl (.cons (look_eq rfl (by rw [hdk]; simp only [Int.natCast_add]; rfl)) (.cons rfl (.cons (look_eq rfl (by simp)) (.nil _))))), fun w h => by dsimp only; rw [hdk]; dsimp only; rw [hV, Wd.flip_put, hWt] at h; exact h⟩
      | exact ⟨k + 1, (by show k + 1 ≤ W.len; omega), (by show W.len - (k + 1) < W.len - k; omega), .cons rfl (.cons rfl (.cons (look_eq rfl (by rw [hdk])) (.cons rfl (.cons (look_eq rfl (by simp)) (.nil _))))), fun w h => by dsimp only; rw [hdk, ← hV]; exact h⟩
   ·simp only [decide_eq_true_eq, decide_eq_false_iff_not] at hc2
    refine WC.exit ?_
    refine WC.seq ?_
    refine WC.seq ?_
    obtain rfl : k = W.len := by omega
    obtain ⟨r, hr⟩ : ∃ r, r = decTo t c L p W.len := ⟨_, rfl⟩
    rw [← hr] at hV hdl ⊢
    have hVd : U.d = r.1.1 := by rw [hV]; rfl
    have hVm : U.m = r.1.2 := by rw [hV]; rfl
    obtain ⟨bb, hbb⟩ : ∃ bb, bb = !decide ((r.2 : Int) = (L : Int) - 1) := ⟨_, rfl⟩
    refine WC.region ?_
    refine WL.mv rfl rfl ?_
    refine WL.mv rfl rfl ?_
    refine WL.val (V.len (t := 42) Tryz.runUnderlying42 (OV.p rfl)) rfl ?_
    refine WL.sb rfl rfl rfl ?_
    refine WL.val (V.val_eq (v' := .bool bb) (V.neq (OV.p rfl) (OV.p rfl)) (fun _ => by rw [hbb])) rfl ?_
    refine WL.val (V.move (OV.p rfl)) rfl ?_
    rcases Bool.eq_false_or_eq_true bb with hb | hb
    · subst hb
      have hne : ¬ r.2 + 1 = L := fun h => by
        have h6 : (r.2 : Int) = (L : Int) - 1 := by omega
        rw [decide_eq_true h6] at hbb
        cases hbb
      rw [if_pos hne]
      refine WL.skipG (oj := _) rfl rfl rfl rfl rfl (fun d hd => by injection hd with hd; subst hd; rfl) ?_
      refine WL.skipG (oj := _) rfl rfl rfl rfl rfl (fun d hd => by injection hd with hd; subst hd; rfl) ?_
      refine WL.skipG (oj := _) rfl rfl rfl rfl rfl (fun d hd => by injection hd with hd; subst hd; rfl) ?_
      refine WL.skipG (oj := _) rfl rfl rfl rfl rfl (fun d hd => by injection hd with hd; subst hd; rfl) ?_
      refine WL.skipG (oj := _) rfl rfl rfl rfl rfl (fun d hd => by injection hd with hd; subst hd; rfl) ?_
      refine WL.val (V.pickT (OV.p rfl) (OV.p rfl)) rfl ?_
      refine WL.nil ?_
      refine WC.condT' rfl rfl ?_
      refine WC.seq ?_
      refine WC.region ?_
      refine WL.val (V.assign (OV.p rfl)) rfl ?_
      refine WL.val (V.assign (OV.p rfl)) rfl ?_
      refine WL.val (V.assign (OV.p rfl)) rfl ?_
      refine WL.val (V.assign (OV.p rfl)) rfl ?_
      refine WL.nil ?_
      refine WC.ret ?_
      exact BodyQ.ret (H' := F) (Res.tmp4 rfl rfl rfl rfl rfl) (fun w h => h.sel 4 [] rfl) ⟨rfl, rfl⟩
    subst hb
    have hne : r.2 + 1 = L := by
      have h6 : (r.2 : Int) = (L : Int) - 1 := by
        rcases Decidable.em ((r.2 : Int) = (L : Int) - 1) with h | h
        · exact h
        · rw [decide_eq_false h] at hbb; cases hbb
      omega
    rw [if_neg (fun h => h hne)]
    refine WL.known (oj := _) rfl rfl rfl rfl ?_
    refine WL.mv rfl rfl ?_
    refine WL.known (oj := _) rfl rfl rfl rfl ?_
    refine WL.call (vs := [_]) Tryz.call166 ⟨OV.p rfl, trivial⟩ (word_sums' hVo) rfl ?_
    rintro _ _ ⟨gs2, rfl, rfl⟩
    rw [hVd, hVm, hVt]
    obtain ⟨s2, hs2⟩ : ∃ s2, s2 = sums2 t r.1 := ⟨_, rfl⟩
    have hss2 : Small 8192 s2 := by rw [hs2]; exact sumsW_small
    have hsl2 : s2.length = 2 * t := by rw [hs2]; exact sumsW_len
    rw [show sums2 t (r.1.1, r.1.2) = s2 from hs2.symm]
    refine WL.known (oj := _) rfl rfl rfl rfl ?_
    refine WL.call (vs := [_]) Tryz.call171 ⟨OV.p rfl, trivial⟩ (bch_nought (s := s2) (Seq.allN hsl2) hss2 (by omega)) rfl ?_
    rintro _ _ ⟨gn, rfl, rfl⟩
    refine WL.known (oj := _) rfl rfl rfl rfl ?_
    refine WL.call (vs := [_]) Tryz.call163 ⟨OV.p rfl, trivial⟩ (bits_Ones (xs := nozero s2) (Seq.allN (by simp [nozero]; exact hsl2)) (fun x hx => by obtain ⟨y, _, rfl⟩ := List.mem_map.1 hx; unfold nz; split <;> decide) (by omega)) rfl ?_
    rintro _ H0 ⟨rfl, h0⟩
    subst H0
    refine WL.known (oj := _) rfl rfl rfl rfl ?_
    refine WL.val (V.gtr (OV.p rfl) (OV.p rfl)) rfl ?_
    refine WL.val (V.pickOr (OV.p rfl) (OV.p rfl)) rfl ?_
    refine WL.nil ?_
    refine WC.cond rfl (fun hc5 => ?_) (fun hc5 => ?_)
    ·simp only [Bool.false_or, decide_eq_true_eq, decide_eq_false_iff_not] at hc5
     have h5 := hc5
     rw [if_pos (by omega)]
     refine WC.sr ?_
     refine WL.sg rfl rfl ?_
     refine WL.sg rfl rfl ?_
     refine WL.sg rfl rfl ?_
     refine WL.sg rfl rfl ?_
     refine WL.nil ?_
     refine WC.ret ?_
     exact BodyQ.ret (H' := F) (Res.tmp4 rfl rfl rfl rfl rfl) (fun w h => h.sel 6 [] rfl) ⟨rfl, rfl⟩
    ·simp only [Bool.false_or, decide_eq_true_eq, decide_eq_false_iff_not] at hc5
     have h5 := hc5
     rw [if_neg (by omega)]
     refine WC.skip ?_
     refine WC.seq ?_
     refine WC.regionQ (by kernel_rfl) (by kernel_rfl) ?_
     refine WQ.val (V.move (OV.p rfl)) rfl ?_
     refine WQ.val (V.nilCheck (OV.p rfl)) rfl ?_
     refine WQ.val (V.fieldAddr fo204_1 (OV.p rfl)) rfl ?_
     refine WQ.val (V.load Tryz.isAgg38 (OV.p rfl) (fun _ => by repeat (first | exact Rd.here rfl | apply Rd.up))) rfl ?_
     refine WQ.val (V.move (OV.p rfl)) rfl ?_
     refine WQ.val (V.nilCheck (OV.p rfl)) rfl ?_
     refine WQ.val (V.fieldAddr fo204_2 (OV.p rfl)) rfl ?_
     refine WQ.val (V.load Tryz.isAgg38 (OV.p rfl) (fun _ => by repeat (first | exact Rd.here rfl | apply Rd.up))) rfl ?_
     refine WQ.val (V.move (OV.p rfl)) rfl ?_
     refine WQ.val (V.assign (OV.p rfl)) rfl ?_
     refine WQ.val (V.assign (OV.p rfl)) rfl ?_
     refine WQ.val (V.assign (OV.p rfl)) rfl ?_
     refine WQ.val (V.assign (OV.p rfl)) rfl ?_
     refine WQ.nil ?_
     refine WC.ret ?_
     refine BodyQ.ret (H' := Cells U.g1 5 (nats .u8 r.1.1 ++ U.r1) :: Cells U.g2 5 (nats .u8 r.1.2 ++ U.r2) :: F) (Res.tmp4 rfl rfl rfl rfl rfl) (fun w h => ?_) ⟨U.g1, U.c1, U.r1, U.g2, U.c2, U.r2, ?_, ?_, ?_, rfl⟩
     · have h' := h.sel 6 [3, 4] rfl
       rw [← hVd, ← hVm]
       exact h'
     · rw [← hVd, hVc, hV]; exact hWc.1
     · rw [hr, (decTo_len t c L p W.len).2, ← hp2, hV]; exact hWc.2
     · rw [hVd, hVm]
end
end Go.Proofs.YtohkefolnmcjnaaGreat
namespace Go.Proofs.YtohkefolnmcjnaaGreat
open Go.Sl Go.RowKit
set_option linter.unusedVariables false
set_option linter.unusedSimpArgs false
set_option maxRecDepth 20000
abbrev NG (bl pg : Int) (S B t : Nat) : Geo := ⟨bl, pg, (S : Int), (B : Int), (t : Int)⟩
def rawN (S B t : Nat) : Nat := S * (B + moreLen t) + 1
structure NGood (S B t : Nat) : Prop where
  s : 1 ≤ S ∧ S ≤ 8
  b : 4 ≤ B ∧ B ≤ 512
  t : 1 ≤ t ∧ t ≤ 8
theorem NGood.of {bl pg : Int} {S B t : Nat} (h : (NG bl pg S B t).mays) : NGood S B t := by
  unfold Geo.mays at h
  dsimp only at h
  exact ⟨by omega, by omega, by omega⟩
theorem NG.whole {bl pg : Int} {S B t : Nat} : (NG bl pg S B t).whole = ((B + moreLen t : Nat) : Int) := by
  unfold Geo.whole Geo.more moreLen
  dsimp only
  omega
theorem NG.raw {bl pg : Int} {S B t : Nat} : (NG bl pg S B t).raw = ((rawN S B t : Nat) : Int) := by
  unfold Geo.raw rawN
  rw [NG.whole]
  dsimp only
  simp
theorem NG.room {bl pg : Int} {S B t : Nat} : (NG bl pg S B t).room = ((S * B : Nat) : Int) := by
  unfold Geo.room
  dsimp only
  rw [Int.natCast_mul]
def sect (B : Nat) (d : List Nat) (j : Nat) : List Nat := (d.drop (j * B)).take B
def pkTo (t B : Nat) (d : List Nat) : Nat → List Nat
  | 0 => []
  | j + 1 => (pkTo t B d j ++ sect B d j) ++ encB t (sect B d j)
def packF (t S B : Nat) (d : List Nat) : List Nat := pkTo t B d S ++ [0]
theorem Small.drop {b n : Nat} {xs : List Nat} (h : Small b xs) : Small b (xs.drop n) := fun y hy => h y (List.mem_of_mem_drop hy)
theorem sect_small {B : Nat} {d : List Nat} (h : Small 256 d) (j : Nat) : Small 256 (sect B d j) := Small.take (Small.drop h)
theorem sect_length {B j S : Nat} {d : List Nat} (h : d.length = S * B) (hj : j < S) : (sect B d j).length = B := by
  unfold sect
  rw [List.length_take, List.length_drop, h]
  have : (j + 1) * B ≤ S * B := Nat.mul_le_mul_right _ hj
  rw [Nat.succ_mul] at this
  omega
theorem pkTo_length {t B S : Nat} {d : List Nat} (ht : 1 ≤ t ∧ t ≤ 8) (h8 : Small 256 d) (h : d.length = S * B) : ∀ j, j ≤ S → (pkTo t B d j).length = j * (B + moreLen t)
  | 0, _ => by simp [pkTo]
  | j + 1, hj => by
    rw [pkTo, List.length_append, List.length_append, pkTo_length ht h8 h j (by omega), sect_length h (by omega), encB_length ht (sect_small h8 j), Nat.succ_mul]
    omega
theorem pkTo_small {t B : Nat} {d : List Nat} (ht : 1 ≤ t ∧ t ≤ 8) (h8 : Small 256 d) : ∀ j, Small 256 (pkTo t B d j)
  | 0 => fun x hx => by simp [pkTo] at hx
  | j + 1 => ((pkTo_small ht h8 j).append (sect_small h8 j)).append (encB_small ht (sect_small h8 j))
theorem packF_length {t B S : Nat} {d : List Nat} (ht : 1 ≤ t ∧ t ≤ 8) (h8 : Small 256 d) (h : d.length = S * B) : (packF t S B d).length = rawN S B t := by
  unfold packF rawN
  rw [List.length_append, pkTo_length ht h8 h S (Nat.le_refl _)]; rfl
theorem packF_small {t B S : Nat} {d : List Nat} (ht : 1 ≤ t ∧ t ≤ 8) (h8 : Small 256 d) : Small 256 (packF t S B d) := (pkTo_small ht h8 S).append (fun x hx => by rw [List.mem_singleton.1 hx]; decide)
theorem _root_.Go.Sl.Seq.dropS {K : World} {H : List Assn} {A : Option Addr} {m l u : Nat} {vs : List Value} (hs : Seq K H A m 1 vs) (hl : l ≤ m) (hu : m ≤ u) : Seq K H (if u = l then A else A.map (·.add (l * 1))) (m - l) 1 (vs.drop l) := by
  have hlen := hs.len
  refine ⟨by rw [List.length_drop]; omega, fun i v hi => ?_⟩
  rw [List.getElem?_drop] at hi
  have hil : l + i < vs.length := (List.getElem?_eq_some_iff.1 hi).1
  rw [if_neg (by omega)]
  have := hs.rd (l + i) v hi
  intro w hw
  obtain ⟨a, h1, h2⟩ := this w hw
  cases A with
  | none => simp at h1
  | some a' =>
    refine ⟨_, rfl, ?_⟩
    simp only [Option.map_some, Option.some.injEq] at h1
    rw [← h1] at h2
    have h3 : ((a'.add (l * 1)).add i) = a'.add (l + i) := by rw [Nat.mul_one]; rcases Nat.eq_zero_or_pos l with h | h; · { subst h; rw [Nat.zero_add]; rfl }; · { rcases Nat.eq_zero_or_pos i with h' | h'; · { subst h'; rfl }; · { unfold Addr.add; rw [if_neg (by omega), if_neg (by omega), if_neg (by omega), Nat.add_assoc] } }
    show w.cell? ((a'.add (l * 1)).add i) = some v
    rw [h3]
    exact h2
section
variable {K : World} {F : List Assn}
theorem ecc_Room (g : Geo) : Tells Tryz.prog 73 #[g.v] K F (.tuple (if g.may then #[.int .i64 g.room, .int .i64 0] else #[.int .i64 0, .int .i64 1])) := by
  refine Does.enter Tryz.func73 rfl Tryz.ntmps73 rfl ?_
  simp only [env0, Nat.reduceAdd]
  refine WC.sr ?_
  refine WL.box (cs := [_, _, _, _, _]) (OV.p rfl) rfl rfl (fun b1 => ?_)
  refine WL.sg rfl rfl ?_
  refine WL.sg rfl rfl ?_
  refine WL.nil ?_
  refine WC.seq ?_
  refine WC.sr ?_
  refine WL.val (V.loadA (vs := [_, _, _, _, _]) ⟨Tryz.isAgg23, Tryz.sizeOf23⟩ (OV.p rfl) rfl (fun _ => by repeat (first | exact Rds.gets ⟨rfl, rfl, rfl, rfl, rfl, trivial⟩ | apply Rds.up))) rfl ?_
  refine WL.call (vs := [_]) Tryz.call102 ⟨OV.p rfl, trivial⟩ (ecc_Check g _ _) rfl ?_
  rintro _ H0 ⟨rfl, h0⟩
  subst H0
  refine WL.sg rfl rfl ?_
  refine WL.nil ?_
  refine WC.sr ?_
  refine WL.mv rfl rfl ?_
  refine WL.val (V.neq (OV.p rfl) (OV.p rfl)) rfl ?_
  refine WL.nil ?_
  refine WC.cond rfl (fun hc0 => ?_) (fun hc0 => ?_)
  ·skip
   have hm : g.may = false := by cases h : g.may <;> simp [h] at hc0 ⊢
   refine WC.sr ?_
   refine WL.mv rfl rfl ?_
   refine WL.sg rfl rfl ?_
   refine WL.sg rfl rfl ?_
   refine WL.nil ?_
   refine WC.ret ?_
   rw [hm]
   exact BodyQ.ret (H' := F) (Res.tmp2 rfl rfl rfl) (fun w h => h.drop 1) ⟨rfl, rfl⟩
  ·skip
   have hm : g.may = true := by cases h : g.may <;> simp [h] at hc0 ⊢
   have hb := Geo.mays_of hm
   have hr := Geo.mul_bd (a := g.se) (b := g.sb) (A := 8) (B := 512) (by unfold Geo.mays at hb; omega) (by unfold Geo.mays at hb; omega) (by unfold Geo.mays at hb; omega) (by unfold Geo.mays at hb; omega)
   refine WC.skip ?_
   refine WC.sr ?_
   refine WL.val (V.fieldAddr fo23_2 (OV.p rfl)) rfl ?_
   refine WL.ld Tryz.isAgg3 rfl rfl ?_
   refine WL.val (V.fieldAddr fo23_3 (OV.p rfl)) rfl ?_
   refine WL.ld Tryz.isAgg3 rfl rfl ?_
   refine WL.val (V.mulI (OV.p rfl) (OV.p rfl) (fun hc => by omega)) rfl ?_
   refine WL.sg rfl rfl ?_
   refine WL.sg rfl rfl ?_
   refine WL.nil ?_
   refine WC.ret ?_
   refine BodyQ.ret (H' := F) (Res.tmp2 rfl rfl rfl) (fun w h => h.drop 1) ⟨?_, rfl⟩
   rw [hm]; rfl
theorem ecc_Pack {bl pg : Int} {S B t : Nat} {A : Option Addr} {m cap : Nat} {d : List Nat} (hg : (NG bl pg S B t).mays) (hd : Seq K F A m 1 (nats .u8 d)) (h8 : Small 256 d) (hm : m = S * B) (hmc : m ≤ cap) :
    Does Tryz.prog 75 #[(NG bl pg S B t).v, .slice A m cap] K F
      (fun v H' => ∃ A' cap', v = .tuple #[.slice A' (rawN S B t) cap', .int .i64 0] ∧ H' = SlA (.slice A' (rawN S B t) cap') 5 1 (rawN S B t) (nats .u8 (packF t S B d)) :: F) := by
  have hl : d.length = m := by simpa [nats] using hd.len
  have hmay : (NG bl pg S B t).may = true := decide_eq_true hg
  have hN := NGood.of hg
  obtain ⟨hs, hb, ht⟩ := hN
  have hmore : 2 ≤ moreLen t ∧ moreLen t ≤ 13 := by unfold moreLen; omega
  have hmle : m ≤ 4096 := by rw [hm]; exact Nat.mul_le_mul hs.2 hb.2
  have hm1 : 1 * 4 ≤ m := by rw [hm]; exact Nat.mul_le_mul hs.1 hb.1
  refine Does.enter Tryz.func75 rfl Tryz.ntmps75 rfl ?_
  simp only [env0, Nat.reduceAdd]
  refine WC.sr ?_
  refine WL.box (cs := [_, _, _, _, _]) (OV.p rfl) rfl rfl (fun b2 => ?_)
  refine WL.sg rfl rfl ?_
  refine WL.sg rfl rfl ?_
  refine WL.nil ?_
  refine WC.sr ?_
  refine WL.val (V.loadA (vs := [_, _, _, _, _]) ⟨Tryz.isAgg23, Tryz.sizeOf23⟩ (OV.p rfl) rfl (fun _ => by repeat (first | exact Rds.gets ⟨rfl, rfl, rfl, rfl, rfl, trivial⟩ | apply Rds.up))) rfl ?_
  refine WL.call (vs := [_]) Tryz.call73 ⟨OV.p rfl, trivial⟩ (Tells.eq (v' := .tuple #[.int .i64 (m : Int), .int .i64 0]) (ecc_Room (NG bl pg S B t)) (by rw [hmay, NG.room, hm]; rfl)) rfl ?_
  rintro _ H0 ⟨rfl, h0⟩
  subst H0
  refine WL.mv rfl rfl ?_
  refine WL.xt rfl rfl rfl ?_
  refine WL.xt rfl rfl rfl ?_
  refine WL.sg rfl rfl ?_
  refine WL.sg rfl rfl ?_
  refine WL.nil ?_
  refine WC.seq ?_
  refine WC.sr ?_
  refine WL.mv rfl rfl ?_
  refine WL.val (V.neq (OV.p rfl) (OV.p rfl)) rfl ?_
  refine WL.mv rfl rfl ?_
  refine WL.valG (oj := _) rfl rfl rfl GC.f (V.move (OV.p rfl)) rfl ?_
  refine WL.valG (oj := _) rfl rfl rfl GC.f (V.len (t := 38) Tryz.runUnderlying38 (OV.g rfl id)) rfl ?_
  refine WL.valG (oj := _) rfl rfl rfl GC.f (V.move (OV.p rfl)) rfl ?_
  refine WL.valG (oj := _) rfl rfl rfl GC.f (V.neq (OV.g rfl id) (OV.g rfl id)) rfl ?_
  refine WL.val (V.pickOr (OV.p rfl) (OV.g rfl id)) rfl ?_
  refine WL.nil ?_
  refine WC.condF' rfl (by first | rfl | (simp; done) | (simp; omega)) ?_
  refine WC.skip ?_
  refine WC.sr ?_
  refine WL.sg rfl rfl ?_
  refine WL.nil ?_
  refine WC.seq ?_
  refine WC.block ?_
  refine WC.loop (σ := Nat × Option Addr × Nat × Option Addr × Nat) (fun x => [(1, .slice x.2.1 (m - x.1 * B) x.2.2.1), (2, ptr b2 0), (8, .slice x.2.2.2.1 (x.1 * (B + moreLen t)) x.2.2.2.2)]) (fun x => SlA (.slice x.2.2.2.1 (x.1 * (B + moreLen t)) x.2.2.2.2) 5 1 (x.1 * (B + moreLen t)) (nats .u8 (pkTo t B d x.1)) :: Cells b2 23 [.int .i64 bl, .int .i64 pg, .int .i64 (S : Int), .int .i64 (B : Int), .int .i64 (t : Int)] :: F) (fun x => x.1 ≤ S ∧ m - x.1 * B ≤ x.2.2.1 ∧ Seq K F x.2.1 (m - x.1 * B) 1 (nats .u8 (d.drop (x.1 * B)))) (fun x => S - x.1) (0, A, cap, none, 0) ⟨Nat.zero_le _, by show m - 0 * B ≤ cap; omega, by simpa using hd⟩ (.cons (look_eq rfl (by simp)) (.cons rfl (.cons (look_eq rfl (by simp)) (.nil _)))) (fun w h => by simpa [pkTo, nats] using Sat.slNil h 5 1) ?_
  rintro ⟨j, Aj, cj, Ao, co⟩ ⟨hj, hjc, hjs⟩
  dsimp only at hj hjc hjs ⊢
  have hjB : j * B ≤ m := by rw [hm]; exact Nat.mul_le_mul_right _ hj
  have hpl := pkTo_length ht h8 (hl.trans hm) j hj
  refine WC.seq ?_
  refine WC.sr ?_
  refine WL.mv rfl rfl ?_
  refine WL.val (V.len (t := 38) Tryz.runUnderlying38 (OV.p rfl)) rfl ?_
  refine WL.val (V.gtr (OV.p rfl) (OV.p rfl)) rfl ?_
  refine WL.nil ?_
  refine WC.cond rfl (fun hc1 => ?_) (fun hc1 => ?_)
  ·simp only [decide_eq_true_eq, decide_eq_false_iff_not] at hc1
   have hjS : j < S := by
     rcases Nat.lt_or_ge j S with h | h
     · exact h
     · exfalso
       have : j = S := by omega
       rw [this, ← hm] at hc1
       omega
   have hj1 : (j + 1) * B ≤ m := by rw [hm]; exact Nat.mul_le_mul_right _ hjS
   rw [Nat.succ_mul] at hj1
   have hsl := sect_length (hl.trans hm) hjS
   have hsq : Seq K F Aj B 1 (nats .u8 (sect B d j)) := by
     have h1 := Seq.take hjs (show B ≤ m - j * B by omega)
     rw [nats_take] at h1; exact h1
   refine WC.skip ?_
   refine WC.seq ?_
   refine WC.block ?_
   refine WC.sr ?_
   refine WL.mv rfl rfl ?_
   refine WL.val (V.fieldAddr fo23_3 (OV.p rfl)) rfl ?_
   refine WL.ld Tryz.isAgg3 rfl rfl ?_
   refine WL.val (V.fieldAddr fo23_3 (OV.p rfl)) rfl ?_
   refine WL.ld Tryz.isAgg3 rfl rfl ?_
   refine WL.val (V.val_eq (v' := .slice Aj B B) (V.slice (l := 0) (h := B) (u := B) st38 (OV.p rfl) OO.none (OO.some (OV.p rfl) (fun _ => rfl)) (OO.some (OV.p rfl) (fun _ => rfl)) (by simp) (Nat.zero_le _) (Nat.le_refl _) (by omega)) (fun _ => by rw [show (B - 0 : Nat) = B from rfl]; cases Aj <;> simp [Addr.add])) rfl ?_
   refine WL.sg rfl rfl ?_
   refine WL.nil ?_
   refine WC.sr ?_
   refine WL.val (V.fieldAddr fo23_4 (OV.p rfl)) rfl ?_
   refine WL.ld Tryz.isAgg3 rfl rfl ?_
   refine WL.mv rfl rfl ?_
   refine WL.call (vs := [_, _]) Tryz.call113 ⟨OV.p rfl, OV.p rfl, trivial⟩ (bch_Encode ht (hsq.up.up) (sect_small h8 j) (by omega)) rfl ?_
   rintro _ _ ⟨Ae, ce, rfl, rfl⟩
   refine WL.mv rfl rfl ?_
   refine WL.xt rfl rfl rfl ?_
   refine WL.xt rfl rfl rfl ?_
   refine WL.sg rfl rfl ?_
   refine WL.sg rfl rfl ?_
   refine WL.nil ?_
   refine WC.region ?_
   refine WL.mv rfl rfl ?_
   refine WL.mv rfl rfl ?_
   refine WL.sub (Sub.refl _) (fun w h => h.p1) ?_
   refine WL.append (m := j * (B + moreLen t)) (q := B) Tryz.underlying38 el5 (OV.p rfl) (OV.p rfl) (by repeat (first | exact hsq | apply Seq.up)) (nats_one _ _) (by have := Nat.mul_le_mul hj (show B + moreLen t ≤ 525 by omega); omega) rfl rfl (fun A3 c3 hA3 hc3 => ?_)
   refine WL.mv rfl rfl ?_
   refine WL.append (m := j * (B + moreLen t) + B) (q := moreLen t) (news := nats .u8 (encB t (sect B d j))) Tryz.underlying38 el5 (OV.p rfl) (OV.p rfl) (SlA.seq (by rw [nats_length, encB_length ht (sect_small h8 j), Nat.mul_one])) (nats_one _ _) (by have := Nat.mul_le_mul hj (show B + moreLen t ≤ 525 by omega); omega) rfl rfl (fun A4 c4 hA4 hc4 => ?_)
   refine WL.sg rfl rfl ?_
   refine WL.nil ?_
   refine WC.region ?_
   refine WL.mv rfl rfl ?_
   refine WL.val (V.fieldAddr fo23_3 (OV.p rfl)) rfl ?_
   refine WL.ld Tryz.isAgg3 rfl rfl ?_
   refine WL.val (V.slice (l := B) (h := m - j * B) (u := cj) st38 (OV.p rfl) (OO.some (OV.p rfl) (fun _ => rfl)) OO.none OO.none (by simp) (by omega) (by omega) (Nat.le_refl _)) rfl ?_
   refine WL.sg rfl rfl ?_
   refine WL.nil ?_
   refine ⟨rfl, ?_⟩
   refine ⟨(j + 1, (if cj = B then Aj else Aj.map (·.add (B * 1))), cj - B, A4, c4), ⟨hjS, by show m - (j + 1) * B ≤ cj - B; rw [Nat.succ_mul]; omega, ?_⟩, (by show S - (j + 1) < S - j; omega), .cons (look_eq rfl (by dsimp only; rw [Nat.succ_mul, Nat.sub_sub])) (.cons rfl (.cons (look_eq rfl (by dsimp only; rw [Nat.succ_mul, Nat.add_assoc])) (.nil _))), fun w h => ?_⟩
   · have h1 := Seq.dropS hjs (show B ≤ m - j * B by omega) hjc
     rw [nats_drop, List.drop_drop, Nat.sub_sub] at h1
     dsimp only
     rw [Nat.succ_mul]
     exact h1
   · dsimp only
     rw [Nat.succ_mul, ← Nat.add_assoc, pkTo, nats_append, nats_append]
     exact h.sel 3 [0, 2] rfl
  ·simp only [decide_eq_true_eq, decide_eq_false_iff_not] at hc1
   refine WC.exit ?_
   refine WC.sr ?_
   refine WL.mv rfl rfl ?_
   refine WL.buildSlice (E := 5) (cs := [_]) (vs := [(0, _)]) ⟨OV.p rfl, trivial⟩ rfl (bsl38_1_0 _) rfl (fun b51 => ?_)
   obtain rfl : j = S := by
     rcases Nat.lt_or_ge j S with h | h
     · exfalso
       have hj1 : (j + 1) * B ≤ m := by rw [hm]; exact Nat.mul_le_mul_right _ h
       rw [Nat.succ_mul] at hj1
       omega
     · omega
   refine WL.sub (Sub.refl _) (fun w h => h.p1) ?_
   refine WL.append (m := j * (B + moreLen t)) (q := 1) (news := [.int .u8 0]) Tryz.underlying38 el5 (OV.p rfl) (OV.p rfl) (Seq.all rfl) (by intro u hu; rw [List.mem_singleton.1 hu]; rfl) (by have := Nat.mul_le_mul hj (show B + moreLen t ≤ 525 by omega); omega) rfl rfl (fun A5 c5 hA5 hc5 => ?_)
   refine WL.sg rfl rfl ?_
   refine WL.sg rfl rfl ?_
   refine WL.nil ?_
   refine WC.ret ?_
   refine BodyQ.ret (H' := SlA (.slice A5 (rawN j B t) c5) 5 1 (rawN j B t) (nats .u8 (packF t j B d)) :: F) (Res.tmp2 rfl rfl rfl) (fun w h => ?_) ⟨A5, c5, rfl, rfl⟩
   have h' := h.sel 3 [0] rfl
   unfold packF rawN
   rw [nats_append]
   exact h'
end
end Go.Proofs.YtohkefolnmcjnaaGreat
namespace Go.Proofs.YtohkefolnmcjnaaGreat
open Go.Sl Go.RowKit
set_option linter.unusedVariables false
set_option linter.unusedSimpArgs false
set_option maxRecDepth 20000
theorem xor4 (a b c d : Nat) : (a ^^^ b) ^^^ (c ^^^ d) = (a ^^^ c) ^^^ (b ^^^ d) := by
  rw [Nat.xor_assoc, Nat.xor_assoc, ← Nat.xor_assoc b, ← Nat.xor_assoc c, Nat.xor_comm b c]
theorem red_bit {a : Nat} (h : a < 8192) : red (2 * a) = 2 * a ^^^ (if a.testBit 12 = true then 8219 else 0) := by
  have h1 : a.testBit 12 = decide (8192 ≤ 2 * a) := by
    rw [Nat.testBit_eq_decide_div_mod_eq]
    apply decide_eq_decide.2
    omega
  unfold red
  rw [h1]
  by_cases h2 : 8192 ≤ 2 * a
  · simp [h2]
  · simp [h2]
theorem two_xor (a b : Nat) : 2 * (a ^^^ b) = 2 * a ^^^ 2 * b := by
  apply Nat.eq_of_testBit_eq
  intro i
  rw [Nat.testBit_xor, Nat.mul_comm 2, Nat.mul_comm 2, Nat.mul_comm 2, ← Nat.pow_one 2]
  rw [testBit_mul_pow, testBit_mul_pow, testBit_mul_pow, Nat.testBit_xor]
  cases decide (1 ≤ i) <;> simp
theorem red_xor {a b : Nat} (ha : a < 8192) (hb : b < 8192) : red (2 * (a ^^^ b)) = red (2 * a) ^^^ red (2 * b) := by
  rw [red_bit ha, red_bit hb, red_bit (xor_lt (k := 13) ha hb), two_xor, xor4, Nat.testBit_xor]
  congr 1
  cases a.testBit 12 <;> cases b.testBit 12 <;> simp
theorem gmulF_xor : ∀ (k o1 o2 a1 a2 b : Nat), a1 < 8192 → a2 < 8192 → gmulF k (o1 ^^^ o2) (a1 ^^^ a2) b = gmulF k o1 a1 b ^^^ gmulF k o2 a2 b
  | 0, _, _, _, _, _, _, _ => rfl
  | k + 1, o1, o2, a1, a2, b, h1, h2 => by
    rw [gmulF, gmulF, gmulF]
    by_cases hb : b = 0
    · rw [if_pos hb, if_pos hb, if_pos hb]
    · rw [if_neg hb, if_neg hb, if_neg hb, red_xor h1 h2]
      by_cases h3 : b % 2 = 1
      · rw [if_pos h3, if_pos h3, if_pos h3, xor4]
        exact gmulF_xor k _ _ _ _ _ (red_lt h1) (red_lt h2)
      · rw [if_neg h3, if_neg h3, if_neg h3]
        exact gmulF_xor k _ _ _ _ _ (red_lt h1) (red_lt h2)
theorem gmul_xor {a b : Nat} (x : Nat) (ha : a < 8192) (hb : b < 8192) : gmul (a ^^^ b) x = gmul a x ^^^ gmul b x := by
  have h := gmulF_xor 13 0 0 a b x ha hb
  rwa [Nat.xor_self] at h
theorem gmul_zero (x : Nat) : gmul 0 x = 0 := by
  have h := gmul_xor (a := 0) (b := 0) x (by decide) (by decide)
  rwa [Nat.xor_self, Nat.xor_self] at h
def it (x : Nat) : Nat → Nat → Nat
  | 0, v => v
  | n + 1, v => it x n (gmul v x)
theorem it_lt {x : Nat} : ∀ (n v : Nat), v < 8192 → it x n v < 8192
  | 0, v, h => h
  | n + 1, v, h => it_lt n _ (gmul_lt h)
theorem it_xor {x : Nat} : ∀ (n v u : Nat), v < 8192 → u < 8192 → it x n (v ^^^ u) = it x n v ^^^ it x n u
  | 0, _, _, _, _ => rfl
  | n + 1, v, u, h1, h2 => by
    rw [it, it, it, gmul_xor x h1 h2]
    exact it_xor n _ _ (gmul_lt h1) (gmul_lt h2)
theorem it_zero (x : Nat) : ∀ n, it x n 0 = 0
  | 0 => rfl
  | n + 1 => by rw [it, gmul_zero]; exact it_zero x n
theorem it_add (x : Nat) : ∀ (m n v : Nat), it x (m + n) v = it x n (it x m v)
  | 0, n, v => by rw [Nat.zero_add]; rfl
  | m + 1, n, v => by rw [Nat.succ_add_eq_add_succ, Nat.add_succ, it, it]; exact it_add x m n _
def ev (x : Nat) (f : Nat → Bool) : Nat → Nat
  | 0 => 0
  | n + 1 => it x n (bit1 (f n)) ^^^ ev x f n
theorem bit1_lt (b : Bool) : bit1 b < 8192 := by cases b <;> decide
theorem ev_lt {x : Nat} {f : Nat → Bool} : ∀ n, ev x f n < 8192
  | 0 => (by decide : 0 < 8192)
  | n + 1 => xor_lt (k := 13) (it_lt _ _ (bit1_lt _)) (ev_lt n)
theorem hor_ev {x : Nat} {f : Nat → Bool} : ∀ (n v : Nat), v < 8192 → hor f x n v = it x n v ^^^ ev x f n
  | 0, v, _ => by rw [hor, it, ev, Nat.xor_zero]
  | n + 1, v, h => by
    rw [hor, hor_ev n _ (xor_lt (k := 13) (gmul_lt h) (bit1_lt _)), it_xor n _ _ (gmul_lt h) (bit1_lt _), it, ev, Nat.xor_assoc]
theorem ev_congr {x : Nat} {f g : Nat → Bool} : ∀ n, (∀ i, i < n → f i = g i) → ev x f n = ev x g n
  | 0, _ => rfl
  | n + 1, h => by rw [ev, ev, h n (Nat.lt_succ_self _), ev_congr n (fun i hi => h i (Nat.lt_succ_of_lt hi))]
theorem ev_xor {x : Nat} {f g : Nat → Bool} : ∀ n, ev x (fun i => f i ^^ g i) n = ev x f n ^^^ ev x g n
  | 0 => (Nat.xor_self 0).symm
  | n + 1 => by
    have h : bit1 (f n ^^ g n) = bit1 (f n) ^^^ bit1 (g n) := by cases f n <;> cases g n <;> rfl
    rw [ev, ev, ev, ev_xor n, h, it_xor _ _ _ (bit1_lt _) (bit1_lt _), xor4]
theorem ev_ext {x : Nat} {f : Nat → Bool} {n : Nat} (h : ∀ i, n ≤ i → f i = false) : ∀ m, ev x f (n + m) = ev x f n
  | 0 => rfl
  | m + 1 => by
    rw [Nat.add_succ, ev, h _ (Nat.le_add_right _ _), show bit1 false = 0 from rfl, it_zero, Nat.zero_xor, ev_ext h m]
theorem ev_ext' {x : Nat} {f : Nat → Bool} {n m : Nat} (h : ∀ i, n ≤ i → f i = false) (hm : n ≤ m) : ev x f m = ev x f n := by
  have := ev_ext (x := x) h (m - n)
  rwa [Nat.add_sub_cancel' hm] at this
theorem ev_none {x : Nat} {f : Nat → Bool} : ∀ n, (∀ i, i < n → f i = false) → ev x f n = 0
  | 0, _ => rfl
  | n + 1, h => by rw [ev, h n (Nat.lt_succ_self _), show bit1 false = 0 from rfl, it_zero, Nat.zero_xor, ev_none n (fun i hi => h i (Nat.lt_succ_of_lt hi))]
theorem ev_shift {x m : Nat} {f : Nat → Bool} : ∀ n, ev x (fun i => decide (m ≤ i) && f (i - m)) (n + m) = it x m (ev x f n)
  | 0 => by
    rw [Nat.zero_add, ev_none m (fun i hi => by rw [decide_eq_false (by omega)]; rfl), ev, it_zero]
  | n + 1 => by
    rw [Nat.succ_add, ev, ev, it_xor _ _ _ (it_lt _ _ (bit1_lt _)) (ev_lt _), ev_shift n, decide_eq_true (by omega), Bool.true_and, Nat.add_sub_cancel, it_add]
theorem ev_shift' {x m n N : Nat} {f : Nat → Bool} (hf : ∀ i, n ≤ i → f i = false) (hN : n + m ≤ N) : ev x (fun i => decide (m ≤ i) && f (i - m)) N = it x m (ev x f n) := by
  rw [← ev_shift n]
  refine ev_ext' (fun i hi => ?_) hN
  rw [hf _ (by omega), Bool.and_false]
theorem ev_addTo {x at_ : Nat} {out p : List Nat} (ho : Small 256 out) (hp : Small 256 p) (hl : p.length + at_ / 8 < out.length) :
    ev x (bitAt (addTo out p at_ p.length)) (8 * out.length) = ev x (bitAt out) (8 * out.length) ^^^ it x at_ (ev x (bitAt p) (8 * p.length)) := by
  rw [← ev_shift' (x := x) (m := at_) (N := 8 * out.length) (fun i hi => bitAt_none hi) (by omega), ← ev_xor]
  refine ev_congr _ (fun i _ => ?_)
  rw [bitAt_addTo ho hp _ hl]
  congr 1
  by_cases h : i - at_ < 8 * p.length
  · rw [decide_eq_true h, Bool.and_true]
  · rw [decide_eq_false h, Bool.and_false, Bool.false_and, bitAt_none (by omega), Bool.and_false]
theorem ev_mod {x lq d : Nat} {p q : List Nat} (hp : Small 256 p) (hq : Small 256 q) (hlq : q.length = lq) (hld : lq = d / 8 + 1) (hx : ev x (bitAt q) (8 * q.length) = 0) : ∀ k, k ≤ 8 * p.length - d →
    ev x (bitAt (bmodTo p q lq d k)) (8 * (p.length + 1)) = ev x (bitAt p) (8 * p.length)
  | 0, _ => by
    rw [bmodTo]
    have h1 : ∀ i, bitAt (p ++ [0]) i = bitAt p i := fun i => by
      unfold bitAt
      congr 1
      by_cases h : i / 8 < p.length
      · simp [List.getD, List.getElem?_append_left h]
      · simp only [List.getD]
        rw [List.getElem?_append_right (by omega), List.getElem?_eq_none (by omega : p.length ≤ i / 8)]
        rcases Nat.eq_zero_or_pos (i / 8 - p.length) with h2 | h2
        · rw [h2]; rfl
        · rw [List.getElem?_eq_none (by simp; omega)]
    rw [ev_congr _ (fun i _ => h1 i)]
    exact ev_ext' (fun i hi => bitAt_none hi) (by omega)
  | k + 1, hk => by
    have ih := ev_mod hp hq hlq hld hx k (by omega)
    rw [bmodTo]
    split
    · have h := ev_addTo (x := x) (at_ := 8 * p.length - 1 - k - d) (bmodTo_small (lq := lq) (d := d) hp hq k) hq (by rw [bmodTo_length, hlq]; omega)
      rw [bmodTo_length, hx, it_zero, Nat.xor_zero, ih, hlq] at h
      exact h
    · exact ih
theorem normLen_zero {xs : List Nat} : ∀ n j, normLen xs n ≤ j → j < n → xs.getD j 0 = 0
  | 0, _, _, h => absurd h (Nat.not_lt_zero _)
  | n + 1, j, h1, h2 => by
    rw [normLen] at h1
    split at h1
    · rename_i h3
      rcases Nat.lt_or_ge j n with h | h
      · exact normLen_zero n j h1 h
      · have : j = n := by omega
        subst this; exact h3
    · omega
theorem bitAt_norm {xs : List Nat} {n : Nat} (hn : n = xs.length) (k : Nat) : bitAt (xs.take (normLen xs n)) k = bitAt xs k := by
  unfold bitAt
  congr 1
  by_cases h : k / 8 < normLen xs n
  · simp [List.getD, List.getElem?_take, h]
  · have h0 : (xs.take (normLen xs n)).getD (k / 8) 0 = 0 := by simp [List.getD, List.getElem?_take, h]
    rw [h0]
    by_cases h2 : k / 8 < n
    · exact (normLen_zero n _ (by omega) h2).symm
    · rw [List.getD, List.getElem?_eq_none (by omega)]; rfl
theorem bitAt_zeros (n k : Nat) : bitAt (List.replicate n 0) k = false := by
  unfold bitAt
  by_cases h : k / 8 < n
  · simp [List.getD, List.getElem?_replicate, h]
  · simp [List.getD, List.getElem?_replicate, h]
theorem bitAt_appZ (xs : List Nat) (n k : Nat) : bitAt (xs ++ List.replicate n 0) k = bitAt xs k := by
  unfold bitAt
  congr 1
  by_cases h : k / 8 < xs.length
  · simp [List.getD, List.getElem?_append_left h]
  · have h0 : xs.getD (k / 8) 0 = 0 := by rw [List.getD, List.getElem?_eq_none (by omega)]; rfl
    rw [h0, List.getD, List.getElem?_append_right (by omega), List.getElem?_replicate]
    split <;> rfl
theorem shiftB_bit (t i : Nat) : bitAt (shiftB t) i = decide (i = 13 * t) := by
  unfold bitAt shiftB
  rw [getD_set, List.length_replicate]
  have hm : 13 * t / 8 < moreLen t + 1 := by unfold moreLen; omega
  by_cases h : 13 * t / 8 = i / 8
  · rw [if_pos ⟨h, by omega⟩, Nat.testBit_two_pow]
    apply decide_eq_decide.2
    omega
  · rw [if_neg (by omega)]
    have h0 : (List.replicate (moreLen t + 1) 0).getD (i / 8) 0 = 0 := by
      by_cases h : i / 8 < moreLen t + 1 <;> simp [List.getD, List.getElem?_replicate, h]
    rw [h0, Nat.zero_testBit, decide_eq_false (by omega)]
theorem shift_mul {t : Nat} {d : List Nat} : ∀ i, bmulTo (shiftB t) d i = if i ≤ 13 * t then List.replicate ((shiftB t).length + d.length + 1) 0 else addTo (List.replicate ((shiftB t).length + d.length + 1) 0) d (13 * t) d.length
  | 0 => by rw [bmulTo, if_pos (Nat.zero_le _)]
  | i + 1 => by
    rw [bmulTo, shift_mul i, shiftB_bit]
    by_cases h : i = 13 * t
    · rw [decide_eq_true h, if_pos rfl, if_pos (by omega), if_neg (by omega), h]
    · rw [decide_eq_false h]
      by_cases h2 : i ≤ 13 * t
      · rw [if_neg Bool.false_ne_true, if_pos h2, if_pos (by omega)]
      · rw [if_neg Bool.false_ne_true, if_neg h2, if_neg (by omega)]
def genRootOk (t : Nat) : Bool := (List.range (2 * t)).all fun k => decide (hor (bitAt (genB t)) (gexp ((k + 1 : Nat) : Int)) (8 * (genB t).length) 0 = 0)
theorem gen_roots : [1, 2, 3, 4, 5, 6, 7, 8].all genRootOk = true := by kernel_rfl
theorem gen_root {t k : Nat} (ht : 1 ≤ t ∧ t ≤ 8) (hk : k < 2 * t) : ev (gexp ((k + 1 : Nat) : Int)) (bitAt (genB t)) (8 * (genB t).length) = 0 := by
  have h := List.all_eq_true.1 gen_roots t (by simp only [List.mem_cons, List.not_mem_nil, or_false]; omega)
  have h1 := of_decide_eq_true (List.all_eq_true.1 h k (List.mem_range.2 hk))
  rw [hor_ev _ _ (by decide), it_zero, Nat.zero_xor] at h1
  exact h1
theorem shift_full (t : Nat) (d : List Nat) : bmulF (shiftB t) d = addTo (List.replicate ((shiftB t).length + d.length + 1) 0) d (13 * t) d.length := by
  unfold bmulF
  rw [shift_mul, if_neg]
  rw [shiftB_length]; unfold moreLen; omega
theorem ev_prod {x t : Nat} {d : List Nat} (hd : Small 256 d) : ev x (bitAt (prodB t d)) (8 * (prodB t d).length) = it x (13 * t) (ev x (bitAt d) (8 * d.length)) := by
  have hl : (bmulF (shiftB t) d).length = (shiftB t).length + d.length + 1 := bmulTo_length _ _ _
  have h1 : ∀ k, bitAt (prodB t d) k = bitAt (bmulF (shiftB t) d) k := fun k => by unfold prodB; exact bitAt_norm hl.symm k
  have h2 := ev_addTo (x := x) (at_ := 13 * t) (out := List.replicate ((shiftB t).length + d.length + 1) 0) (p := d) (Small.repl (by decide)) hd (by rw [List.length_replicate, shiftB_length]; unfold moreLen; omega)
  rw [← shift_full, ev_none _ (fun i _ => bitAt_zeros _ i), Nat.zero_xor, List.length_replicate, ← hl] at h2
  rw [← h2, ← ev_ext' (x := x) (f := bitAt (prodB t d)) (n := 8 * (prodB t d).length) (m := 8 * (bmulF (shiftB t) d).length) (fun i hi => bitAt_none hi) (by unfold prodB; rw [List.length_take]; omega)]
  exact ev_congr _ (fun i _ => h1 i)
theorem encB_bit {t : Nat} {d : List Nat} (k : Nat) : bitAt (encB t d) k = bitAt (restB t d) k := by
  unfold encB
  rw [bitAt_appZ]
  unfold restLen
  exact bitAt_norm (restB_length t d).symm k
theorem encB_high {t : Nat} {d : List Nat} (ht : 1 ≤ t ∧ t ≤ 8) (hd : Small 256 d) {k : Nat} (hk : 13 * t ≤ k) : bitAt (encB t d) k = false := by
  obtain ⟨g1, g2, g3, g4, g5⟩ := gen_facts ht
  rw [encB_bit]
  exact bmod_rest (prodB_small hd) g5 rfl g3 g4 hk
theorem enc_sum {t k : Nat} {d : List Nat} (ht : 1 ≤ t ∧ t ≤ 8) (hd : Small 256 d) (hk : k < 2 * t) :
    hor (wAt t d (encB t d)) (gexp ((k + 1 : Nat) : Int)) (13 * t + 8 * d.length) 0 = 0 := by
  obtain ⟨g1, g2, g3, g4, g5⟩ := gen_facts ht
  obtain ⟨x, hx⟩ : ∃ x, x = gexp ((k + 1 : Nat) : Int) := ⟨_, rfl⟩
  have hr := gen_root ht hk
  rw [← hx] at hr ⊢
  rw [hor_ev _ _ (by decide), it_zero, Nat.zero_xor]
  have h1 : ∀ i, wAt t d (encB t d) i = ((decide (13 * t ≤ i) && bitAt d (i - 13 * t)) ^^ bitAt (encB t d) i) := fun i => by
    unfold wAt
    by_cases h : 13 * t ≤ i
    · rw [if_pos h, decide_eq_true h, Bool.true_and, encB_high ht hd h, Bool.xor_false]
    · rw [if_neg h, decide_eq_false h, Bool.false_and, Bool.false_xor]
  rw [ev_congr _ (fun i _ => h1 i), ev_xor, ev_shift' (n := 8 * d.length) (fun i hi => bitAt_none hi) (by omega)]
  have h2 : ev x (bitAt (encB t d)) (13 * t + 8 * d.length) = ev x (bitAt (encB t d)) (13 * t) := ev_ext' (fun i hi => encB_high ht hd hi) (by omega)
  have h3 : ev x (bitAt (restB t d)) (8 * ((prodB t d).length + 1)) = ev x (bitAt (prodB t d)) (8 * (prodB t d).length) := ev_mod (prodB_small hd) g5 rfl g3 hr _ (Nat.le_refl _)
  have h4 : ev x (bitAt (restB t d)) (8 * ((prodB t d).length + 1)) = ev x (bitAt (encB t d)) (13 * t) := by
    rw [← ev_congr _ (fun i _ => encB_bit (t := t) (d := d) i)]
    rcases Nat.le_total (13 * t) (8 * ((prodB t d).length + 1)) with h | h
    · exact ev_ext' (fun i hi => encB_high ht hd hi) h
    · refine (ev_ext' (fun i hi => ?_) h).symm
      rw [encB_bit]
      exact bitAt_none (by rw [restB_length]; exact hi)
  rw [h2, ← h4, h3, ev_prod hd, Nat.xor_self]
theorem clr8_same {x j : Nat} (hx : x < 256) (hj : x.testBit j = false) : clr8 x j = x := by
  unfold clr8
  apply Nat.eq_of_testBit_eq
  intro i
  rw [Nat.testBit_and, Nat.testBit_xor, Nat.testBit_two_pow]
  by_cases h8 : i < 8
  · have : (255 : Nat).testBit i = true := by
      have : ∀ i, i < 8 → (255 : Nat).testBit i = true := by decide
      exact this i h8
    rw [this]
    by_cases h : j = i
    · subst h; rw [hj]; rfl
    · rw [decide_eq_false h]; simp
  · rw [testBit_byte hx (by omega), Bool.false_and]
theorem set_same {xs : List Nat} {i : Nat} : xs.set i (xs.getD i 0) = xs := by
  apply List.ext_getElem?
  intro k
  rw [List.getElem?_set]
  by_cases h : i = k
  · subst h
    by_cases hl : i < xs.length
    · simp [List.getD, hl]
    · simp [List.getElem?_eq_none (Nat.le_of_not_lt hl), hl]
  · simp [h]
theorem maskTo_same {m : List Nat} {i0 : Nat} (hm : Small 256 m) (h : ∀ k, i0 ≤ k → bitAt m k = false) : ∀ k, maskTo m i0 k = m
  | 0 => rfl
  | k + 1 => by
    rw [maskTo, maskTo_same hm h k, clr8_same (hm.at_ (by decide) _) (h (i0 + k) (by omega)), set_same]
theorem maskM_enc {t : Nat} {d : List Nat} (ht : 1 ≤ t ∧ t ≤ 8) (hd : Small 256 d) : maskM t (encB t d) = encB t d := maskTo_same (encB_small ht hd) (fun k hk => encB_high ht hd hk) _
theorem enc_sums {t : Nat} {d : List Nat} (ht : 1 ≤ t ∧ t ≤ 8) (hd : Small 256 d) : sums2 t (d, encB t d) = List.replicate (2 * t) 0 := by
  unfold sums2 sumsW
  apply List.ext_getElem
  · simp
  · intro i h1 h2
    simp only [List.getElem_map, List.getElem_range, List.getElem_replicate]
    exact enc_sum ht hd (by simpa using h1)
theorem bmTo_zeros (m : Nat) : ∀ n, bmTo (List.replicate m 0) n = ⟨[1], [1], 0, n + 1, 1⟩
  | 0 => rfl
  | n + 1 => by
    have h0 : (List.replicate m 0).getD n 0 = 0 := by
      by_cases h : n < m <;> simp [List.getD, List.getElem?_replicate, h]
    rw [bmTo, bmTo_zeros m n]
    unfold bmStep
    rw [if_pos]
    show bmSum _ _ _ (min 0 _) = 0
    rw [Nat.zero_min]
    exact h0
theorem loc_zeros (m : Nat) : locC (List.replicate m 0) = [1] ∧ locL (List.replicate m 0) = 1 := by
  have h : locC (List.replicate m 0) = [1] := by unfold locC; rw [bmTo_zeros]
  refine ⟨h, ?_⟩
  unfold locL
  rw [h]; rfl
theorem decTo_one (t : Nat) (p : LL) : ∀ k, decTo t [1] 1 p k = (p, 0)
  | 0 => rfl
  | k + 1 => by
    rw [decTo, if_neg, decTo_one t p k]
    unfold rootAt
    rw [evalC_code, gmul_zero]
    show ¬ decide ((0 ^^^ 1 : Nat) = 0) = true
    decide
theorem ones_zeros : ∀ m, ones (List.replicate m 0) = 0
  | 0 => rfl
  | m + 1 => by rw [List.replicate_succ, ones, ones_zeros m]; rfl
theorem dec_enc {t : Nat} {d : List Nat} (ht : 1 ≤ t ∧ t ≤ 8) (hd : Small 256 d) : decF t d (encB t d) = some ((d, encB t d), 0) := by
  obtain ⟨l1, l2⟩ := loc_zeros (2 * t)
  unfold decF
  rw [maskM_enc ht hd, enc_sums ht hd, l1, l2, decTo_one, if_neg (by omega), if_neg (fun h => h rfl), if_neg]
  show ¬ 0 < ones (nozero (sums2 t (d, encB t d)))
  rw [enc_sums ht hd]
  unfold nozero
  rw [List.map_replicate, show nz 0 = 0 from rfl, ones_zeros]
  decide
end Go.Proofs.YtohkefolnmcjnaaGreat
