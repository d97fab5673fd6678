/- bch: Decode, plain and walked. -/
import Derived.Test.YtohkefolnmcjnaaBB
import Derived.Test.YtohkefolnmcjnaaSlV
namespace Go.Proofs.Ytohkefolnmcjnaa
open Go.Sl Go.RowKit
set_option linter.unusedVariables false
set_option linter.unusedSimpArgs false
set_option maxRecDepth 20000

abbrev LL := List Nat × List Nat
def flip2 (t : Nat) (p : LL) (i : Nat) : LL := if 13 * t ≤ i then (flipB p.1 (i - 13 * t), p.2) else (p.1, flipB p.2 i)
def evalC (c : List Nat) (x : Nat) : Nat → Nat → Nat
  | 0, v => v
  | k + 1, v => evalC c x k (gmul v x ^^^ c.getD k 0)
def rootAt (c : List Nat) (L i : Nat) : Bool := decide (evalC c (gexp (-(i : Int))) L 0 = 0)
def decTo (t : Nat) (c : List Nat) (L : Nat) (p : LL) : Nat → LL × Nat
  | 0 => (p, 0)
  | k + 1 => if rootAt c L k = true then (flip2 t (decTo t c L p k).1 k, (decTo t c L p k).2 + 1) else decTo t c L p k
def sums2 (t : Nat) (p : LL) : List Nat := sumsW t (13 * t + 8 * p.1.length) (wAt t p.1 p.2)
def decF (t : Nat) (d m : List Nat) : Option (LL × Nat) :=
  if t + 1 < locL (sums2 t (d, maskM t m)) then none
  else
    if (decTo t (locC (sums2 t (d, maskM t m))) (locL (sums2 t (d, maskM t m))) (d, maskM t m) (13 * t + 8 * d.length)).2 + 1 ≠ locL (sums2 t (d, maskM t m)) then none
    else if 0 < ones (nozero (sums2 t (decTo t (locC (sums2 t (d, maskM t m))) (locL (sums2 t (d, maskM t m))) (d, maskM t m) (13 * t + 8 * d.length)).1)) then none
    else some (decTo t (locC (sums2 t (d, maskM t m))) (locL (sums2 t (d, maskM t m))) (d, maskM t m) (13 * t + 8 * d.length))
theorem evalC_code {c : List Nat} {x k v : Nat} : evalC c x (k + 1) v = evalC c x k (gmul v x ^^^ c.getD k 0) := rfl
theorem decTo_le (t : Nat) (c : List Nat) (L : Nat) (p : LL) : ∀ k, (decTo t c L p k).2 ≤ k
  | 0 => Nat.le_refl _
  | k + 1 => by
    have := decTo_le t c L p k
    rw [decTo]; split
    · show (decTo t c L p k).2 + 1 ≤ k + 1; omega
    · omega
theorem flip2_len (t : Nat) (p : LL) (i : Nat) : (flip2 t p i).1.length = p.1.length ∧ (flip2 t p i).2.length = p.2.length := by
  unfold flip2; split <;> simp [flipB_length]
theorem decTo_len (t : Nat) (c : List Nat) (L : Nat) (p : LL) : ∀ k, (decTo t c L p k).1.1.length = p.1.length ∧ (decTo t c L p k).1.2.length = p.2.length
  | 0 => ⟨rfl, rfl⟩
  | k + 1 => by
    have ih := decTo_len t c L p k
    rw [decTo]; split
    · have := flip2_len t (decTo t c L p k).1 k
      exact ⟨by show (flip2 _ _ _).1.length = _; omega, by show (flip2 _ _ _).2.length = _; omega⟩
    · exact ih
theorem sumsW_small {t len : Nat} {bit : Nat → Bool} : Small 8192 (sumsW t len bit) := fun x hx => by
  obtain ⟨k, _, rfl⟩ := List.mem_map.1 hx
  exact hor_lt _ _ (by decide)
theorem sumsW_len {t len : Nat} {bit : Nat → Bool} : (sumsW t len bit).length = 2 * t := by simp [sumsW]
theorem normLen_small {c : List Nat} (h : Small 8192 c) : True := trivial
theorem bmTo_small {s : List Nat} (hs : Small 8192 s) : Small 8192 (locC s) := (bmTo_ok hs _).cs
theorem locL_le {s : List Nat} (hs : Small 8192 s) : locL s ≤ (locC s).length ∧ (locC s).length ≤ s.length + 1 := ⟨normLen_le _ _, (bmTo_ok hs _).c2⟩
namespace Wd
def put (W : Wd) (p : LL) : Wd := { W with d := p.1, m := p.2 }
theorem flip_put (W : Wd) (p : LL) (i : Nat) : (W.put p).flip i = W.put (flip2 W.t p i) := by
  unfold Wd.flip flip2 put
  split <;> rfl
end Wd
def DecPost (F : List Assn) (o : Option (LL × Nat)) (v : Value) (H' : List Assn) : Prop :=
  match o with
  | none => v = .tuple #[.slice none 0 0, .slice none 0 0, .int .i64 0, .int .i64 50] ∧ H' = F
  | some (p, n) => ∃ g1 c1 r1 g2 c2 r2, p.1.length ≤ c1 ∧ p.2.length ≤ c2 ∧ v = .tuple #[.slice (some ⟨g1, 0, none⟩) p.1.length c1, .slice (some ⟨g2, 0, none⟩) p.2.length c2, .int .i64 (n : Int), .int .i64 0] ∧ H' = Cells g1 5 (nats .u8 p.1 ++ r1) :: Cells g2 5 (nats .u8 p.2 ++ r2) :: F

section
variable {K : World} {F : List Assn}
theorem word_sums' {bw : Nat} {V : Wd} (h : V.Ok) : Does Try.prog 64 #[ptr bw 0] K (V.parts bw ++ F) (fun v H' => ∃ g, v = .slice (some ⟨g, 0, none⟩) (2 * V.t) (2 * V.t) ∧ H' = Cells g 3 (nats .i64 (sums2 V.t (V.d, V.m))) :: (V.parts bw ++ F)) :=
  word_sums h Rds.all (Seq.up (Seq.here (by rw [nats_length]; omega) (by rw [List.drop_zero]; exact List.prefix_append _ _))) (Seq.up (Seq.up (Seq.here (by rw [nats_length]; omega) (by rw [List.drop_zero]; exact List.prefix_append _ _))))
theorem bch_Decode {t : Nat} {A B : Option Addr} {m q cap cap' : Nat} {d mo : List Nat} (ht : 1 ≤ t ∧ t ≤ 8) (hd : Seq K F A m 1 (nats .u8 d)) (hm : Seq K F B q 1 (nats .u8 mo)) (hd8 : Small 256 d) (hm8 : Small 256 mo) (hdl : 1 ≤ m ∧ m ≤ 512) (hml : q = moreLen t) :
    Does Try.prog 53 #[.int .i64 (t : Int), .slice A m cap, .slice B q cap'] K F (DecPost F (decF t d mo)) := by
  refine Does.enter Try.func53 rfl Try.ntmps53 rfl ?_
  simp only [env0, Nat.reduceAdd]
  refine WC.seq ?_
  refine WC.region ?_
  refine WL.val (V.assign (OV.p rfl)) rfl ?_
  refine WL.val (V.assign (OV.p rfl)) rfl ?_
  refine WL.val (V.assign (OV.p rfl)) rfl ?_
  refine WL.val (V.assign (OV.p rfl)) rfl ?_
  refine WL.nil ?_
  refine WC.seq ?_
  refine WC.region ?_
  refine WL.val (V.move (OV.p rfl)) rfl ?_
  refine WL.val (V.move (OV.p rfl)) rfl ?_
  refine WL.val (V.move (OV.p rfl)) rfl ?_
  refine WL.call (vs := [_, _, _]) Try.call62 ⟨OV.p rfl, OV.p rfl, OV.p rfl, trivial⟩ (bch_newWord ht hd hm hd8 hm8 hdl hml) rfl ?_
  rintro _ _ ⟨bw, W, hW, hWt, hWd, hWm, hWc, rfl, rfl⟩
  obtain ⟨p, hp⟩ : ∃ p : LL, p = (d, maskM t mo) := ⟨_, rfl⟩
  have hp1 : W.d = p.1 := by rw [hp, hWd]
  have hp2 : W.m = p.2 := by rw [hp, hWm]
  have hdF : decF t d mo = (if t + 1 < locL (sums2 t p) then none else if (decTo t (locC (sums2 t p)) (locL (sums2 t p)) p W.len).2 + 1 ≠ locL (sums2 t p) then none else if 0 < ones (nozero (sums2 t (decTo t (locC (sums2 t p)) (locL (sums2 t p)) p W.len).1)) then none else some (decTo t (locC (sums2 t p)) (locL (sums2 t p)) p W.len)) := by
    unfold decF Wd.len
    rw [hp, hWt, hWd]
  rw [hdF]
  have hWl : W.len ≤ 4200 := by have h1 := hW.t; have h2 := hW.d; unfold Wd.len; omega
  refine WL.val (V.move (OV.p rfl)) rfl ?_
  refine WL.val (V.extract (OV.p rfl) rfl) rfl ?_
  refine WL.val (V.extract (OV.p rfl) rfl) rfl ?_
  refine WL.val (V.assign (OV.p rfl)) rfl ?_
  refine WL.val (V.assign (OV.p rfl)) rfl ?_
  refine WL.nil ?_
  refine WC.seq ?_
  refine WC.seq ?_
  refine WC.region ?_
  refine WL.val (V.move (OV.p rfl)) rfl ?_
  refine WL.val (V.neq (OV.p rfl) (OV.p rfl)) rfl ?_
  refine WL.nil ?_
  refine WC.condF' rfl (by first | rfl | (simp; done) | (simp; omega)) ?_
  refine WC.skip ?_
  refine WC.seq ?_
  refine WC.region ?_
  refine WL.val (V.move (OV.p rfl)) rfl ?_
  refine WL.call (vs := [_]) Try.call64 ⟨OV.p rfl, trivial⟩ (word_sums' hW) rfl ?_
  rintro _ _ ⟨gs, rfl, rfl⟩
  rw [hp1, hp2, hWt]
  obtain ⟨s, hs⟩ : ∃ s, s = sums2 t (p.1, p.2) := ⟨_, rfl⟩
  have hs' : sums2 t p = s := hs.symm
  have hss : Small 8192 s := by rw [hs]; exact sumsW_small
  have hsl : s.length = 2 * t := by rw [hs]; exact sumsW_len
  rw [hs']
  refine WL.call (vs := [_]) Try.call63 ⟨OV.p rfl, trivial⟩ (bch_locator (s := s) (Seq.allN hsl) hss (by omega)) rfl ?_
  rintro _ _ ⟨gl, cl, rl, rfl, rfl⟩
  obtain ⟨L, hL⟩ : ∃ L, L = locL s := ⟨_, rfl⟩
  obtain ⟨c, hc⟩ : ∃ c, c = locC s := ⟨_, rfl⟩
  have hLc := locL_le hss
  have hcs := bmTo_small hss
  rw [← hL, ← hc] at hLc ⊢
  rw [← hc] at hcs
  refine WL.val (V.assign (OV.p rfl)) rfl ?_
  refine WL.nil ?_
  refine WC.seq ?_
  refine WC.seq ?_
  refine WC.region ?_
  refine WL.val (V.move (OV.p rfl)) rfl ?_
  refine WL.val (V.len (t := 39) Try.runUnderlying39 (OV.p rfl)) rfl ?_
  refine WL.val (V.subI (OV.p rfl) (OV.p rfl) (fun hc => by first | omega | (simp at hc; omega))) rfl ?_
  refine WL.val (V.move (OV.p rfl)) rfl ?_
  refine WL.val (V.gtr (OV.p rfl) (OV.p rfl)) rfl ?_
  refine WL.nil ?_
  refine WC.cond rfl (fun hc1 => ?_) (fun hc1 => ?_)
  · simp only [decide_eq_true_eq, decide_eq_false_iff_not] at hc1
    have h1 := hc1
    rw [if_pos (by omega)]
    refine WC.seq ?_
    refine WC.region ?_
    refine WL.val (V.assign (OV.p rfl)) rfl ?_
    refine WL.val (V.assign (OV.p rfl)) rfl ?_
    refine WL.val (V.assign (OV.p rfl)) rfl ?_
    refine WL.val (V.assign (OV.p rfl)) rfl ?_
    refine WL.nil ?_
    refine WC.ret ?_
    exact BodyQ.ret (H' := F) (Res.tmp4 rfl rfl rfl rfl rfl) (fun w h => h.sel 5 [] rfl) ⟨rfl, rfl⟩
  · simp only [decide_eq_true_eq, decide_eq_false_iff_not] at hc1
    have h1 := hc1
    rw [if_neg (by omega)]
    refine WC.skip ?_
    refine WC.seq ?_
    have hWW : W.put (decTo t c L p 0).1 = W := by unfold Wd.put decTo; rw [← hp1, ← hp2]
    have hok : ∀ k, (W.put (decTo t c L p k).1).Ok := fun k => by
      induction k with
      | zero => rw [hWW]; exact hW
      | succ k ih =>
        rw [decTo]; split
        · have := ih.flip k
          rw [Wd.flip_put, hWt] at this
          exact this
        · exact ih
    refine WC.region ?_
    refine WL.val (V.assign (OV.p rfl)) rfl ?_
    refine WL.nil ?_
    refine WC.seq ?_
    refine WC.seq ?_
    refine WC.region ?_
    refine WL.val (V.move (OV.p rfl)) rfl ?_
    refine WL.call (vs := [_]) Try.call65 ⟨OV.p rfl, trivial⟩ (word_len hW (by repeat (first | exact Rds.all | apply Rds.up))) rfl ?_
    rintro _ H0 ⟨rfl, h0⟩
    subst H0
    refine WL.val (V.move (OV.p rfl)) rfl ?_
    refine WL.nil ?_
    refine WC.block ?_
    refine WC.loop (σ := Nat) (fun k => [(10, ptr bw 0), (12, .slice (some ⟨gl, 0, none⟩) L cl), (13, .int .i64 ((decTo t c L p k).2 : Nat)), (37, .int .i64 (W.len : Nat)), (38, .int .i64 (k : Int))]) (fun k => (W.put (decTo t c L p k).1).parts bw ++ (Cells gl 3 (nats .i64 c ++ rl) :: F)) (fun k => k ≤ W.len) (fun k => W.len - k) 0 (Nat.zero_le _) (.cons rfl (.cons rfl (.cons rfl (.cons rfl (.cons rfl (.nil _)))))) (fun w h => by rw [hWW]; exact h.sel 5 [2, 3, 4, 0] rfl) ?_
    rintro k hk
    obtain ⟨U, hV⟩ : ∃ U, U = W.put (decTo t c L p k).1 := ⟨_, rfl⟩
    have hVo : U.Ok := by rw [hV]; exact hok k
    have hVt : U.t = t := by rw [hV]; exact hWt
    have hVc : U.d.length = W.d.length := by rw [hV, hp1]; exact (decTo_len t c L p k).1
    have hVl : U.len = W.len := by unfold Wd.len; rw [hVt, hVc, hWt]
    have hdl := decTo_le t c L p k
    rw [← hV]
    refine WC.seq ?_
    refine WC.region ?_
    refine WL.val (V.lss (OV.p rfl) (OV.p rfl)) rfl ?_
    refine WL.nil ?_
    refine WC.seq ?_
    refine WC.cond rfl (fun hc2 => ?_) (fun hc2 => ?_)
    · simp only [decide_eq_true_eq, decide_eq_false_iff_not] at hc2
      refine WC.skip ?_
      refine WC.seq ?_
      refine WC.block ?_
      refine WC.seq ?_
      refine WC.region ?_
      refine WL.val (V.move (OV.p rfl)) rfl ?_
      refine WL.val (V.assign (OV.p rfl)) rfl ?_
      refine WL.nil ?_
      refine WC.seq ?_
      obtain ⟨x, hx⟩ : ∃ x, x = gexp (-(k : Int)) := ⟨_, rfl⟩
      have hx8 : x < 8192 := by rw [hx]; exact gexp_lt _
      refine WC.region ?_
      refine WL.val (V.move (OV.p rfl)) rfl ?_
      refine WL.val (V.negI (OV.p rfl) (fun _ => by omega)) rfl ?_
      refine WL.call (vs := [_]) Try.call66 ⟨OV.p rfl, trivial⟩ (gf_Exp (-(k : Int)) (by omega)) rfl ?_
      rintro _ H0 ⟨rfl, h0⟩
      subst H0
      refine WL.val (V.assign (OV.p rfl)) rfl ?_
      refine WL.val (V.assign (OV.p rfl)) rfl ?_
      refine WL.nil ?_
      refine WC.seq ?_
      refine WC.seq ?_
      refine WC.region ?_
      refine WL.val (V.move (OV.p rfl)) rfl ?_
      refine WL.val (V.len (t := 39) Try.runUnderlying39 (OV.p rfl)) rfl ?_
      refine WL.val (V.val_eq (v' := .int .i64 ((L : Int) - 1)) (V.subI (OV.p rfl) (OV.p rfl) (fun _ => by omega)) (fun _ => rfl)) rfl ?_
      rw [← hx]
      refine WL.val (V.assign (OV.p rfl)) rfl ?_
      refine WL.nil ?_
      refine WC.block ?_
      refine WC.loop (σ := Nat × Nat) (fun y => [(10, ptr bw 0), (12, .slice (some ⟨gl, 0, none⟩) L cl), (13, .int .i64 ((decTo t c L p k).2 : Nat)), (37, .int .i64 (W.len : Nat)), (38, .int .i64 (k : Int)), (14, .int .i64 (k : Int)), (15, .int .i64 (x : Int)), (16, .int .i64 (y.2 : Int)), (17, .int .i64 ((y.1 : Int) - 1))]) (fun _ => U.parts bw ++ (Cells gl 3 (nats .i64 c ++ rl) :: F)) (fun y => y.1 ≤ L ∧ y.2 < 8192 ∧ evalC c x y.1 y.2 = evalC c x L 0) (fun y => y.1) (L, 0) ⟨Nat.le_refl _, by show 0 < 8192; decide, rfl⟩ (.cons rfl (.cons rfl (.cons rfl (.cons rfl (.cons rfl (.cons rfl (.cons rfl (.cons rfl (.cons rfl (.nil _)))))))))) (fun w h => h) ?_
      rintro ⟨j, v⟩ ⟨hj, hv, hev⟩
      dsimp only at hj hv hev ⊢
      refine WC.seq ?_
      refine WC.seq ?_
      refine WC.region ?_
      refine WL.val (V.move (OV.p rfl)) rfl ?_
      refine WL.val (V.geq (OV.p rfl) (OV.p rfl)) rfl ?_
      refine WL.nil ?_
      refine WC.cond rfl (fun hc3 => ?_) (fun hc3 => ?_)
      · simp only [decide_eq_true_eq, decide_eq_false_iff_not] at hc3
        obtain ⟨j', rfl⟩ : ∃ j', j = j' + 1 := ⟨j - 1, by omega⟩
        have hj1 : ((j' + 1 : Nat) : Int) - 1 = (j' : Int) := by omega
        rw [hj1]
        rw [evalC_code] at hev
        have hml2 := gmul_lt (b := x) hv
        have hcj := hcs.at_ (by decide) j'
        have hrc : Rd K (U.parts bw ++ (Cells gl 3 (nats .i64 c ++ rl) :: F)) (some ⟨gl, 0 + (j' : Int).toNat * 1, none⟩) (.int .i64 (c.getD j' 0 : Nat)) := by
          rw [show 0 + (j' : Int).toNat * 1 = j' by omega]
          exact Rd.up (Rd.up (Rd.up (Rd.here (nats_getA _ _ _ (by omega)))))
        refine WC.skip ?_
        refine WC.seq ?_
        refine WC.block ?_
        refine WC.regionQ (by kernel_rfl) (by kernel_rfl) ?_
        refine WQ.val (V.move (OV.p rfl)) rfl ?_
        refine WQ.val (V.move (OV.p rfl)) rfl ?_
        refine WQ.call (vs := [_, _]) Try.call67 ⟨OV.p rfl, OV.p rfl, trivial⟩ (bch_mul hv hx8) rfl ?_
        refine WQ.val (V.move (OV.p rfl)) rfl ?_
        refine WQ.val (V.move (OV.p rfl)) rfl ?_
        refine WQ.val (V.idxB st39 (OV.p rfl) (OV.p rfl) (fun hc => by omega)) rfl ?_
        refine WQ.val (V.load Try.isAgg3 (OV.p rfl) (fun hc => hrc)) rfl ?_
        refine WQ.val (V.val_eq (v' := .int .i64 ((gmul v x ^^^ c.getD j' 0 : Nat) : Int)) (V.xor (OV.p rfl) (OV.p rfl)) (fun _ => by rw [bits_xor (by omega) (by omega)])) rfl ?_
        refine WQ.val (V.assign (OV.p rfl)) rfl ?_
        refine WQ.nil ?_
        refine WC.region ?_
        refine WL.val (V.move (OV.p rfl)) rfl ?_
        refine WL.val (V.subI (OV.p rfl) (OV.p rfl) (fun hc => by first | omega | (simp at hc; omega))) rfl ?_
        refine WL.val (V.assign (OV.p rfl)) rfl ?_
        refine WL.nil ?_
        refine ⟨rfl, ?_⟩
        exact ⟨(j', gmul v x ^^^ c.getD j' 0), ⟨by show j' ≤ L; omega, xor_lt (k := 13) hml2 hcj, hev⟩, Nat.lt_succ_self _, .cons rfl (.cons rfl (.cons rfl (.cons rfl (.cons rfl (.cons rfl (.cons rfl (.cons rfl (.cons rfl (.nil _))))))))), fun w h => h⟩
      · simp only [decide_eq_true_eq, decide_eq_false_iff_not] at hc3
        refine WC.exit ?_
        refine WC.seq ?_
        obtain rfl : j = 0 := by omega
        have hv2 : v = evalC c x L 0 := hev
        have hrt : rootAt c L k = decide (v = 0) := by unfold rootAt; rw [← hx, hv2]
        have hk1 : k < W.len := by omega
        refine WC.region ?_
        refine WL.val (V.move (OV.p rfl)) rfl ?_
        refine WL.val (V.eql (OV.p rfl) (OV.p rfl)) rfl ?_
        refine WL.nil ?_
        refine WC.cond rfl (fun hc4 => ?_) (fun hc4 => ?_)
        · simp only [decide_eq_true_eq, decide_eq_false_iff_not] at hc4
          have h4 := hc4
          have hdk : decTo t c L p (k + 1) = (flip2 t (decTo t c L p k).1 k, (decTo t c L p k).2 + 1) := by rw [decTo, hrt, if_pos (decide_eq_true (show v = 0 by omega))]
          refine WC.seq ?_
          refine WC.region ?_
          refine WL.val (V.move (OV.p rfl)) rfl ?_
          refine WL.val (V.move (OV.p rfl)) rfl ?_
          refine WL.call (vs := [_, _]) Try.call68 ⟨OV.p rfl, OV.p rfl, trivial⟩ (word_flip hVo (i := k) (by omega)) rfl ?_
          rintro v1 _ rfl
          refine WL.nil ?_
          refine WC.region ?_
          refine WL.val (V.move (OV.p rfl)) rfl ?_
          refine WL.val (V.addI (OV.p rfl) (OV.p rfl) (fun hc => by first | omega | (simp at hc; omega))) rfl ?_
          refine WL.val (V.assign (OV.p rfl)) rfl ?_
          refine WL.nil ?_
          refine WC.region ?_
          refine WL.val (V.addI (OV.p rfl) (OV.p rfl) (fun hc => by first | omega | (simp at hc; omega))) rfl ?_
          refine WL.val (V.move (OV.p rfl)) rfl ?_
          refine WL.nil ?_
          refine ⟨rfl, ?_⟩
          first
          | exact ⟨k + 1, (by show k + 1 ≤ W.len; omega), (by show W.len - (k + 1) < W.len - k; omega), .cons rfl (.cons rfl (.cons (look_eq rfl (by rw [hdk]; simp only [Int.natCast_add]; rfl)) (.cons rfl (.cons (look_eq rfl (by simp)) (.nil _))))), fun w h => by dsimp only; rw [hdk]; dsimp only; rw [hV, Wd.flip_put, hWt] at h; exact h⟩
          | exact ⟨k + 1, (by show k + 1 ≤ W.len; omega), (by show W.len - (k + 1) < W.len - k; omega), .cons rfl (.cons rfl (.cons (look_eq rfl (by rw [hdk])) (.cons rfl (.cons (look_eq rfl (by simp)) (.nil _))))), fun w h => by dsimp only; rw [hdk, ← hV]; exact h⟩
        · simp only [decide_eq_true_eq, decide_eq_false_iff_not] at hc4
          have h4 := hc4
          have hdk : decTo t c L p (k + 1) = decTo t c L p k := by rw [decTo, hrt, decide_eq_false (show ¬ v = 0 by omega)]; rfl
          refine WC.skip ?_
          refine WC.region ?_
          refine WL.val (V.addI (OV.p rfl) (OV.p rfl) (fun hc => by first | omega | (simp at hc; omega))) rfl ?_
          refine WL.val (V.move (OV.p rfl)) rfl ?_
          refine WL.nil ?_
          refine ⟨rfl, ?_⟩
          first
          | exact ⟨k + 1, (by show k + 1 ≤ W.len; omega), (by show W.len - (k + 1) < W.len - k; omega), .cons rfl (.cons rfl (.cons (look_eq rfl (by rw [hdk]; simp only [Int.natCast_add]; rfl)) (.cons rfl (.cons (look_eq rfl (by simp)) (.nil _))))), fun w h => by dsimp only; rw [hdk]; dsimp only; rw [hV, Wd.flip_put, hWt] at h; exact h⟩
          | exact ⟨k + 1, (by show k + 1 ≤ W.len; omega), (by show W.len - (k + 1) < W.len - k; omega), .cons rfl (.cons rfl (.cons (look_eq rfl (by rw [hdk])) (.cons rfl (.cons (look_eq rfl (by simp)) (.nil _))))), fun w h => by dsimp only; rw [hdk, ← hV]; exact h⟩
    · simp only [decide_eq_true_eq, decide_eq_false_iff_not] at hc2
      refine WC.exit ?_
      refine WC.seq ?_
      refine WC.seq ?_
      obtain rfl : k = W.len := by omega
      obtain ⟨r, hr⟩ : ∃ r, r = decTo t c L p W.len := ⟨_, rfl⟩
      rw [← hr] at hV hdl ⊢
      have hVd : U.d = r.1.1 := by rw [hV]; rfl
      have hVm : U.m = r.1.2 := by rw [hV]; rfl
      obtain ⟨bb, hbb⟩ : ∃ bb, bb = !decide ((r.2 : Int) = (L : Int) - 1) := ⟨_, rfl⟩
      refine WC.region ?_
      refine WL.val (V.move (OV.p rfl)) rfl ?_
      refine WL.val (V.move (OV.p rfl)) rfl ?_
      refine WL.val (V.len (t := 39) Try.runUnderlying39 (OV.p rfl)) rfl ?_
      refine WL.val (V.subI (OV.p rfl) (OV.p rfl) (fun hc => by first | omega | (simp at hc; omega))) rfl ?_
      refine WL.val (V.val_eq (v' := .bool bb) (V.neq (OV.p rfl) (OV.p rfl)) (fun _ => by rw [hbb])) rfl ?_
      refine WL.val (V.move (OV.p rfl)) rfl ?_
      rcases Bool.eq_false_or_eq_true bb with hb | hb
      · subst hb
        have hne : ¬ r.2 + 1 = L := fun h => by
          have h6 : (r.2 : Int) = (L : Int) - 1 := by omega
          rw [decide_eq_true h6] at hbb
          cases hbb
        rw [if_pos hne]
        refine WL.skipG (oj := _) rfl rfl rfl rfl rfl (fun d hd => by injection hd with hd; subst hd; rfl) ?_
        refine WL.skipG (oj := _) rfl rfl rfl rfl rfl (fun d hd => by injection hd with hd; subst hd; rfl) ?_
        refine WL.skipG (oj := _) rfl rfl rfl rfl rfl (fun d hd => by injection hd with hd; subst hd; rfl) ?_
        refine WL.skipG (oj := _) rfl rfl rfl rfl rfl (fun d hd => by injection hd with hd; subst hd; rfl) ?_
        refine WL.skipG (oj := _) rfl rfl rfl rfl rfl (fun d hd => by injection hd with hd; subst hd; rfl) ?_
        refine WL.val (V.pickT (OV.p rfl) (OV.p rfl)) rfl ?_
        refine WL.nil ?_
        refine WC.condT' rfl rfl ?_
        refine WC.seq ?_
        refine WC.region ?_
        refine WL.val (V.assign (OV.p rfl)) rfl ?_
        refine WL.val (V.assign (OV.p rfl)) rfl ?_
        refine WL.val (V.assign (OV.p rfl)) rfl ?_
        refine WL.val (V.assign (OV.p rfl)) rfl ?_
        refine WL.nil ?_
        refine WC.ret ?_
        exact BodyQ.ret (H' := F) (Res.tmp4 rfl rfl rfl rfl rfl) (fun w h => h.sel 4 [] rfl) ⟨rfl, rfl⟩
      subst hb
      have hne : r.2 + 1 = L := by
        have h6 : (r.2 : Int) = (L : Int) - 1 := by
          rcases Decidable.em ((r.2 : Int) = (L : Int) - 1) with h | h
          · exact h
          · rw [decide_eq_false h] at hbb; cases hbb
        omega
      rw [if_neg (fun h => h hne)]
      refine WL.known (oj := _) rfl rfl rfl rfl ?_
      refine WL.val (V.move (OV.p rfl)) rfl ?_
      refine WL.known (oj := _) rfl rfl rfl rfl ?_
      refine WL.call (vs := [_]) Try.call64 ⟨OV.p rfl, trivial⟩ (word_sums' hVo) rfl ?_
      rintro _ _ ⟨gs2, rfl, rfl⟩
      rw [hVd, hVm, hVt]
      obtain ⟨s2, hs2⟩ : ∃ s2, s2 = sums2 t r.1 := ⟨_, rfl⟩
      have hss2 : Small 8192 s2 := by rw [hs2]; exact sumsW_small
      have hsl2 : s2.length = 2 * t := by rw [hs2]; exact sumsW_len
      rw [show sums2 t (r.1.1, r.1.2) = s2 from hs2.symm]
      refine WL.known (oj := _) rfl rfl rfl rfl ?_
      refine WL.call (vs := [_]) Try.call69 ⟨OV.p rfl, trivial⟩ (bch_nought (s := s2) (Seq.allN hsl2) hss2 (by omega)) rfl ?_
      rintro _ _ ⟨gn, rfl, rfl⟩
      refine WL.known (oj := _) rfl rfl rfl rfl ?_
      refine WL.call (vs := [_]) Try.call61 ⟨OV.p rfl, trivial⟩ (bits_Ones (xs := nozero s2) (Seq.allN (by simp [nozero]; exact hsl2)) (fun x hx => by obtain ⟨y, _, rfl⟩ := List.mem_map.1 hx; unfold nz; split <;> decide) (by omega)) rfl ?_
      rintro _ H0 ⟨rfl, h0⟩
      subst H0
      refine WL.known (oj := _) rfl rfl rfl rfl ?_
      refine WL.val (V.gtr (OV.p rfl) (OV.p rfl)) rfl ?_
      refine WL.val (V.pickOr (OV.p rfl) (OV.p rfl)) rfl ?_
      refine WL.nil ?_
      refine WC.cond rfl (fun hc5 => ?_) (fun hc5 => ?_)
      · simp only [Bool.false_or, decide_eq_true_eq, decide_eq_false_iff_not] at hc5
        have h5 := hc5
        rw [if_pos (by omega)]
        refine WC.seq ?_
        refine WC.region ?_
        refine WL.val (V.assign (OV.p rfl)) rfl ?_
        refine WL.val (V.assign (OV.p rfl)) rfl ?_
        refine WL.val (V.assign (OV.p rfl)) rfl ?_
        refine WL.val (V.assign (OV.p rfl)) rfl ?_
        refine WL.nil ?_
        refine WC.ret ?_
        exact BodyQ.ret (H' := F) (Res.tmp4 rfl rfl rfl rfl rfl) (fun w h => h.sel 6 [] rfl) ⟨rfl, rfl⟩
      · simp only [Bool.false_or, decide_eq_true_eq, decide_eq_false_iff_not] at hc5
        have h5 := hc5
        rw [if_neg (by omega)]
        refine WC.skip ?_
        refine WC.seq ?_
        refine WC.regionQ (by kernel_rfl) (by kernel_rfl) ?_
        refine WQ.val (V.move (OV.p rfl)) rfl ?_
        refine WQ.val (V.nilCheck (OV.p rfl)) rfl ?_
        refine WQ.val (V.fieldAddr fo102_1 (OV.p rfl)) rfl ?_
        refine WQ.val (V.load Try.isAgg24 (OV.p rfl) (fun _ => by repeat (first | exact Rd.here rfl | apply Rd.up))) rfl ?_
        refine WQ.val (V.move (OV.p rfl)) rfl ?_
        refine WQ.val (V.nilCheck (OV.p rfl)) rfl ?_
        refine WQ.val (V.fieldAddr fo102_2 (OV.p rfl)) rfl ?_
        refine WQ.val (V.load Try.isAgg24 (OV.p rfl) (fun _ => by repeat (first | exact Rd.here rfl | apply Rd.up))) rfl ?_
        refine WQ.val (V.move (OV.p rfl)) rfl ?_
        refine WQ.val (V.assign (OV.p rfl)) rfl ?_
        refine WQ.val (V.assign (OV.p rfl)) rfl ?_
        refine WQ.val (V.assign (OV.p rfl)) rfl ?_
        refine WQ.val (V.assign (OV.p rfl)) rfl ?_
        refine WQ.nil ?_
        refine WC.ret ?_
        refine BodyQ.ret (H' := Cells U.g1 5 (nats .u8 r.1.1 ++ U.r1) :: Cells U.g2 5 (nats .u8 r.1.2 ++ U.r2) :: F) (Res.tmp4 rfl rfl rfl rfl rfl) (fun w h => ?_) ⟨U.g1, U.c1, U.r1, U.g2, U.c2, U.r2, ?_, ?_, ?_, rfl⟩
        · have h' := h.sel 6 [3, 4] rfl
          rw [← hVd, ← hVm]
          exact h'
        · rw [← hVd, hVc, hV]; exact hWc.1
        · rw [hr, (decTo_len t c L p W.len).2, ← hp2, hV]; exact hWc.2
        · rw [hVd, hVm]
end
end Go.Proofs.Ytohkefolnmcjnaa
