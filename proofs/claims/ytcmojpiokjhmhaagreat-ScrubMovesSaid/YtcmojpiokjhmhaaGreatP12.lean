import Derived.Test.YtcmojpiokjhmhaaGreatP10
import Derived.Test.YtcmojpiokjhmhaaGreatP11
namespace Go.Proofs.YtcmojpiokjhmhaaGreat
open Go.Sl Go.RowKit
set_option linter.unusedVariables false
set_option linter.unusedSimpArgs false
set_option maxRecDepth 20000
structure BM where
  c : List Nat
  b : List Nat
  (length shift last : Nat)
def qx (s c : List Nat) (n : Nat) : Nat → Nat
  | 0 => s.getD n 0
  | k + 1 => qx s c n k ^^^ aN (c.getD (k + 1) 0) (s.getD (n - (k + 1)) 0)
def jR (c b : List Nat) (Br shift : Nat) : Nat → List Nat
  | 0 => c
  | k + 1 => (jR c b Br shift k).set (k + shift) ((jR c b Br shift k).getD (k + shift) 0 ^^^ aN Br (b.getD k 0))
def Bt (s : List Nat) (n : Nat) (x : BM) : Nat := qx s x.c n (min x.length (x.c.length - 1))
def jV (x : BM) : List Nat := x.c ++ List.replicate (x.b.length + x.shift - x.c.length) 0
def Et (x : BM) (d : Nat) : List Nat := jR (jV x) x.b (aN d (Er x.last)) x.shift x.b.length
def pR (s : List Nat) (n : Nat) (x : BM) : BM :=
  if Bt s n x = 0 then { x with shift := x.shift + 1 }
  else if 2 * x.length ≤ n then ⟨Et x (Bt s n x), x.c, n + 1 - x.length, 1, Bt s n x⟩
  else ⟨Et x (Bt s n x), x.b, x.length, x.shift + 1, x.last⟩
def gK (s : List Nat) : Nat → BM
  | 0 => ⟨[1], [1], 0, 1, 1⟩
  | n + 1 => pR s n (gK s n)
structure BM.Ok (n : Nat) (x : BM) : Prop where
  c1 : 1 ≤ x.c.length
  c2 : x.c.length ≤ n + 1
  b2 : x.b.length + x.shift ≤ n + 2
  l : x.length ≤ n
  cs : Small 8192 x.c
  bs : Small 8192 x.b
  la : x.last < 8192
  l0 : x.last ≠ 0
theorem pE {s c : List Nat} {n : Nat} (hs : Small 8192 s) (hc : Small 8192 c) : ∀ k, qx s c n k < 8192
  | 0 => hs.at_ (by decide) _
  | k + 1 => dB (k := 13) (pE hs hc k) (aR (hc.at_ (by decide) _))
theorem kS (c b : List Nat) (y sh : Nat) : ∀ k, (jR c b y sh k).length = c.length
  | 0 => rfl
  | k + 1 => by rw [jR, List.length_set, kS]
theorem mh {c b : List Nat} {y sh : Nat} (hc : Small 8192 c) (hy : y < 8192) : ∀ k, Small 8192 (jR c b y sh k)
  | 0 => hc
  | k + 1 => (mh hc hy k).set (dB (k := 13) ((mh hc hy k).at_ (by decide) _) (aR hy))
theorem nY (x : BM) : (jV x).length = x.c.length + (x.b.length + x.shift - x.c.length) := by simp [jV]
theorem Ar (x : BM) (d : Nat) : (Et x d).length = (jV x).length := kS _ _ _ _ _
theorem CZ {s : List Nat} {n : Nat} {x : BM} (hs : Small 8192 s) (h : x.Ok n) : (pR s n x).Ok (n + 1) := by
  have hd : Bt s n x < 8192 := pE hs h.cs _
  have h1 := h.c1
  have h2 := h.c2
  have h3 := h.b2
  have h4 := h.l
  have hel := nY x
  have hcl := Ar x (Bt s n x)
  have hsm : Small 8192 (Et x (Bt s n x)) := mh (h.cs.append (Small.vZ (by decide))) (aR hd) _
  unfold pR
  split
  · exact ⟨h.c1, by show x.c.length ≤ n + 1 + 1; omega, by show x.b.length + (x.shift + 1) ≤ n + 1 + 2; omega, by show x.length ≤ n + 1; omega, h.cs, h.bs, h.la, h.l0⟩
  · rename_i h0
    split
    · exact ⟨by show 1 ≤ (Et x _).length; omega, by show (Et x _).length ≤ n + 1 + 1; omega, by show x.c.length + 1 ≤ n + 1 + 2; omega, by show n + 1 - x.length ≤ n + 1; omega, hsm, h.cs, hd, h0⟩
    · exact ⟨by show 1 ≤ (Et x _).length; omega, by show (Et x _).length ≤ n + 1 + 1; omega, by show x.b.length + (x.shift + 1) ≤ n + 1 + 2; omega, by show x.length ≤ n + 1; omega, hsm, h.bs, h.la, h.l0⟩
theorem vK {s : List Nat} (hs : Small 8192 s) : ∀ n, (gK s n).Ok n
  | 0 => ⟨Nat.le_refl 1, Nat.le_refl 1, Nat.le_refl 2, Nat.le_refl 0, fun y hy => by rw [List.mem_singleton.1 hy]; decide, fun y hy => by rw [List.mem_singleton.1 hy]; decide, (by decide : 1 < 8192), (by decide : 1 ≠ 0)⟩
  | n + 1 => CZ hs (vK hs n)
def lU (s : List Nat) : List Nat := (gK s s.length).c
def mZ (s : List Nat) : Nat := aF (lU s) (lU s).length
section
variable {K : World} {F : List ak}
theorem x9 {A : Option Addr} {m cap : Nat} {xs : List Nat} (hs : Seq K F A m 1 (aA .i64 xs)) (hm : m ≤ 1000000) :
    Does Tryz.prog 57 #[.slice A m cap] K F (fun v H' => ∃ A' cap', v = .slice A' m cap' ∧ H' = aU (.slice A' m cap') 3 1 m (aA .i64 xs) :: F) := by
  rw [wo] at hs ⊢
  exact tF hs hm
structure Uc where
  n : Nat
  (gc gb cc cb : Nat)
  rc : List Value
  rb : List Value
theorem Fv {A : Option Addr} {m cap : Nat} {s : List Nat} (hs : Seq K F A m 1 (aA .i64 s)) (OQ : Small 8192 s) (hm : m ≤ 64) :
    Does Tryz.prog 152 #[.slice A m cap] K F
      (fun v H' => ∃ g cap' r, v = .slice (some ⟨g, 0, none⟩) (mZ s) cap' ∧ H' = Cells g 3 (aA .i64 (lU s) ++ r) :: F) := by
  have hl : s.length = m := by simpa [aA] using hs.len
  refine Does.enter Tryz.func152 rfl Tryz.ntmps152 rfl ?_
  simp only [aI, Nat.reduceAdd]
  refine WC.sr (WL.sg rfl rfl (WL.nil (WC.sr ?_)))
  refine WL.buildSlice (E := 3) (cs := [_]) (vs := [(0, _)]) ⟨OV.p rfl, trivial⟩ rfl (bT _) rfl (fun b17 => ?_)
  refine WL.buildSlice (E := 3) (cs := [_]) (vs := [(0, _)]) ⟨OV.p rfl, trivial⟩ rfl (bT _) rfl (fun b18 => ?_)
  refine WL.sg rfl rfl (WL.sg rfl rfl (WL.nil (WC.sr (WL.sg rfl rfl (WL.sg rfl rfl (WL.sg rfl rfl (WL.nil (WC.seq (WC.sr (WL.mv rfl rfl (WL.val (V.len (t := 24) Tryz.runUnderlying24 (OV.p rfl)) rfl (WL.mv rfl rfl (WL.nil (WC.block ?_))))))))))))))
  refine WC.loop (σ := Uc) (fun x => [(0, .slice A m cap), (3, .slice (some ⟨x.gc, 0, none⟩) (gK s x.n).c.length x.cc), (4, .slice (some ⟨x.gb, 0, none⟩) (gK s x.n).b.length x.cb), (5, .int .i64 ((gK s x.n).length : Nat)), (6, .int .i64 ((gK s x.n).shift : Nat)), (7, .int .i64 ((gK s x.n).last : Nat)), (20, .int .i64 (m : Int)), (21, .int .i64 (x.n : Int))]) (fun x => Cells x.gc 3 (aA .i64 (gK s x.n).c ++ x.rc) :: Cells x.gb 3 (aA .i64 (gK s x.n).b ++ x.rb) :: F) (fun x => x.n ≤ m ∧ (gK s x.n).c.length ≤ x.cc ∧ (gK s x.n).b.length ≤ x.cb) (fun x => m - x.n) ⟨0, b17, b18, 1, 1, [], []⟩ ⟨Nat.zero_le _, Nat.le_refl _, Nat.le_refl _⟩ (.cons rfl (.cons rfl (.cons rfl (.cons rfl (.cons rfl (.cons rfl (.cons rfl (.cons rfl (.nil _))))))))) (fun w h => h.sel 2 [1, 0] rfl) ?_
  rintro ⟨n, gc, gb, cc, cb, rc, rb⟩ ⟨hn, hcc, hcb⟩
  dsimp only at hn hcc hcb ⊢
  obtain ⟨x, hx⟩ : ∃ x, x = gK s n := ⟨_, rfl⟩
  have hxo : x.Ok n := by rw [hx]; exact vK OQ n
  have hxs : gK s (n + 1) = pR s n x := by rw [gK, ← hx]
  rw [← hx] at hcc hcb ⊢
  obtain ⟨VA, Vp, Vu, xl, Rl, Un, Tc, Uz⟩ := hxo
  refine WC.sr (WL.val (V.lss (OV.p rfl) (OV.p rfl)) rfl (WL.nil (WC.seq ?_)))
  refine WC.cond rfl (fun hc0 => ?_) (fun hc0 => ?_)
  ·simp only [decide_eq_true_eq, decide_eq_false_iff_not] at hc0
   refine WC.skip (WC.seq (WC.block (WC.sr (WL.mv rfl rfl (WL.sg rfl rfl (WL.nil (WC.seq ?_)))))))
   have hnm : n < m := by omega
   have hsu : ∀ {X Y : ak}, Seq K (X :: Y :: F) A m 1 (aA .i64 s) := fun {X Y} => hs.up.up
   have hsn : ∀ {X Y : ak}, Rd K (X :: Y :: F) (A.map (·.add ((n : Int).toNat * 1))) (.int .i64 (s.getD n 0 : Nat)) := fun {X Y} => by
     rw [show (n : Int).toNat = n by omega]; exact hsu.gU (by omega)
   refine WC.region (WL.mv rfl rfl (WL.mv rfl rfl ?_))
   refine WL.val (V.dS bZ (OV.p rfl) (OV.p rfl) (fun hc => by omega) (fun hc => hsn)) rfl ?_
   refine WL.val (V.load Tryz.isAgg3 (OV.p rfl) (fun hc => hsn)) rfl ?_
   refine WL.sg rfl rfl (WL.nil (WC.seq (WC.sr (WL.sg rfl rfl (WL.nil (WC.block ?_))))))
   refine WC.loop (σ := Nat) (fun k => [(0, .slice A m cap), (3, .slice (some ⟨gc, 0, none⟩) x.c.length cc), (4, .slice (some ⟨gb, 0, none⟩) x.b.length cb), (5, .int .i64 (x.length : Nat)), (6, .int .i64 (x.shift : Nat)), (7, .int .i64 (x.last : Nat)), (20, .int .i64 (m : Int)), (21, .int .i64 (n : Int)), (8, .int .i64 (n : Int)), (9, .int .i64 (qx s x.c n k : Nat)), (10, .int .i64 ((k : Int) + 1))]) (fun k => Cells gc 3 (aA .i64 x.c ++ rc) :: Cells gb 3 (aA .i64 x.b ++ rb) :: F) (fun k => k ≤ min x.length (x.c.length - 1)) (fun k => min x.length (x.c.length - 1) - k) 0 (Nat.zero_le _) (.cons rfl (.cons rfl (.cons rfl (.cons rfl (.cons rfl (.cons rfl (.cons rfl (.cons rfl (.cons rfl (.cons rfl (.cons rfl (.nil _)))))))))))) (fun w h => h) ?_
   rintro k hk
   refine WC.seq (WC.sr (WL.mv rfl rfl (WL.mv rfl rfl (WL.val (V.leq (OV.p rfl) (OV.p rfl)) rfl (WL.mv rfl rfl (WL.av (oj := _) rfl rfl rfl GC.t (V.move (OV.p rfl)) rfl (WL.av (oj := _) rfl rfl rfl GC.t (V.move (OV.p rfl)) rfl (WL.av (oj := _) rfl rfl rfl GC.t (V.len (t := 24) Tryz.runUnderlying24 (OV.g rfl id)) rfl (WL.av (oj := _) rfl rfl rfl GC.t (V.lss (OV.g rfl id) (OV.g rfl id)) rfl (WL.val (V.aJ (OV.p rfl) (OV.g rfl id)) rfl (WL.nil ?_)))))))))))
   refine WC.cond rfl (fun hc1 => ?_) (fun hc1 => ?_)
   ·simp only [Bool.and_eq_true, Bool.and_eq_false_iff, decide_eq_true_eq, decide_eq_false_iff_not] at hc1
    have h0 := hc1
    refine WC.skip (WC.seq (WC.block ?_))
    have hkl : k + 1 ≤ x.length ∧ k + 1 < x.c.length := by omega
    have hgc : (aA .i64 x.c ++ rc)[0 + ((k : Int) + 1).toNat * 1]? = some (.int .i64 (x.c.getD (k + 1) 0 : Nat)) := by rw [show 0 + ((k : Int) + 1).toNat * 1 = k + 1 by omega]; exact ji _ _ _ (by omega)
    have Q6 : ∀ {X Y : ak}, Rd K (X :: Y :: F) (A.map (·.add (((n : Int) - ((k : Int) + 1)).toNat * 1))) (.int .i64 (s.getD (n - (k + 1)) 0 : Nat)) := fun {X Y} => by
      rw [show ((n : Int) - ((k : Int) + 1)).toNat = n - (k + 1) by omega]; exact hsu.gU (by omega)
    have hcl := Rl.at_ (by decide) (k + 1)
    have hsl := OQ.at_ (by decide) (n - (k + 1))
    refine WC.eG (by kernel_rfl) (by kernel_rfl) ?_
    refine WQ.val (V.move (OV.p rfl)) rfl (WQ.val (V.move (OV.p rfl)) rfl (WQ.val (V.move (OV.p rfl)) rfl ?_))
    refine WQ.val (V.bR bZ (OV.p rfl) (OV.p rfl) (fun hc => by omega)) rfl ?_
    refine WQ.val (V.load Tryz.isAgg3 (OV.p rfl) (fun hc => Rd.here hgc)) rfl ?_
    refine WQ.val (V.move (OV.p rfl)) rfl (WQ.val (V.move (OV.p rfl)) rfl (WQ.val (V.move (OV.p rfl)) rfl ?_))
    refine WQ.val (V.tu (OV.p rfl) (OV.p rfl) (fun hc => by first | omega | (simp at hc; omega))) rfl ?_
    refine WQ.val (V.dS bZ (OV.p rfl) (OV.p rfl) (fun hc => by omega) (fun hc => Q6)) rfl ?_
    refine WQ.val (V.load Tryz.isAgg3 (OV.p rfl) (fun hc => Q6)) rfl ?_
    refine WQ.call (vs := [_, _]) Tryz.call156 ⟨OV.p rfl, OV.p rfl, trivial⟩ (qV hcl hsl) rfl ?_
    refine WQ.val (V.aC (v' := .int .i64 (qx s x.c n (k + 1) : Nat)) (V.xor (OV.p rfl) (OV.p rfl)) (fun _ => by rw [jr (by have := pE OQ Rl (n := n) k; omega) (by have := aR (b := s.getD (n - (k + 1)) 0) hcl; omega), qx])) rfl ?_
    refine WQ.val (V.assign (OV.p rfl)) rfl (WQ.nil (WC.region (WL.mv rfl rfl (WL.ad rfl rfl rfl ?_))))
    refine WL.sg rfl rfl (WL.nil ?_)
    refine ⟨rfl, ?_⟩
    exact ⟨k + 1, (by show k + 1 ≤ min x.length (x.c.length - 1); omega), (by show min x.length (x.c.length - 1) - (k + 1) < min x.length (x.c.length - 1) - k; omega), .cons rfl (.cons rfl (.cons rfl (.cons rfl (.cons rfl (.cons rfl (.cons rfl (.cons rfl (.cons rfl (.cons rfl (.cons (look_eq rfl (by simp)) (.nil _))))))))))), fun w h => h⟩
   ·simp only [Bool.and_eq_true, Bool.and_eq_false_iff, decide_eq_true_eq, decide_eq_false_iff_not] at hc1
    have h0 := hc1
    refine WC.exit (WC.seq (WC.seq ?_))
    have hke : k = min x.length (x.c.length - 1) := by
      rcases h0 with h | h <;> omega
    have hD : qx s x.c n k = Bt s n x := by rw [hke]; rfl
    obtain ⟨d, hd⟩ : ∃ d, d = Bt s n x := ⟨_, rfl⟩
    rw [hD, ← hd]
    have BI : d < 8192 := by rw [hd]; exact pE OQ Rl _
    unfold pR at hxs
    rw [← hd] at hxs
    refine WC.region (WL.mv rfl rfl (WL.val (V.eql (OV.p rfl) (OV.p rfl)) rfl (WL.nil ?_)))
    refine WC.cond rfl (fun hc2 => ?_) (fun hc2 => ?_)
    ·simp only [decide_eq_true_eq, decide_eq_false_iff_not] at hc2
     have h2 := hc2
     rw [if_pos (by omega)] at hxs
     refine WC.sr (WL.mv rfl rfl (WL.ad rfl rfl rfl ?_))
     refine WL.sg rfl rfl (WL.nil (WC.exit (WC.region (WL.ad rfl rfl rfl ?_))))
     refine WL.mv rfl rfl (WL.nil ?_)
     refine ⟨rfl, ?_⟩
     first
     | exact ⟨⟨n + 1, gc, gb, cc, cb, rc, rb⟩, ⟨by show n + 1 ≤ m; omega, by show (gK s (n + 1)).c.length ≤ cc; rw [hxs]; exact hcc, by show (gK s (n + 1)).b.length ≤ cb; rw [hxs]; exact hcb⟩, (by show m - (n + 1) < m - n; omega), .cons rfl (.cons (look_eq rfl (by rw [hxs])) (.cons (look_eq rfl (by rw [hxs])) (.cons (look_eq rfl (by rw [hxs])) (.cons (look_eq rfl (by rw [hxs]; simp)) (.cons (look_eq rfl (by rw [hxs])) (.cons rfl (.cons (look_eq rfl (by simp)) (.nil _)))))))), fun w h => by dsimp only; rw [hxs]; exact h⟩
     | exact ⟨⟨n + 1, g3, go, c3, c1, r3, ro⟩, ⟨by show n + 1 ≤ m; omega, by show (gK s (n + 1)).c.length ≤ c3; rw [hxs]; exact GZ, by show (gK s (n + 1)).b.length ≤ c1; rw [hxs]; exact hco⟩, (by show m - (n + 1) < m - n; omega), .cons rfl (.cons (look_eq rfl (by rw [hxs])) (.cons (look_eq rfl (by rw [hxs])) (.cons (look_eq rfl (by rw [hxs]; simp; omega)) (.cons (look_eq rfl (by rw [hxs]; rfl)) (.cons (look_eq rfl (by rw [hxs])) (.cons rfl (.cons (look_eq rfl (by simp)) (.nil _)))))))), fun w h => by dsimp only; rw [hxs]; exact h.sel 3 [0, 1] rfl⟩
     | exact ⟨⟨n + 1, g3, gb, c3, cb, r3, rb⟩, ⟨by show n + 1 ≤ m; omega, by show (gK s (n + 1)).c.length ≤ c3; rw [hxs]; exact GZ, by show (gK s (n + 1)).b.length ≤ cb; rw [hxs]; exact hcb⟩, (by show m - (n + 1) < m - n; omega), .cons rfl (.cons (look_eq rfl (by rw [hxs])) (.cons (look_eq rfl (by rw [hxs])) (.cons (look_eq rfl (by rw [hxs])) (.cons (look_eq rfl (by rw [hxs]; simp)) (.cons (look_eq rfl (by rw [hxs])) (.cons rfl (.cons (look_eq rfl (by simp)) (.nil _)))))))), fun w h => by dsimp only; rw [hxs]; exact h.sel 3 [0, 2] rfl⟩
    ·simp only [decide_eq_true_eq, decide_eq_false_iff_not] at hc2
     have h2 := hc2
     have hd0 : d ≠ 0 := by omega
     rw [if_neg hd0] at hxs
     refine WC.skip (WC.sr (WL.mv rfl rfl (WL.call (vs := [_]) Tryz.call166 ⟨OV.p rfl, trivial⟩ (O4 Tc Uz) rfl ?_)))
     rintro _ H0 ⟨rfl, h0⟩
     subst H0
     refine WL.mv rfl rfl (WL.xt rfl rfl rfl (WL.xt rfl rfl rfl (WL.sg rfl rfl (WL.sg rfl rfl (WL.nil (WC.sr (WL.mv rfl rfl (WL.mv rfl rfl (WL.call (vs := [_, _]) Tryz.call156 ⟨OV.p rfl, OV.p rfl, trivial⟩ (qV BI (Ed Tc)) rfl ?_)))))))))
     rintro _ H0 ⟨rfl, h0⟩
     subst H0
     refine WL.sg rfl rfl (WL.nil (WC.seq ?_))
     obtain ⟨y, hy⟩ : ∃ y, y = aN d (Er x.last) := ⟨_, rfl⟩
     have QD : y < 8192 := by rw [hy]; exact aR BI
     rw [← hy]
     refine WC.region (WL.mv rfl rfl ?_)
     refine WL.call (vs := [_]) Tryz.call57 ⟨OV.p rfl, trivial⟩ (x9 (xs := x.c) (Seq.here (by rw [aH]; omega) (by rw [List.drop_zero]; exact List.prefix_append _ _)) (by omega)) rfl ?_
     rintro _ _ ⟨A1, c1, rfl, rfl⟩
     refine WL.ex (uU (by omega)) (fun ⟨go, ro⟩ ⟨e1, hr1, hc1⟩ => ?_)
     dsimp only at e1 hr1 ⊢
     subst e1
     have hco : x.c.length ≤ c1 := by rw [← hr1, List.length_append, aH]; omega
     refine WL.sg rfl rfl (WL.nil (WC.seq (WC.block ?_)))
     refine WC.loop (σ := Nat × Nat × Nat × List Value) (fun z => [(0, .slice A m cap), (3, .slice (some ⟨z.2.1, 0, none⟩) (x.c.length + z.1) z.2.2.1), (4, .slice (some ⟨gb, 0, none⟩) x.b.length cb), (5, .int .i64 (x.length : Nat)), (6, .int .i64 (x.shift : Nat)), (7, .int .i64 (x.last : Nat)), (20, .int .i64 (m : Int)), (21, .int .i64 (n : Int)), (8, .int .i64 (n : Int)), (9, .int .i64 (d : Nat)), (13, .int .i64 (y : Nat)), (14, .slice (some ⟨go, 0, none⟩) x.c.length c1)]) (fun z => Cells z.2.1 3 (aA .i64 (x.c ++ List.replicate z.1 0) ++ z.2.2.2) :: Cells go 3 (aA .i64 x.c ++ ro) :: Cells gb 3 (aA .i64 x.b ++ rb) :: F) (fun z => z.1 ≤ x.b.length + x.shift - x.c.length ∧ x.c.length + z.1 ≤ z.2.2.1) (fun z => x.b.length + x.shift - z.1) (0, gc, cc, rc) ⟨Nat.zero_le _, hcc⟩ (.cons rfl (.cons rfl (.cons rfl (.cons rfl (.cons rfl (.cons rfl (.cons rfl (.cons rfl (.cons rfl (.cons rfl (.cons rfl (.cons rfl (.nil _))))))))))))) (fun w h => Sat.aV (h.sel 3 [1, 0, 2] rfl) (by simp)) ?_
     rintro ⟨z, g, cz, rz⟩ ⟨hz, hzc⟩
     dsimp only at hz hzc ⊢
     refine WC.seq (WC.sr (WL.mv rfl rfl (WL.val (V.len (t := 24) Tryz.runUnderlying24 (OV.p rfl)) rfl (WL.mv rfl rfl (WL.val (V.len (t := 24) Tryz.runUnderlying24 (OV.p rfl)) rfl (WL.mv rfl rfl (WL.ad rfl rfl rfl ?_)))))))
     refine WL.val (V.lss (OV.p rfl) (OV.p rfl)) rfl (WL.nil ?_)
     refine WC.cond rfl (fun hc3 => ?_) (fun hc3 => ?_)
     ·simp only [decide_eq_true_eq, decide_eq_false_iff_not] at hc3
      refine WC.skip (WC.block (WC.region (WL.mv rfl rfl (WL.mv rfl rfl (WL.val (V.len (t := 24) Tryz.runUnderlying24 (OV.p rfl)) rfl (WL.mv rfl rfl (WL.val (V.len (t := 24) Tryz.runUnderlying24 (OV.p rfl)) rfl ?_)))))))
      refine WL.val (V.aC (v' := .slice (some ⟨g, 0, none⟩) (x.c.length + z) (x.c.length + z)) (V.slice (l := 0) (h := x.c.length + z) (u := x.c.length + z) bZ (OV.p rfl) OO.none (OO.some (OV.p rfl) (fun _ => by omega)) (OO.some (OV.p rfl) (fun _ => by omega)) (by simp) (Nat.zero_le _) (Nat.le_refl _) hzc) (fun _ => by simp [gL])) rfl ?_
      refine WL.buildSlice (E := 3) (cs := [_]) (vs := [(0, _)]) ⟨OV.p rfl, trivial⟩ rfl (bT _) rfl (fun Vn => ?_)
      have hzl : (aA .i64 (x.c ++ List.replicate z 0)).length = x.c.length + z := by simp [aA]
      refine WL.rO (m := x.c.length + z) (q := 1) (cs := aA .i64 (x.c ++ List.replicate z 0)) (news := [.int .i64 0]) Tryz.underlying24 el3 (OV.p rfl) (OV.p rfl) (Seq.up (Seq.here (by omega) (by rw [List.drop_zero]; exact List.prefix_append _ _))) (Seq.all rfl) (by omega) (by omega) (by decide) (by omega) rfl rfl (fun A2 c2 hA2 hc2 => ?_)
      refine WL.ex (uU (by omega)) (fun ⟨g2, r2⟩ ⟨e2, hr2, hc2'⟩ => ?_)
      dsimp only at e2 hr2 ⊢
      subst e2
      refine WL.sg rfl rfl (WL.nil ?_)
      refine ⟨rfl, ?_⟩
      exact ⟨(z + 1, g2, c2, r2), ⟨by show z + 1 ≤ x.b.length + x.shift - x.c.length; omega, hc2⟩, (by show x.b.length + x.shift - (z + 1) < x.b.length + x.shift - z; omega), .cons rfl (.cons rfl (.cons rfl (.cons rfl (.cons rfl (.cons rfl (.cons rfl (.cons rfl (.cons rfl (.cons rfl (.cons rfl (.cons rfl (.nil _)))))))))))), fun w h => Sat.aV (h.sel 5 [0, 3, 4] rfl) (by simp [aA, List.replicate_succ'])⟩
     ·simp only [decide_eq_true_eq, decide_eq_false_iff_not] at hc3
      refine WC.exit (WC.seq ?_)
      have Td : z = x.b.length + x.shift - x.c.length := by omega
      have hex : x.c ++ List.replicate z 0 = jV x := by rw [Td]; rfl
      have RL : (jV x).length = x.c.length + z := by rw [nY, Td]
      have RA : Small 8192 (jV x) := Rl.append (Small.vZ (by decide))
      rw [hex, ← RL]
      refine WC.region (WL.mv rfl rfl ?_)
      refine WL.call (vs := [_]) Tryz.call57 ⟨OV.p rfl, trivial⟩ (x9 (xs := jV x) (Seq.here (by rw [aH]; omega) (by rw [List.drop_zero]; exact List.prefix_append _ _)) (by omega)) rfl ?_
      rintro _ _ ⟨A3, c3, rfl, rfl⟩
      refine WL.ex (uU (by omega)) (fun ⟨g3, r3⟩ ⟨e3, hr3, hc3⟩ => ?_)
      dsimp only at e3 hr3 ⊢
      subst e3
      have GZ : (jV x).length ≤ c3 := by rw [← hr3, List.length_append, aH]; omega
      refine WL.sg rfl rfl (WL.nil (WC.seq (WC.sr (WL.mv rfl rfl (WL.val (V.len (t := 24) Tryz.runUnderlying24 (OV.p rfl)) rfl (WL.mv rfl rfl (WL.nil (WC.block ?_))))))))
      refine WC.loop (σ := Nat) (fun k => [(0, .slice A m cap), (3, .slice (some ⟨g3, 0, none⟩) (jV x).length c3), (4, .slice (some ⟨gb, 0, none⟩) x.b.length cb), (5, .int .i64 (x.length : Nat)), (6, .int .i64 (x.shift : Nat)), (7, .int .i64 (x.last : Nat)), (20, .int .i64 (m : Int)), (21, .int .i64 (n : Int)), (8, .int .i64 (n : Int)), (9, .int .i64 (d : Nat)), (13, .int .i64 (y : Nat)), (14, .slice (some ⟨go, 0, none⟩) x.c.length c1), (83, .slice (some ⟨gb, 0, none⟩) x.b.length cb), (84, .int .i64 (x.b.length : Nat)), (85, .int .i64 (k : Int))]) (fun k => Cells g3 3 (aA .i64 (jR (jV x) x.b y x.shift k) ++ r3) :: Cells go 3 (aA .i64 x.c ++ ro) :: Cells gb 3 (aA .i64 x.b ++ rb) :: F) (fun k => k ≤ x.b.length) (fun k => x.b.length - k) 0 (Nat.zero_le _) (.cons rfl (.cons rfl (.cons rfl (.cons rfl (.cons rfl (.cons rfl (.cons rfl (.cons rfl (.cons rfl (.cons rfl (.cons rfl (.cons rfl (.cons rfl (.cons rfl (.cons rfl (.nil _)))))))))))))))) (fun w h => h.sel 4 [0, 2, 3] rfl) ?_
      rintro k hk2
      refine WC.sr (WL.val (V.lss (OV.p rfl) (OV.p rfl)) rfl (WL.nil (WC.seq ?_)))
      refine WC.cond rfl (fun hc4 => ?_) (fun hc4 => ?_)
      ·simp only [decide_eq_true_eq, decide_eq_false_iff_not] at hc4
       refine WC.skip (WC.seq (WC.block (WC.seq ?_)))
       have hkb : k < x.b.length := by omega
       obtain ⟨o, ho⟩ : ∃ o, o = jR (jV x) x.b y x.shift k := ⟨_, rfl⟩
       have hol : o.length = (jV x).length := by rw [ho, kS]
       have hos : Small 8192 o := by rw [ho]; exact mh RA QD k
       rw [← ho]
       have hrb : Rd K (Cells g3 3 (aA .i64 o ++ r3) :: Cells go 3 (aA .i64 x.c ++ ro) :: Cells gb 3 (aA .i64 x.b ++ rb) :: F) (some ⟨gb, 0 + (k : Int).toNat * 1, none⟩) (.int .i64 (x.b.getD k 0 : Nat)) := by
         rw [show 0 + (k : Int).toNat * 1 = k by omega]; exact Rd.up (Rd.up (Rd.here (ji _ _ _ hkb)))
       have hgo : (aA .i64 o ++ r3)[0 + ((k : Int) + (x.shift : Int)).toNat * 1]? = some (.int .i64 (o.getD (k + x.shift) 0 : Nat)) := by rw [show 0 + ((k : Int) + (x.shift : Int)).toNat * 1 = k + x.shift by omega]; exact ji _ _ _ (by omega)
       have hbl := Un.at_ (by decide) k
       refine WC.region (WL.mv rfl rfl ?_)
       refine WL.val (V.bR bZ (OV.p rfl) (OV.p rfl) (fun hc => by omega)) rfl ?_
       refine WL.val (V.load Tryz.isAgg3 (OV.p rfl) (fun hc => hrb)) rfl ?_
       refine WL.sg rfl rfl (WL.sg rfl rfl (WL.nil ?_))
       refine WC.dR (Cells go 3 (aA .i64 x.c ++ ro) :: Cells gb 3 (aA .i64 x.b ++ rb) :: F) (by kernel_rfl) ?_
       refine WA.t 0 rfl (V.move (OV.p rfl)) (WA.t 1 rfl (V.move (OV.p rfl)) (WA.t 2 rfl (V.move (OV.p rfl)) ?_))
       refine WA.t 3 rfl (V.lI (OV.p rfl) (OV.p rfl) (fun hc => by first | omega | (simp at hc; omega))) ?_
       refine WA.t 4 rfl (V.bR bZ (OV.p rfl) (OV.p rfl) (fun hc => by omega)) ?_
       refine WA.t 6 rfl (V.move (OV.p rfl)) (WA.t 7 rfl (V.move (OV.p rfl)) ?_)
       refine WA.two (i := 5) (j := 8) (fun w h => by repeat (first | exact h | replace h := h.tail)) (by kernel_rfl) rfl rfl ?_ ?_
       ·refine WL.val (V.load Tryz.isAgg3 (OV.p rfl) (fun hc => Rd.here hgo)) rfl ?_
        refine WL.nil (WA.o 8 rfl (WL.call (vs := [_, _]) Tryz.call156 ⟨OV.p rfl, OV.p rfl, trivial⟩ (qV QD hbl) rfl ?_))
        rintro _ H0 ⟨rfl, h0⟩
        subst H0
        refine WL.nil ?_
        refine WA.t 9 rfl (V.aC (v' := .int .i64 ((o.getD (k + x.shift) 0 ^^^ aN y (x.b.getD k 0) : Nat) : Int)) (V.xor (OV.p rfl) (OV.p rfl)) (fun _ => by rw [jr (by have := hos.at_ (by decide) (k + x.shift); omega) (by have := aR (b := x.b.getD k 0) QD; omega)])) ?_
        refine WA.t 10 rfl (V.bR bZ (OV.p rfl) (OV.p rfl) (fun hc => by omega)) ?_
        refine WA.o 11 rfl ?_
        refine WL.store (cs := [_]) Tryz.sizeOf3 (OV.p rfl) (OV.p rfl) rfl rfl rfl (bA.at_ (by rw [List.length_append, aH]; omega)) ?_
        refine WL.nil (WA.fin (WC.region (WL.ad rfl rfl rfl ?_)))
        refine WL.mv rfl rfl (WL.nil ?_)
        refine ⟨rfl, ?_⟩
        refine ⟨k + 1, (by show k + 1 ≤ x.b.length; omega), (by show x.b.length - (k + 1) < x.b.length - k; omega), .cons rfl (.cons rfl (.cons rfl (.cons rfl (.cons rfl (.cons rfl (.cons rfl (.cons rfl (.cons rfl (.cons rfl (.cons rfl (.cons rfl (.cons rfl (.cons rfl (.cons (look_eq rfl (by simp)) (.nil _))))))))))))))), fun w h => Sat.aV h ?_⟩
        rw [show 0 + ((k : Int) + (x.shift : Int)).toNat * 1 = k + x.shift by omega, jH _ _ _ (by omega), jR, ← ho]
       ·refine WL.call (vs := [_, _]) Tryz.call156 ⟨OV.p rfl, OV.p rfl, trivial⟩ (qV QD hbl) rfl ?_
        rintro _ H0 ⟨rfl, h0⟩
        subst H0
        refine WL.nil (WA.o 5 rfl ?_)
        refine WL.val (V.load Tryz.isAgg3 (OV.p rfl) (fun hc => Rd.here hgo)) rfl ?_
        refine WL.nil ?_
        refine WA.t 9 rfl (V.aC (v' := .int .i64 ((o.getD (k + x.shift) 0 ^^^ aN y (x.b.getD k 0) : Nat) : Int)) (V.xor (OV.p rfl) (OV.p rfl)) (fun _ => by rw [jr (by have := hos.at_ (by decide) (k + x.shift); omega) (by have := aR (b := x.b.getD k 0) QD; omega)])) ?_
        refine WA.t 10 rfl (V.bR bZ (OV.p rfl) (OV.p rfl) (fun hc => by omega)) ?_
        refine WA.o 11 rfl ?_
        refine WL.store (cs := [_]) Tryz.sizeOf3 (OV.p rfl) (OV.p rfl) rfl rfl rfl (bA.at_ (by rw [List.length_append, aH]; omega)) ?_
        refine WL.nil (WA.fin (WC.region (WL.ad rfl rfl rfl ?_)))
        refine WL.mv rfl rfl (WL.nil ?_)
        refine ⟨rfl, ?_⟩
        refine ⟨k + 1, (by show k + 1 ≤ x.b.length; omega), (by show x.b.length - (k + 1) < x.b.length - k; omega), .cons rfl (.cons rfl (.cons rfl (.cons rfl (.cons rfl (.cons rfl (.cons rfl (.cons rfl (.cons rfl (.cons rfl (.cons rfl (.cons rfl (.cons rfl (.cons rfl (.cons (look_eq rfl (by simp)) (.nil _))))))))))))))), fun w h => Sat.aV h ?_⟩
        rw [show 0 + ((k : Int) + (x.shift : Int)).toNat * 1 = k + x.shift by omega, jH _ _ _ (by omega), jR, ← ho]
      ·simp only [decide_eq_true_eq, decide_eq_false_iff_not] at hc4
       refine WC.exit (WC.seq ?_)
       obtain rfl : k = x.b.length := by omega
       have hC : jR (jV x) x.b y x.shift x.b.length = Et x d := by rw [hy]; rfl
       rw [hC]
       have TR : (Et x d).length = (jV x).length := Ar x d
       rw [← TR] at GZ ⊢
       refine WC.region (WL.mv rfl rfl ?_)
       refine WL.val (V.jF (OV.p rfl) (OV.p rfl) (fun hc => by first | omega | (simp at hc; omega))) rfl ?_
       refine WL.mv rfl rfl (WL.val (V.leq (OV.p rfl) (OV.p rfl)) rfl (WL.nil ?_))
       refine WC.cond rfl (fun ny => ?_) (fun ny => ?_)
       ·simp only [decide_eq_true_eq, decide_eq_false_iff_not] at ny
        have h5 := ny
        rw [if_pos (by omega)] at hxs
        refine WC.region (WL.mv rfl rfl (WL.ad rfl rfl rfl ?_))
        refine WL.mv rfl rfl (WL.sb rfl rfl rfl ?_)
        refine WL.mv rfl rfl (WL.mv rfl rfl (WL.sg rfl rfl (WL.sg rfl rfl (WL.sg rfl rfl (WL.sg rfl rfl (WL.nil (WC.region (WL.ad rfl rfl rfl ?_))))))))
        refine WL.mv rfl rfl (WL.nil ?_)
        refine ⟨rfl, ?_⟩
        first
        | exact ⟨⟨n + 1, gc, gb, cc, cb, rc, rb⟩, ⟨by show n + 1 ≤ m; omega, by show (gK s (n + 1)).c.length ≤ cc; rw [hxs]; exact hcc, by show (gK s (n + 1)).b.length ≤ cb; rw [hxs]; exact hcb⟩, (by show m - (n + 1) < m - n; omega), .cons rfl (.cons (look_eq rfl (by rw [hxs])) (.cons (look_eq rfl (by rw [hxs])) (.cons (look_eq rfl (by rw [hxs])) (.cons (look_eq rfl (by rw [hxs]; simp)) (.cons (look_eq rfl (by rw [hxs])) (.cons rfl (.cons (look_eq rfl (by simp)) (.nil _)))))))), fun w h => by dsimp only; rw [hxs]; exact h⟩
        | exact ⟨⟨n + 1, g3, go, c3, c1, r3, ro⟩, ⟨by show n + 1 ≤ m; omega, by show (gK s (n + 1)).c.length ≤ c3; rw [hxs]; exact GZ, by show (gK s (n + 1)).b.length ≤ c1; rw [hxs]; exact hco⟩, (by show m - (n + 1) < m - n; omega), .cons rfl (.cons (look_eq rfl (by rw [hxs])) (.cons (look_eq rfl (by rw [hxs])) (.cons (look_eq rfl (by rw [hxs]; simp; omega)) (.cons (look_eq rfl (by rw [hxs]; rfl)) (.cons (look_eq rfl (by rw [hxs])) (.cons rfl (.cons (look_eq rfl (by simp)) (.nil _)))))))), fun w h => by dsimp only; rw [hxs]; exact h.sel 3 [0, 1] rfl⟩
        | exact ⟨⟨n + 1, g3, gb, c3, cb, r3, rb⟩, ⟨by show n + 1 ≤ m; omega, by show (gK s (n + 1)).c.length ≤ c3; rw [hxs]; exact GZ, by show (gK s (n + 1)).b.length ≤ cb; rw [hxs]; exact hcb⟩, (by show m - (n + 1) < m - n; omega), .cons rfl (.cons (look_eq rfl (by rw [hxs])) (.cons (look_eq rfl (by rw [hxs])) (.cons (look_eq rfl (by rw [hxs])) (.cons (look_eq rfl (by rw [hxs]; simp)) (.cons (look_eq rfl (by rw [hxs])) (.cons rfl (.cons (look_eq rfl (by simp)) (.nil _)))))))), fun w h => by dsimp only; rw [hxs]; exact h.sel 3 [0, 2] rfl⟩
       ·simp only [decide_eq_true_eq, decide_eq_false_iff_not] at ny
        have h5 := ny
        rw [if_neg (by omega)] at hxs
        refine WC.region (WL.mv rfl rfl (WL.ad rfl rfl rfl ?_))
        refine WL.sg rfl rfl (WL.nil (WC.region (WL.ad rfl rfl rfl ?_)))
        refine WL.mv rfl rfl (WL.nil ?_)
        refine ⟨rfl, ?_⟩
        first
        | exact ⟨⟨n + 1, gc, gb, cc, cb, rc, rb⟩, ⟨by show n + 1 ≤ m; omega, by show (gK s (n + 1)).c.length ≤ cc; rw [hxs]; exact hcc, by show (gK s (n + 1)).b.length ≤ cb; rw [hxs]; exact hcb⟩, (by show m - (n + 1) < m - n; omega), .cons rfl (.cons (look_eq rfl (by rw [hxs])) (.cons (look_eq rfl (by rw [hxs])) (.cons (look_eq rfl (by rw [hxs])) (.cons (look_eq rfl (by rw [hxs]; simp)) (.cons (look_eq rfl (by rw [hxs])) (.cons rfl (.cons (look_eq rfl (by simp)) (.nil _)))))))), fun w h => by dsimp only; rw [hxs]; exact h⟩
        | exact ⟨⟨n + 1, g3, go, c3, c1, r3, ro⟩, ⟨by show n + 1 ≤ m; omega, by show (gK s (n + 1)).c.length ≤ c3; rw [hxs]; exact GZ, by show (gK s (n + 1)).b.length ≤ c1; rw [hxs]; exact hco⟩, (by show m - (n + 1) < m - n; omega), .cons rfl (.cons (look_eq rfl (by rw [hxs])) (.cons (look_eq rfl (by rw [hxs])) (.cons (look_eq rfl (by rw [hxs]; simp; omega)) (.cons (look_eq rfl (by rw [hxs]; rfl)) (.cons (look_eq rfl (by rw [hxs])) (.cons rfl (.cons (look_eq rfl (by simp)) (.nil _)))))))), fun w h => by dsimp only; rw [hxs]; exact h.sel 3 [0, 1] rfl⟩
        | exact ⟨⟨n + 1, g3, gb, c3, cb, r3, rb⟩, ⟨by show n + 1 ≤ m; omega, by show (gK s (n + 1)).c.length ≤ c3; rw [hxs]; exact GZ, by show (gK s (n + 1)).b.length ≤ cb; rw [hxs]; exact hcb⟩, (by show m - (n + 1) < m - n; omega), .cons rfl (.cons (look_eq rfl (by rw [hxs])) (.cons (look_eq rfl (by rw [hxs])) (.cons (look_eq rfl (by rw [hxs])) (.cons (look_eq rfl (by rw [hxs]; simp)) (.cons (look_eq rfl (by rw [hxs])) (.cons rfl (.cons (look_eq rfl (by simp)) (.nil _)))))))), fun w h => by dsimp only; rw [hxs]; exact h.sel 3 [0, 2] rfl⟩
  ·simp only [decide_eq_true_eq, decide_eq_false_iff_not] at hc0
   refine WC.exit (WC.seq (WC.block ?_))
   refine WC.loop (σ := Nat) (fun j => [(3, .slice (some ⟨gc, 0, none⟩) j cc)]) (fun j => Cells gc 3 (aA .i64 x.c ++ rc) :: F) (fun j => j ≤ x.c.length ∧ aF x.c j = aF x.c x.c.length) (fun j => j) x.c.length ⟨Nat.le_refl _, rfl⟩ (.cons rfl (.nil _)) (fun w h => h.sel 2 [0] rfl) ?_
   rintro j ⟨hj, hjn⟩
   have hgc : 0 < j → (aA .i64 x.c ++ rc)[0 + ((j : Int) - 1).toNat * 1]? = some (.int .i64 (x.c.getD (j - 1) 0 : Nat)) := fun h => by rw [show 0 + ((j : Int) - 1).toNat * 1 = j - 1 by omega]; exact ji _ _ _ (by omega)
   refine WC.seq (WC.sr (WL.mv rfl rfl (WL.val (V.len (t := 24) Tryz.runUnderlying24 (OV.p rfl)) rfl (WL.val (V.gtr (OV.p rfl) (OV.p rfl)) rfl (WL.mv rfl rfl (WL.av (oj := _) rfl rfl rfl GC.t (V.move (OV.p rfl)) rfl (WL.av (oj := _) rfl rfl rfl GC.t (V.move (OV.p rfl)) rfl (WL.av (oj := _) rfl rfl rfl GC.t (V.len (t := 24) Tryz.runUnderlying24 (OV.g rfl id)) rfl ?_))))))))
   refine WL.av (oj := _) rfl rfl rfl GC.t (V.tu (OV.g rfl id) (OV.p rfl) (fun hc => by first | omega | (simp at hc; omega))) rfl ?_
   refine WL.av (oj := _) rfl rfl rfl GC.t (V.bR bZ (OV.g rfl id) (OV.g rfl id) (fun hc => by simp at hc; omega)) rfl ?_
   refine WL.av (oj := _) rfl rfl rfl GC.t (V.load Tryz.isAgg3 (OV.g rfl id) (fun hc => Rd.here (hgc (by simp at hc; omega)))) rfl ?_
   refine WL.av (oj := _) rfl rfl rfl GC.t (V.eql (OV.g rfl id) (OV.p rfl)) rfl (WL.val (V.aJ (OV.p rfl) (OV.g rfl id)) rfl (WL.nil ?_))
   refine WC.cond rfl (fun hc6 => ?_) (fun hc6 => ?_)
   ·simp only [Bool.and_eq_true, Bool.and_eq_false_iff, decide_eq_true_eq, decide_eq_false_iff_not] at hc6
    have h6 := hc6
    refine WC.skip (WC.block (WC.region (WL.mv rfl rfl (WL.mv rfl rfl (WL.val (V.len (t := 24) Tryz.runUnderlying24 (OV.p rfl)) rfl (WL.sb rfl rfl rfl ?_))))))
    refine WL.val (V.aC (v' := .slice (some ⟨gc, 0, none⟩) (j - 1) cc) (V.slice (l := 0) (h := j - 1) (u := cc) bZ (OV.p rfl) OO.none (OO.some (OV.p rfl) (fun _ => by omega)) OO.none (by simp) (Nat.zero_le _) (by omega) (Nat.le_refl _)) (fun _ => by simp [gL])) rfl ?_
    refine WL.sg rfl rfl (WL.nil ?_)
    refine ⟨rfl, ?_⟩
    refine ⟨j - 1, ⟨by show j - 1 ≤ x.c.length; omega, ?_⟩, (by show j - 1 < j; omega), .cons rfl (.nil _), fun w h => h⟩
    obtain ⟨i, rfl⟩ : ∃ i, j = i + 1 := ⟨j - 1, by omega⟩
    rw [← hjn, aF, if_pos (by have := h6.2; simp at this ⊢; omega)]; rfl
   ·simp only [Bool.and_eq_true, Bool.and_eq_false_iff, decide_eq_true_eq, decide_eq_false_iff_not] at hc6
    have h6 := hc6
    refine WC.exit (WC.sr (WL.mv rfl rfl (WL.sg rfl rfl (WL.nil (WC.ret ?_)))))
    obtain rfl : n = m := by omega
    have Tq : lU s = x.c := by unfold lU; rw [hl, ← hx]
    have hj2 : aF x.c x.c.length = j := by
      rw [← hjn]
      cases j with
      | zero => rfl
      | succ i =>
        rw [aF, if_neg]
        intro hz
        rcases h6 with h1 | h1
        · omega
        · have h2 : ¬ ((x.c.getD i 0 : Nat) : Int) = 0 := h1
          exact h2 (by rw [hz]; rfl)
    refine au.ret (H' := Cells gc _ _ :: F) (aO.tmp rfl rfl) (fun w h => h) ⟨gc, cc, rc, ?_, by rw [Tq]⟩
    unfold mZ
    rw [Tq, hj2]
end
def pop8 (x : Nat) : Nat := (List.range 8).countP fun k => x.testBit k
theorem Lg {x : Nat} (hx : x < 256) (h0 : x ≠ 0) : bitsOf .and .u8 (x : Int) ((x : Int) - 1) = ((x &&& (x - 1) : Nat) : Int) ∧ pop8 (x &&& (x - 1)) + 1 = pop8 x ∧ (x &&& (x - 1)) < x := by
  have h : ((List.range 256).all fun a => decide (a ≠ 0 → bitsOf .and .u8 ((a : Nat) : Int) (((a : Nat) : Int) - 1) = ((a &&& (a - 1) : Nat) : Int) ∧ pop8 (a &&& (a - 1)) + 1 = pop8 a ∧ (a &&& (a - 1)) < a)) = true := by kernel_rfl
  have h1 := List.all_eq_true.1 h x (List.mem_range.2 hx)
  exact of_decide_eq_true h1 h0
theorem I9 (x : Nat) : pop8 x ≤ 8 := by
  have := List.countP_le_length (p := fun k => x.testBit k) (l := List.range 8)
  rw [List.length_range] at this
  exact this
def ones : List Nat → Nat
  | [] => 0
  | x :: xs => pop8 x + ones xs
theorem Db : ∀ xs : List Nat, ones xs ≤ 8 * xs.length
  | [] => Nat.zero_le _
  | x :: xs => by
    have := Db xs
    have := I9 x
    simp only [ones, List.length_cons]; omega
theorem xU : ∀ xs ys : List Nat, ones (xs ++ ys) = ones xs + ones ys
  | [], ys => by simp [ones]
  | x :: xs, ys => by rw [List.cons_append, ones, ones, xU xs ys]; omega
theorem qE (xs : List Nat) {j : Nat} (h : j < xs.length) : xs.take (j + 1) = xs.take j ++ [xs.getD j 0] := by
  rw [List.take_add_one, List.getElem?_eq_getElem h]
  simp [List.getD, h]
def nz (x : Nat) : Nat := if x = 0 then 0 else 1
def fH (s : List Nat) : List Nat := s.map nz
section
variable {K : World} {F : List ak}
theorem BS {A : Option Addr} {m cap : Nat} {xs : List Nat} (hs : Seq K F A m 1 (aA .u8 xs)) (hx : Small 256 xs) (hm : m ≤ 100000000) : aL Tryz.prog 150 #[.slice A m cap] K F (.int .i64 (ones xs : Nat)) := by
  have hl : xs.length = m := by simpa [aA] using hs.len
  refine Does.enter Tryz.func150 rfl Tryz.ntmps150 rfl ?_
  simp only [aI, Nat.reduceAdd]
  refine WC.sr (WL.sg rfl rfl (WL.nil (WC.sr (WL.sg rfl rfl (WL.nil (WC.seq (WC.sr (WL.mv rfl rfl (WL.val (V.len (t := 43) Tryz.runUnderlying43 (OV.p rfl)) rfl (WL.mv rfl rfl (WL.nil (WC.block ?_))))))))))))
  refine WC.loop (σ := Nat) (fun j => [(3, .int .i64 (ones (xs.take j) : Nat)), (6, .slice A m cap), (7, .int .i64 (m : Int)), (8, .int .i64 (j : Int))]) (fun _ => F) (fun j => j ≤ m) (fun j => m - j) 0 (Nat.zero_le _) (.cons rfl (.cons rfl (.cons rfl (.cons rfl (.nil _))))) (fun w h => h) ?_
  rintro j hj
  refine WC.sr (WL.val (V.lss (OV.p rfl) (OV.p rfl)) rfl (WL.nil (WC.seq ?_)))
  refine WC.cond rfl (fun hc0 => ?_) (fun hc0 => ?_)
  ·simp only [decide_eq_true_eq, decide_eq_false_iff_not] at hc0
   refine WC.skip (WC.seq (WC.block (WC.seq ?_)))
   have hrd : Rd K F (A.map (·.add ((j : Int).toNat * 1))) (.int .u8 (xs.getD j 0 : Nat)) := by
     rw [show (j : Int).toNat = j by omega]; exact hs.gU (by omega)
   obtain ⟨x0, hx0⟩ : ∃ x0, x0 = xs.getD j 0 := ⟨_, rfl⟩
   have QI : x0 < 256 := by rw [hx0]; exact hx.at_ (by decide) j
   have hon : ones (xs.take (j + 1)) = ones (xs.take j) + pop8 x0 := by rw [qE xs (by omega), xU, ← hx0]; simp [ones]
   have Qc := Db (xs.take j)
   rw [List.length_take] at Qc
   rw [← hx0] at hrd
   refine WC.region ?_
   refine WL.val (V.dS fE (OV.p rfl) (OV.p rfl) (fun hc => by omega) (fun hc => hrd)) rfl ?_
   refine WL.val (V.load Tryz.isAgg5 (OV.p rfl) (fun hc => hrd)) rfl ?_
   refine WL.sg rfl rfl (WL.nil (WC.block ?_))
   refine WC.loop (σ := Nat) (fun x => [(3, .int .i64 (ones (xs.take j) + (pop8 x0 - pop8 x) : Nat)), (6, .slice A m cap), (7, .int .i64 (m : Int)), (8, .int .i64 (j : Int)), (5, .int .u8 (x : Int))]) (fun _ => F) (fun x => x < 256 ∧ pop8 x ≤ pop8 x0) (fun x => x) x0 ⟨QI, Nat.le_refl _⟩ (.cons (look_eq rfl (by rw [Nat.sub_self, Nat.add_zero])) (.cons rfl (.cons rfl (.cons rfl (.cons rfl (.nil _)))))) (fun w h => h) ?_
   rintro x ⟨hx1, hx2⟩
   refine WC.seq (WC.sr (WL.mv rfl rfl (WL.val (V.neq (OV.p rfl) (OV.p rfl)) rfl (WL.nil ?_))))
   refine WC.cond rfl (fun hc1 => ?_) (fun hc1 => ?_)
   ·simp only [decide_eq_true_eq, decide_eq_false_iff_not, Bool.not_eq_true', Bool.not_eq_false'] at hc1
    have h1 := hc1
    refine WC.skip (WC.seq (WC.block ?_))
    have hxn : x ≠ 0 := by omega
    obtain ⟨hp1, hp2, hp3⟩ := Lg hx1 hxn
    have Kq := I9 x0
    refine WC.region (WL.mv rfl rfl ?_)
    refine WL.val (V.aC (v' := .int .i64 (ones (xs.take j) + (pop8 x0 - pop8 (x &&& (x - 1))) : Nat)) (V.lI (OV.p rfl) (OV.p rfl) (fun _ => by omega)) (fun _ => by congr 1; omega)) rfl ?_
    refine WL.sg rfl rfl (WL.nil (WC.region (WL.mv rfl rfl (WL.mv rfl rfl ?_))))
    refine WL.val (V.aC (v' := .int .u8 ((x : Int) - 1)) (V.sub (OV.p rfl) (OV.p rfl)) (fun _ => by congr 1; simp only [IntKind.wrap, IntKind.bits, IntKind.signed]; simp; omega)) rfl ?_
    refine WL.val (V.aC (v' := .int .u8 ((x &&& (x - 1) : Nat) : Int)) (V.and (OV.p rfl) (OV.p rfl)) (fun _ => by rw [hp1])) rfl ?_
    refine WL.sg rfl rfl (WL.nil ?_)
    refine ⟨rfl, ?_⟩
    exact ⟨x &&& (x - 1), ⟨by show x &&& (x - 1) < 256; omega, by omega⟩, hp3, .cons rfl (.cons rfl (.cons rfl (.cons rfl (.cons rfl (.nil _))))), fun w h => h⟩
   ·simp only [decide_eq_true_eq, decide_eq_false_iff_not, Bool.not_eq_true', Bool.not_eq_false'] at hc1
    have h1 := hc1
    refine WC.exit ?_
    have hx0' : x = 0 := by omega
    have hpz : pop8 x = 0 := by rw [hx0']; rfl
    rw [hpz, Nat.sub_zero]
    refine WC.region (WL.ad rfl rfl rfl ?_)
    refine WL.mv rfl rfl (WL.nil ?_)
    refine ⟨rfl, ?_⟩
    exact ⟨j + 1, (by show j + 1 ≤ m; omega), (by show m - (j + 1) < m - j; omega), .cons (look_eq rfl (by rw [hon])) (.cons rfl (.cons rfl (.cons (look_eq rfl (by simp)) (.nil _)))), fun w h => h⟩
  ·simp only [decide_eq_true_eq, decide_eq_false_iff_not] at hc0
   refine WC.exit (WC.sr (WL.mv rfl rfl (WL.sg rfl rfl (WL.nil (WC.ret ?_)))))
   obtain rfl : j = m := by omega
   exact au.ret (H' := F) (aO.tmp rfl rfl) (fun w h => h) ⟨by rw [List.take_of_length_le (by omega)], rfl⟩
theorem GH {A : Option Addr} {m cap : Nat} {s : List Nat} (hs : Seq K F A m 1 (aA .i64 s)) (OQ : Small 8192 s) (hm : m ≤ 1000000) :
    Does Tryz.prog 158 #[.slice A m cap] K F (fun v H' => ∃ g, v = .slice (some ⟨g, 0, none⟩) m m ∧ H' = Cells g 5 (aA .u8 (fH s)) :: F) := by
  have hl : s.length = m := by simpa [aA] using hs.len
  refine Does.enter Tryz.func158 rfl Tryz.ntmps158 rfl ?_
  simp only [aI, Nat.reduceAdd]
  refine WC.sr (WL.sg rfl rfl (WL.nil (WC.sr (WL.mv rfl rfl (WL.val (V.len (t := 24) Tryz.runUnderlying24 (OV.p rfl)) rfl ?_)))))
  refine WL.oW (m := m) Tryz.underlying43 yD (OV.p rfl) (OV.p rfl) (by omega) (by omega) (by omega) rfl rfl rfl (fun b8 => ?_)
  refine WL.sg rfl rfl (WL.nil (WC.seq (WC.sr (WL.mv rfl rfl (WL.val (V.len (t := 24) Tryz.runUnderlying24 (OV.p rfl)) rfl (WL.mv rfl rfl (WL.nil (WC.block ?_))))))))
  refine WC.loop (σ := Nat) (fun j => [(3, .slice (some ⟨b8, 0, none⟩) m m), (9, .slice A m cap), (10, .int .i64 (m : Int)), (11, .int .i64 (j : Int))]) (fun j => Cells b8 5 (aA .u8 (fH (s.take j) ++ List.replicate (m - j) 0)) :: F) (fun j => j ≤ m) (fun j => m - j) 0 (Nat.zero_le _) (.cons rfl (.cons rfl (.cons rfl (.cons rfl (.nil _))))) (fun w h => Sat.aV h (by simp [fH, dF])) ?_
  rintro j hj
  refine WC.sr (WL.val (V.lss (OV.p rfl) (OV.p rfl)) rfl (WL.nil (WC.seq ?_)))
  refine WC.cond rfl (fun hc0 => ?_) (fun hc0 => ?_)
  ·simp only [decide_eq_true_eq, decide_eq_false_iff_not] at hc0
   refine WC.skip (WC.seq (WC.block (WC.seq ?_)))
   have hjm : j < m := by omega
   have hrd : Rd K (Cells b8 5 (aA .u8 (fH (s.take j) ++ List.replicate (m - j) 0)) :: F) (A.map (·.add ((j : Int).toNat * 1))) (.int .i64 (s.getD j 0 : Nat)) := by
     rw [show (j : Int).toNat = j by omega]; exact (hs.gU (by omega)).up
   obtain ⟨x, hx⟩ : ∃ x, x = s.getD j 0 := ⟨_, rfl⟩
   have htk := qE s (j := j) (by omega)
   have htl : (fH (s.take j)).length = j := by simp [fH]; omega
   rw [← hx] at hrd htk
   refine WC.region (WL.mv rfl rfl ?_)
   refine WL.val (V.dS bZ (OV.p rfl) (OV.p rfl) (fun hc => by omega) (fun hc => hrd)) rfl ?_
   refine WL.val (V.load Tryz.isAgg3 (OV.p rfl) (fun hc => hrd)) rfl ?_
   refine WL.sg rfl rfl (WL.sg rfl rfl (WL.nil (WC.sr (WL.mv rfl rfl (WL.val (V.neq (OV.p rfl) (OV.p rfl)) rfl (WL.nil ?_))))))
   refine WC.cond rfl (fun hc1 => ?_) (fun hc1 => ?_)
   ·simp only [decide_eq_true_eq, decide_eq_false_iff_not, Bool.not_eq_true', Bool.not_eq_false'] at hc1
    have h1 := hc1
    refine WC.region (WL.mv rfl rfl (WL.mv rfl rfl ?_))
    refine WL.val (V.bR fE (OV.p rfl) (OV.p rfl) (fun hc => by omega)) rfl ?_
    refine WL.store (cs := [_]) Tryz.sizeOf5 (OV.p rfl) (OV.p rfl) rfl rfl rfl (bA.at_ (by simp [aA, fH]; omega)) ?_
    refine WL.nil (WC.region (WL.ad rfl rfl rfl ?_))
    refine WL.mv rfl rfl (WL.nil ?_)
    refine ⟨rfl, ?_⟩
    refine ⟨j + 1, (by show j + 1 ≤ m; omega), (by show m - (j + 1) < m - j; omega), .cons rfl (.cons rfl (.cons rfl (.cons (look_eq rfl (by simp)) (.nil _)))), fun w h => Sat.aV h ?_⟩
    have e1 : fH (s.take (j + 1)) = fH (s.take j) ++ [nz x] := by rw [htk]; simp [fH]
    have e2 : m - j = (m - (j + 1)) + 1 := by omega
    first
      | (have e3 : nz x = 1 := by unfold nz; rw [if_neg (by omega)]
         rw [show 0 + (j : Int).toNat * 1 = j by omega, show Value.int .u8 1 = Value.int .u8 ((1 : Nat) : Int) from rfl, jB, e1, e3, e2, List.set_append_right _ _ (by omega), htl, Nat.sub_self, List.replicate_succ, List.set_cons_zero]
         simp)
      | (have e3 : nz x = 0 := by unfold nz; rw [if_pos (by omega)]
         rw [e1, e3, e2, List.replicate_succ]
         simp)
   ·simp only [decide_eq_true_eq, decide_eq_false_iff_not, Bool.not_eq_true', Bool.not_eq_false'] at hc1
    have h1 := hc1
    refine WC.skip (WC.region (WL.ad rfl rfl rfl ?_))
    refine WL.mv rfl rfl (WL.nil ?_)
    refine ⟨rfl, ?_⟩
    refine ⟨j + 1, (by show j + 1 ≤ m; omega), (by show m - (j + 1) < m - j; omega), .cons rfl (.cons rfl (.cons rfl (.cons (look_eq rfl (by simp)) (.nil _)))), fun w h => Sat.aV h ?_⟩
    have e1 : fH (s.take (j + 1)) = fH (s.take j) ++ [nz x] := by rw [htk]; simp [fH]
    have e2 : m - j = (m - (j + 1)) + 1 := by omega
    first
      | (have e3 : nz x = 1 := by unfold nz; rw [if_neg (by omega)]
         rw [show 0 + (j : Int).toNat * 1 = j by omega, show Value.int .u8 1 = Value.int .u8 ((1 : Nat) : Int) from rfl, jB, e1, e3, e2, List.set_append_right _ _ (by omega), htl, Nat.sub_self, List.replicate_succ, List.set_cons_zero]
         simp)
      | (have e3 : nz x = 0 := by unfold nz; rw [if_pos (by omega)]
         rw [e1, e3, e2, List.replicate_succ]
         simp)
  ·simp only [decide_eq_true_eq, decide_eq_false_iff_not] at hc0
   refine WC.exit (WC.sr (WL.mv rfl rfl (WL.sg rfl rfl (WL.nil (WC.ret ?_)))))
   obtain rfl : j = m := by omega
   exact au.ret (H' := Cells b8 _ _ :: F) (aO.tmp rfl rfl) (fun w h => Sat.aV h (by rw [List.take_of_length_le (by omega)]; simp)) ⟨b8, rfl, rfl⟩
end
end Go.Proofs.YtcmojpiokjhmhaaGreat
