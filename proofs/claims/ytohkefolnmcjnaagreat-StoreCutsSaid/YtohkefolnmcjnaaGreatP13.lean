import Derived.Test.YtohkefolnmcjnaaGreatP11
import Derived.Test.YtohkefolnmcjnaaGreatP12
namespace Go.Proofs.YtohkefolnmcjnaaGreat
open Go.Sl Go.RowKit
set_option linter.unusedVariables false
set_option linter.unusedSimpArgs false
set_option maxRecDepth 20000
structure BM where
  c : List Nat
  b : List Nat
  (length shift last : Nat)
def bmSum (s c : List Nat) (n : Nat) : Nat → Nat
  | 0 => s.getD n 0
  | k + 1 => bmSum s c n k ^^^ gmul (c.getD (k + 1) 0) (s.getD (n - (k + 1)) 0)
def bmAdd (c b : List Nat) (by_ shift : Nat) : Nat → List Nat
  | 0 => c
  | k + 1 => (bmAdd c b by_ shift k).set (k + shift) ((bmAdd c b by_ shift k).getD (k + shift) 0 ^^^ gmul by_ (b.getD k 0))
def bmD (s : List Nat) (n : Nat) (x : BM) : Nat := bmSum s x.c n (min x.length (x.c.length - 1))
def bmExt (x : BM) : List Nat := x.c ++ List.replicate (x.b.length + x.shift - x.c.length) 0
def bmC (x : BM) (d : Nat) : List Nat := bmAdd (bmExt x) x.b (gmul d (ginv x.last)) x.shift x.b.length
def bmStep (s : List Nat) (n : Nat) (x : BM) : BM :=
  if bmD s n x = 0 then { x with shift := x.shift + 1 }
  else if 2 * x.length ≤ n then ⟨bmC x (bmD s n x), x.c, n + 1 - x.length, 1, bmD s n x⟩
  else ⟨bmC x (bmD s n x), x.b, x.length, x.shift + 1, x.last⟩
def bmTo (s : List Nat) : Nat → BM
  | 0 => ⟨[1], [1], 0, 1, 1⟩
  | n + 1 => bmStep s n (bmTo s n)
structure BM.Ok (n : Nat) (x : BM) : Prop where
  c1 : 1 ≤ x.c.length
  c2 : x.c.length ≤ n + 1
  b2 : x.b.length + x.shift ≤ n + 2
  l : x.length ≤ n
  cs : Small 8192 x.c
  bs : Small 8192 x.b
  la : x.last < 8192
  l0 : x.last ≠ 0
theorem bmSum_lt {s c : List Nat} {n : Nat} (hs : Small 8192 s) (hc : Small 8192 c) : ∀ k, bmSum s c n k < 8192
  | 0 => hs.at_ (by decide) _
  | k + 1 => xor_lt (k := 13) (bmSum_lt hs hc k) (gmul_lt (hc.at_ (by decide) _))
theorem bmAdd_length (c b : List Nat) (y sh : Nat) : ∀ k, (bmAdd c b y sh k).length = c.length
  | 0 => rfl
  | k + 1 => by rw [bmAdd, List.length_set, bmAdd_length]
theorem bmAdd_small {c b : List Nat} {y sh : Nat} (hc : Small 8192 c) (hy : y < 8192) : ∀ k, Small 8192 (bmAdd c b y sh k)
  | 0 => hc
  | k + 1 => (bmAdd_small hc hy k).set (xor_lt (k := 13) ((bmAdd_small hc hy k).at_ (by decide) _) (gmul_lt hy))
theorem bmExt_length (x : BM) : (bmExt x).length = x.c.length + (x.b.length + x.shift - x.c.length) := by simp [bmExt]
theorem bmC_length (x : BM) (d : Nat) : (bmC x d).length = (bmExt x).length := bmAdd_length _ _ _ _ _
theorem bmStep_ok {s : List Nat} {n : Nat} {x : BM} (hs : Small 8192 s) (h : x.Ok n) : (bmStep s n x).Ok (n + 1) := by
  have hd : bmD s n x < 8192 := bmSum_lt hs h.cs _
  have h1 := h.c1
  have h2 := h.c2
  have h3 := h.b2
  have h4 := h.l
  have hel := bmExt_length x
  have hcl := bmC_length x (bmD s n x)
  have hsm : Small 8192 (bmC x (bmD s n x)) := bmAdd_small (h.cs.append (Small.repl (by decide))) (gmul_lt hd) _
  unfold bmStep
  split
  · exact ⟨h.c1, by show x.c.length ≤ n + 1 + 1; omega, by show x.b.length + (x.shift + 1) ≤ n + 1 + 2; omega, by show x.length ≤ n + 1; omega, h.cs, h.bs, h.la, h.l0⟩
  · rename_i h0
    split
    · exact ⟨by show 1 ≤ (bmC x _).length; omega, by show (bmC x _).length ≤ n + 1 + 1; omega, by show x.c.length + 1 ≤ n + 1 + 2; omega, by show n + 1 - x.length ≤ n + 1; omega, hsm, h.cs, hd, h0⟩
    · exact ⟨by show 1 ≤ (bmC x _).length; omega, by show (bmC x _).length ≤ n + 1 + 1; omega, by show x.b.length + (x.shift + 1) ≤ n + 1 + 2; omega, by show x.length ≤ n + 1; omega, hsm, h.bs, h.la, h.l0⟩
theorem bmTo_ok {s : List Nat} (hs : Small 8192 s) : ∀ n, (bmTo s n).Ok n
  | 0 => ⟨Nat.le_refl 1, Nat.le_refl 1, Nat.le_refl 2, Nat.le_refl 0, fun y hy => by rw [List.mem_singleton.1 hy]; decide, fun y hy => by rw [List.mem_singleton.1 hy]; decide, (by decide : 1 < 8192), (by decide : 1 ≠ 0)⟩
  | n + 1 => bmStep_ok hs (bmTo_ok hs n)
def locC (s : List Nat) : List Nat := (bmTo s s.length).c
def locL (s : List Nat) : Nat := normLen (locC s) (locC s).length
section
variable {K : World} {F : List Assn}
theorem clone_natsI {A : Option Addr} {m cap : Nat} {xs : List Nat} (hs : Seq K F A m 1 (nats .i64 xs)) (hm : m ≤ 1000000) :
    Does Tryz.prog 82 #[.slice A m cap] K F (fun v H' => ∃ A' cap', v = .slice A' m cap' ∧ H' = SlA (.slice A' m cap') 3 1 m (nats .i64 xs) :: F) := by
  rw [nats_ints] at hs ⊢
  exact clone_ints hs hm
structure LSt where
  n : Nat
  (gc gb cc cb : Nat)
  rc : List Value
  rb : List Value
theorem bch_locator {A : Option Addr} {m cap : Nat} {s : List Nat} (hs : Seq K F A m 1 (nats .i64 s)) (hs8 : Small 8192 s) (hm : m ≤ 64) :
    Does Tryz.prog 165 #[.slice A m cap] K F
      (fun v H' => ∃ g cap' r, v = .slice (some ⟨g, 0, none⟩) (locL s) cap' ∧ H' = Cells g 3 (nats .i64 (locC s) ++ r) :: F) := by
  have hl : s.length = m := by simpa [nats] using hs.len
  refine Does.enter Tryz.func165 rfl Tryz.ntmps165 rfl ?_
  simp only [env0, Nat.reduceAdd]
  refine WC.sr ?_
  refine WL.sg rfl rfl ?_
  refine WL.nil ?_
  refine WC.sr ?_
  refine WL.buildSlice (E := 3) (cs := [_]) (vs := [(0, _)]) ⟨OV.p rfl, trivial⟩ rfl (bsl42_1_0 _) rfl (fun b17 => ?_)
  refine WL.buildSlice (E := 3) (cs := [_]) (vs := [(0, _)]) ⟨OV.p rfl, trivial⟩ rfl (bsl42_1_0 _) rfl (fun b18 => ?_)
  refine WL.sg rfl rfl ?_
  refine WL.sg rfl rfl ?_
  refine WL.nil ?_
  refine WC.sr ?_
  refine WL.sg rfl rfl ?_
  refine WL.sg rfl rfl ?_
  refine WL.sg rfl rfl ?_
  refine WL.nil ?_
  refine WC.seq ?_
  refine WC.sr ?_
  refine WL.mv rfl rfl ?_
  refine WL.val (V.len (t := 42) Tryz.runUnderlying42 (OV.p rfl)) rfl ?_
  refine WL.mv rfl rfl ?_
  refine WL.nil ?_
  refine WC.block ?_
  refine WC.loop (σ := LSt) (fun x => [(0, .slice A m cap), (3, .slice (some ⟨x.gc, 0, none⟩) (bmTo s x.n).c.length x.cc), (4, .slice (some ⟨x.gb, 0, none⟩) (bmTo s x.n).b.length x.cb), (5, .int .i64 ((bmTo s x.n).length : Nat)), (6, .int .i64 ((bmTo s x.n).shift : Nat)), (7, .int .i64 ((bmTo s x.n).last : Nat)), (20, .int .i64 (m : Int)), (21, .int .i64 (x.n : Int))]) (fun x => Cells x.gc 3 (nats .i64 (bmTo s x.n).c ++ x.rc) :: Cells x.gb 3 (nats .i64 (bmTo s x.n).b ++ x.rb) :: F) (fun x => x.n ≤ m ∧ (bmTo s x.n).c.length ≤ x.cc ∧ (bmTo s x.n).b.length ≤ x.cb) (fun x => m - x.n) ⟨0, b17, b18, 1, 1, [], []⟩ ⟨Nat.zero_le _, Nat.le_refl _, Nat.le_refl _⟩ (.cons rfl (.cons rfl (.cons rfl (.cons rfl (.cons rfl (.cons rfl (.cons rfl (.cons rfl (.nil _))))))))) (fun w h => h.sel 2 [1, 0] rfl) ?_
  rintro ⟨n, gc, gb, cc, cb, rc, rb⟩ ⟨hn, hcc, hcb⟩
  dsimp only at hn hcc hcb ⊢
  obtain ⟨x, hx⟩ : ∃ x, x = bmTo s n := ⟨_, rfl⟩
  have hxo : x.Ok n := by rw [hx]; exact bmTo_ok hs8 n
  have hxs : bmTo s (n + 1) = bmStep s n x := by rw [bmTo, ← hx]
  rw [← hx] at hcc hcb ⊢
  obtain ⟨xc1, xc2, xb2, xl, xcs, xbs, xla, xl0⟩ := hxo
  refine WC.sr ?_
  refine WL.val (V.lss (OV.p rfl) (OV.p rfl)) rfl ?_
  refine WL.nil ?_
  refine WC.seq ?_
  refine WC.cond rfl (fun hc0 => ?_) (fun hc0 => ?_)
  ·simp only [decide_eq_true_eq, decide_eq_false_iff_not] at hc0
   refine WC.skip ?_
   refine WC.seq ?_
   refine WC.block ?_
   refine WC.sr ?_
   refine WL.mv rfl rfl ?_
   refine WL.sg rfl rfl ?_
   refine WL.nil ?_
   refine WC.seq ?_
   have hnm : n < m := by omega
   have hsu : ∀ {X Y : Assn}, Seq K (X :: Y :: F) A m 1 (nats .i64 s) := fun {X Y} => hs.up.up
   have hsn : ∀ {X Y : Assn}, Rd K (X :: Y :: F) (A.map (·.add ((n : Int).toNat * 1))) (.int .i64 (s.getD n 0 : Nat)) := fun {X Y} => by
     rw [show (n : Int).toNat = n by omega]; exact hsu.nat_rd (by omega)
   refine WC.region ?_
   refine WL.mv rfl rfl ?_
   refine WL.mv rfl rfl ?_
   refine WL.val (V.idxS st42 (OV.p rfl) (OV.p rfl) (fun hc => by omega) (fun hc => hsn)) rfl ?_
   refine WL.val (V.load Tryz.isAgg3 (OV.p rfl) (fun hc => hsn)) rfl ?_
   refine WL.sg rfl rfl ?_
   refine WL.nil ?_
   refine WC.seq ?_
   refine WC.sr ?_
   refine WL.sg rfl rfl ?_
   refine WL.nil ?_
   refine WC.block ?_
   refine WC.loop (σ := Nat) (fun k => [(0, .slice A m cap), (3, .slice (some ⟨gc, 0, none⟩) x.c.length cc), (4, .slice (some ⟨gb, 0, none⟩) x.b.length cb), (5, .int .i64 (x.length : Nat)), (6, .int .i64 (x.shift : Nat)), (7, .int .i64 (x.last : Nat)), (20, .int .i64 (m : Int)), (21, .int .i64 (n : Int)), (8, .int .i64 (n : Int)), (9, .int .i64 (bmSum s x.c n k : Nat)), (10, .int .i64 ((k : Int) + 1))]) (fun k => Cells gc 3 (nats .i64 x.c ++ rc) :: Cells gb 3 (nats .i64 x.b ++ rb) :: F) (fun k => k ≤ min x.length (x.c.length - 1)) (fun k => min x.length (x.c.length - 1) - k) 0 (Nat.zero_le _) (.cons rfl (.cons rfl (.cons rfl (.cons rfl (.cons rfl (.cons rfl (.cons rfl (.cons rfl (.cons rfl (.cons rfl (.cons rfl (.nil _)))))))))))) (fun w h => h) ?_
   rintro k hk
   refine WC.seq ?_
   refine WC.sr ?_
   refine WL.mv rfl rfl ?_
   refine WL.mv rfl rfl ?_
   refine WL.val (V.leq (OV.p rfl) (OV.p rfl)) rfl ?_
   refine WL.mv rfl rfl ?_
   refine WL.valG (oj := _) rfl rfl rfl GC.t (V.move (OV.p rfl)) rfl ?_
   refine WL.valG (oj := _) rfl rfl rfl GC.t (V.move (OV.p rfl)) rfl ?_
   refine WL.valG (oj := _) rfl rfl rfl GC.t (V.len (t := 42) Tryz.runUnderlying42 (OV.g rfl id)) rfl ?_
   refine WL.valG (oj := _) rfl rfl rfl GC.t (V.lss (OV.g rfl id) (OV.g rfl id)) rfl ?_
   refine WL.val (V.pickAnd (OV.p rfl) (OV.g rfl id)) rfl ?_
   refine WL.nil ?_
   refine WC.cond rfl (fun hc1 => ?_) (fun hc1 => ?_)
   ·simp only [Bool.and_eq_true, Bool.and_eq_false_iff, decide_eq_true_eq, decide_eq_false_iff_not] at hc1
    have h0 := hc1
    refine WC.skip ?_
    refine WC.seq ?_
    refine WC.block ?_
    have hkl : k + 1 ≤ x.length ∧ k + 1 < x.c.length := by omega
    have hgc : (nats .i64 x.c ++ rc)[0 + ((k : Int) + 1).toNat * 1]? = some (.int .i64 (x.c.getD (k + 1) 0 : Nat)) := by rw [show 0 + ((k : Int) + 1).toNat * 1 = k + 1 by omega]; exact nats_getA _ _ _ (by omega)
    have hsn2 : ∀ {X Y : Assn}, Rd K (X :: Y :: F) (A.map (·.add (((n : Int) - ((k : Int) + 1)).toNat * 1))) (.int .i64 (s.getD (n - (k + 1)) 0 : Nat)) := fun {X Y} => by
      rw [show ((n : Int) - ((k : Int) + 1)).toNat = n - (k + 1) by omega]; exact hsu.nat_rd (by omega)
    have hcl := xcs.at_ (by decide) (k + 1)
    have hsl := hs8.at_ (by decide) (n - (k + 1))
    refine WC.regionQ (by kernel_rfl) (by kernel_rfl) ?_
    refine WQ.val (V.move (OV.p rfl)) rfl ?_
    refine WQ.val (V.move (OV.p rfl)) rfl ?_
    refine WQ.val (V.move (OV.p rfl)) rfl ?_
    refine WQ.val (V.idxB st42 (OV.p rfl) (OV.p rfl) (fun hc => by omega)) rfl ?_
    refine WQ.val (V.load Tryz.isAgg3 (OV.p rfl) (fun hc => Rd.here hgc)) rfl ?_
    refine WQ.val (V.move (OV.p rfl)) rfl ?_
    refine WQ.val (V.move (OV.p rfl)) rfl ?_
    refine WQ.val (V.move (OV.p rfl)) rfl ?_
    refine WQ.val (V.subI (OV.p rfl) (OV.p rfl) (fun hc => by first | omega | (simp at hc; omega))) rfl ?_
    refine WQ.val (V.idxS st42 (OV.p rfl) (OV.p rfl) (fun hc => by omega) (fun hc => hsn2)) rfl ?_
    refine WQ.val (V.load Tryz.isAgg3 (OV.p rfl) (fun hc => hsn2)) rfl ?_
    refine WQ.call (vs := [_, _]) Tryz.call169 ⟨OV.p rfl, OV.p rfl, trivial⟩ (bch_mul hcl hsl) rfl ?_
    refine WQ.val (V.val_eq (v' := .int .i64 (bmSum s x.c n (k + 1) : Nat)) (V.xor (OV.p rfl) (OV.p rfl)) (fun _ => by rw [bits_xor (by have := bmSum_lt hs8 xcs (n := n) k; omega) (by have := gmul_lt (b := s.getD (n - (k + 1)) 0) hcl; omega), bmSum])) rfl ?_
    refine WQ.val (V.assign (OV.p rfl)) rfl ?_
    refine WQ.nil ?_
    refine WC.region ?_
    refine WL.mv rfl rfl ?_
    refine WL.ad rfl rfl rfl ?_
    refine WL.sg rfl rfl ?_
    refine WL.nil ?_
    refine ⟨rfl, ?_⟩
    exact ⟨k + 1, (by show k + 1 ≤ min x.length (x.c.length - 1); omega), (by show min x.length (x.c.length - 1) - (k + 1) < min x.length (x.c.length - 1) - k; omega), .cons rfl (.cons rfl (.cons rfl (.cons rfl (.cons rfl (.cons rfl (.cons rfl (.cons rfl (.cons rfl (.cons rfl (.cons (look_eq rfl (by simp)) (.nil _))))))))))), fun w h => h⟩
   ·simp only [Bool.and_eq_true, Bool.and_eq_false_iff, decide_eq_true_eq, decide_eq_false_iff_not] at hc1
    have h0 := hc1
    refine WC.exit ?_
    refine WC.seq ?_
    refine WC.seq ?_
    have hke : k = min x.length (x.c.length - 1) := by
      rcases h0 with h | h <;> omega
    have hD : bmSum s x.c n k = bmD s n x := by rw [hke]; rfl
    obtain ⟨d, hd⟩ : ∃ d, d = bmD s n x := ⟨_, rfl⟩
    rw [hD, ← hd]
    have hd8 : d < 8192 := by rw [hd]; exact bmSum_lt hs8 xcs _
    unfold bmStep at hxs
    rw [← hd] at hxs
    refine WC.region ?_
    refine WL.mv rfl rfl ?_
    refine WL.val (V.eql (OV.p rfl) (OV.p rfl)) rfl ?_
    refine WL.nil ?_
    refine WC.cond rfl (fun hc2 => ?_) (fun hc2 => ?_)
    ·simp only [decide_eq_true_eq, decide_eq_false_iff_not] at hc2
     have h2 := hc2
     rw [if_pos (by omega)] at hxs
     refine WC.sr ?_
     refine WL.mv rfl rfl ?_
     refine WL.ad rfl rfl rfl ?_
     refine WL.sg rfl rfl ?_
     refine WL.nil ?_
     refine WC.exit ?_
     refine WC.region ?_
     refine WL.ad rfl rfl rfl ?_
     refine WL.mv rfl rfl ?_
     refine WL.nil ?_
     refine ⟨rfl, ?_⟩
     first
     | exact ⟨⟨n + 1, gc, gb, cc, cb, rc, rb⟩, ⟨by show n + 1 ≤ m; omega, by show (bmTo s (n + 1)).c.length ≤ cc; rw [hxs]; exact hcc, by show (bmTo s (n + 1)).b.length ≤ cb; rw [hxs]; exact hcb⟩, (by show m - (n + 1) < m - n; omega), .cons rfl (.cons (look_eq rfl (by rw [hxs])) (.cons (look_eq rfl (by rw [hxs])) (.cons (look_eq rfl (by rw [hxs])) (.cons (look_eq rfl (by rw [hxs]; simp)) (.cons (look_eq rfl (by rw [hxs])) (.cons rfl (.cons (look_eq rfl (by simp)) (.nil _)))))))), fun w h => by dsimp only; rw [hxs]; exact h⟩
     | exact ⟨⟨n + 1, g3, go, c3, c1, r3, ro⟩, ⟨by show n + 1 ≤ m; omega, by show (bmTo s (n + 1)).c.length ≤ c3; rw [hxs]; exact hco3, by show (bmTo s (n + 1)).b.length ≤ c1; rw [hxs]; exact hco⟩, (by show m - (n + 1) < m - n; omega), .cons rfl (.cons (look_eq rfl (by rw [hxs])) (.cons (look_eq rfl (by rw [hxs])) (.cons (look_eq rfl (by rw [hxs]; simp; omega)) (.cons (look_eq rfl (by rw [hxs]; rfl)) (.cons (look_eq rfl (by rw [hxs])) (.cons rfl (.cons (look_eq rfl (by simp)) (.nil _)))))))), fun w h => by dsimp only; rw [hxs]; exact h.sel 3 [0, 1] rfl⟩
     | exact ⟨⟨n + 1, g3, gb, c3, cb, r3, rb⟩, ⟨by show n + 1 ≤ m; omega, by show (bmTo s (n + 1)).c.length ≤ c3; rw [hxs]; exact hco3, by show (bmTo s (n + 1)).b.length ≤ cb; rw [hxs]; exact hcb⟩, (by show m - (n + 1) < m - n; omega), .cons rfl (.cons (look_eq rfl (by rw [hxs])) (.cons (look_eq rfl (by rw [hxs])) (.cons (look_eq rfl (by rw [hxs])) (.cons (look_eq rfl (by rw [hxs]; simp)) (.cons (look_eq rfl (by rw [hxs])) (.cons rfl (.cons (look_eq rfl (by simp)) (.nil _)))))))), fun w h => by dsimp only; rw [hxs]; exact h.sel 3 [0, 2] rfl⟩
    ·simp only [decide_eq_true_eq, decide_eq_false_iff_not] at hc2
     have h2 := hc2
     have hd0 : d ≠ 0 := by omega
     rw [if_neg hd0] at hxs
     refine WC.skip ?_
     refine WC.sr ?_
     refine WL.mv rfl rfl ?_
     refine WL.call (vs := [_]) Tryz.call192 ⟨OV.p rfl, trivial⟩ (gf_Inv xla xl0) rfl ?_
     rintro _ H0 ⟨rfl, h0⟩
     subst H0
     refine WL.mv rfl rfl ?_
     refine WL.xt rfl rfl rfl ?_
     refine WL.xt rfl rfl rfl ?_
     refine WL.sg rfl rfl ?_
     refine WL.sg rfl rfl ?_
     refine WL.nil ?_
     refine WC.sr ?_
     refine WL.mv rfl rfl ?_
     refine WL.mv rfl rfl ?_
     refine WL.call (vs := [_, _]) Tryz.call169 ⟨OV.p rfl, OV.p rfl, trivial⟩ (bch_mul hd8 (gpow_lt xla)) rfl ?_
     rintro _ H0 ⟨rfl, h0⟩
     subst H0
     refine WL.sg rfl rfl ?_
     refine WL.nil ?_
     refine WC.seq ?_
     obtain ⟨y, hy⟩ : ∃ y, y = gmul d (ginv x.last) := ⟨_, rfl⟩
     have hy8 : y < 8192 := by rw [hy]; exact gmul_lt hd8
     rw [← hy]
     refine WC.region ?_
     refine WL.mv rfl rfl ?_
     refine WL.call (vs := [_]) Tryz.call82 ⟨OV.p rfl, trivial⟩ (clone_natsI (xs := x.c) (Seq.here (by rw [nats_length]; omega) (by rw [List.drop_zero]; exact List.prefix_append _ _)) (by omega)) rfl ?_
     rintro _ _ ⟨A1, c1, rfl, rfl⟩
     refine WL.ex (slA_row (by omega)) (fun ⟨go, ro⟩ ⟨e1, hr1, hc1⟩ => ?_)
     dsimp only at e1 hr1 ⊢
     subst e1
     have hco : x.c.length ≤ c1 := by rw [← hr1, List.length_append, nats_length]; omega
     refine WL.sg rfl rfl ?_
     refine WL.nil ?_
     refine WC.seq ?_
     refine WC.block ?_
     refine WC.loop (σ := Nat × Nat × Nat × List Value) (fun z => [(0, .slice A m cap), (3, .slice (some ⟨z.2.1, 0, none⟩) (x.c.length + z.1) z.2.2.1), (4, .slice (some ⟨gb, 0, none⟩) x.b.length cb), (5, .int .i64 (x.length : Nat)), (6, .int .i64 (x.shift : Nat)), (7, .int .i64 (x.last : Nat)), (20, .int .i64 (m : Int)), (21, .int .i64 (n : Int)), (8, .int .i64 (n : Int)), (9, .int .i64 (d : Nat)), (13, .int .i64 (y : Nat)), (14, .slice (some ⟨go, 0, none⟩) x.c.length c1)]) (fun z => Cells z.2.1 3 (nats .i64 (x.c ++ List.replicate z.1 0) ++ z.2.2.2) :: Cells go 3 (nats .i64 x.c ++ ro) :: Cells gb 3 (nats .i64 x.b ++ rb) :: F) (fun z => z.1 ≤ x.b.length + x.shift - x.c.length ∧ x.c.length + z.1 ≤ z.2.2.1) (fun z => x.b.length + x.shift - z.1) (0, gc, cc, rc) ⟨Nat.zero_le _, hcc⟩ (.cons rfl (.cons rfl (.cons rfl (.cons rfl (.cons rfl (.cons rfl (.cons rfl (.cons rfl (.cons rfl (.cons rfl (.cons rfl (.cons rfl (.nil _))))))))))))) (fun w h => Sat.cells_eq (h.sel 3 [1, 0, 2] rfl) (by simp)) ?_
     rintro ⟨z, g, cz, rz⟩ ⟨hz, hzc⟩
     dsimp only at hz hzc ⊢
     refine WC.seq ?_
     refine WC.sr ?_
     refine WL.mv rfl rfl ?_
     refine WL.val (V.len (t := 42) Tryz.runUnderlying42 (OV.p rfl)) rfl ?_
     refine WL.mv rfl rfl ?_
     refine WL.val (V.len (t := 42) Tryz.runUnderlying42 (OV.p rfl)) rfl ?_
     refine WL.mv rfl rfl ?_
     refine WL.ad rfl rfl rfl ?_
     refine WL.val (V.lss (OV.p rfl) (OV.p rfl)) rfl ?_
     refine WL.nil ?_
     refine WC.cond rfl (fun hc3 => ?_) (fun hc3 => ?_)
     ·simp only [decide_eq_true_eq, decide_eq_false_iff_not] at hc3
      refine WC.skip ?_
      refine WC.block ?_
      refine WC.region ?_
      refine WL.mv rfl rfl ?_
      refine WL.mv rfl rfl ?_
      refine WL.val (V.len (t := 42) Tryz.runUnderlying42 (OV.p rfl)) rfl ?_
      refine WL.mv rfl rfl ?_
      refine WL.val (V.len (t := 42) Tryz.runUnderlying42 (OV.p rfl)) rfl ?_
      refine WL.val (V.val_eq (v' := .slice (some ⟨g, 0, none⟩) (x.c.length + z) (x.c.length + z)) (V.slice (l := 0) (h := x.c.length + z) (u := x.c.length + z) st42 (OV.p rfl) OO.none (OO.some (OV.p rfl) (fun _ => by omega)) (OO.some (OV.p rfl) (fun _ => by omega)) (by simp) (Nat.zero_le _) (Nat.le_refl _) hzc) (fun _ => by simp [add_mk])) rfl ?_
      refine WL.buildSlice (E := 3) (cs := [_]) (vs := [(0, _)]) ⟨OV.p rfl, trivial⟩ rfl (bsl42_1_0 _) rfl (fun b79 => ?_)
      have hzl : (nats .i64 (x.c ++ List.replicate z 0)).length = x.c.length + z := by simp [nats]
      refine WL.appendNew (m := x.c.length + z) (q := 1) (cs := nats .i64 (x.c ++ List.replicate z 0)) (news := [.int .i64 0]) Tryz.underlying42 el3 (OV.p rfl) (OV.p rfl) (Seq.up (Seq.here (by omega) (by rw [List.drop_zero]; exact List.prefix_append _ _))) (Seq.all rfl) (by omega) (by omega) (by decide) (by omega) rfl rfl (fun A2 c2 hA2 hc2 => ?_)
      refine WL.ex (slA_row (by omega)) (fun ⟨g2, r2⟩ ⟨e2, hr2, hc2'⟩ => ?_)
      dsimp only at e2 hr2 ⊢
      subst e2
      refine WL.sg rfl rfl ?_
      refine WL.nil ?_
      refine ⟨rfl, ?_⟩
      exact ⟨(z + 1, g2, c2, r2), ⟨by show z + 1 ≤ x.b.length + x.shift - x.c.length; omega, hc2⟩, (by show x.b.length + x.shift - (z + 1) < x.b.length + x.shift - z; omega), .cons rfl (.cons rfl (.cons rfl (.cons rfl (.cons rfl (.cons rfl (.cons rfl (.cons rfl (.cons rfl (.cons rfl (.cons rfl (.cons rfl (.nil _)))))))))))), fun w h => Sat.cells_eq (h.sel 5 [0, 3, 4] rfl) (by simp [nats, List.replicate_succ'])⟩
     ·simp only [decide_eq_true_eq, decide_eq_false_iff_not] at hc3
      refine WC.exit ?_
      refine WC.seq ?_
      have hze : z = x.b.length + x.shift - x.c.length := by omega
      have hex : x.c ++ List.replicate z 0 = bmExt x := by rw [hze]; rfl
      have hexl : (bmExt x).length = x.c.length + z := by rw [bmExt_length, hze]
      have hexs : Small 8192 (bmExt x) := xcs.append (Small.repl (by decide))
      rw [hex, ← hexl]
      refine WC.region ?_
      refine WL.mv rfl rfl ?_
      refine WL.call (vs := [_]) Tryz.call82 ⟨OV.p rfl, trivial⟩ (clone_natsI (xs := bmExt x) (Seq.here (by rw [nats_length]; omega) (by rw [List.drop_zero]; exact List.prefix_append _ _)) (by omega)) rfl ?_
      rintro _ _ ⟨A3, c3, rfl, rfl⟩
      refine WL.ex (slA_row (by omega)) (fun ⟨g3, r3⟩ ⟨e3, hr3, hc3⟩ => ?_)
      dsimp only at e3 hr3 ⊢
      subst e3
      have hco3 : (bmExt x).length ≤ c3 := by rw [← hr3, List.length_append, nats_length]; omega
      refine WL.sg rfl rfl ?_
      refine WL.nil ?_
      refine WC.seq ?_
      refine WC.sr ?_
      refine WL.mv rfl rfl ?_
      refine WL.val (V.len (t := 42) Tryz.runUnderlying42 (OV.p rfl)) rfl ?_
      refine WL.mv rfl rfl ?_
      refine WL.nil ?_
      refine WC.block ?_
      refine WC.loop (σ := Nat) (fun k => [(0, .slice A m cap), (3, .slice (some ⟨g3, 0, none⟩) (bmExt x).length c3), (4, .slice (some ⟨gb, 0, none⟩) x.b.length cb), (5, .int .i64 (x.length : Nat)), (6, .int .i64 (x.shift : Nat)), (7, .int .i64 (x.last : Nat)), (20, .int .i64 (m : Int)), (21, .int .i64 (n : Int)), (8, .int .i64 (n : Int)), (9, .int .i64 (d : Nat)), (13, .int .i64 (y : Nat)), (14, .slice (some ⟨go, 0, none⟩) x.c.length c1), (83, .slice (some ⟨gb, 0, none⟩) x.b.length cb), (84, .int .i64 (x.b.length : Nat)), (85, .int .i64 (k : Int))]) (fun k => Cells g3 3 (nats .i64 (bmAdd (bmExt x) x.b y x.shift k) ++ r3) :: Cells go 3 (nats .i64 x.c ++ ro) :: Cells gb 3 (nats .i64 x.b ++ rb) :: F) (fun k => k ≤ x.b.length) (fun k => x.b.length - k) 0 (Nat.zero_le _) (.cons rfl (.cons rfl (.cons rfl (.cons rfl (.cons rfl (.cons rfl (.cons rfl (.cons rfl (.cons rfl (.cons rfl (.cons rfl (.cons rfl (.cons rfl (.cons rfl (.cons rfl (.nil _)))))))))))))))) (fun w h => h.sel 4 [0, 2, 3] rfl) ?_
      rintro k hk2
      refine WC.sr ?_
      refine WL.val (V.lss (OV.p rfl) (OV.p rfl)) rfl ?_
      refine WL.nil ?_
      refine WC.seq ?_
      refine WC.cond rfl (fun hc4 => ?_) (fun hc4 => ?_)
      ·simp only [decide_eq_true_eq, decide_eq_false_iff_not] at hc4
       refine WC.skip ?_
       refine WC.seq ?_
       refine WC.block ?_
       refine WC.seq ?_
       have hkb : k < x.b.length := by omega
       obtain ⟨o, ho⟩ : ∃ o, o = bmAdd (bmExt x) x.b y x.shift k := ⟨_, rfl⟩
       have hol : o.length = (bmExt x).length := by rw [ho, bmAdd_length]
       have hos : Small 8192 o := by rw [ho]; exact bmAdd_small hexs hy8 k
       rw [← ho]
       have hrb : Rd K (Cells g3 3 (nats .i64 o ++ r3) :: Cells go 3 (nats .i64 x.c ++ ro) :: Cells gb 3 (nats .i64 x.b ++ rb) :: F) (some ⟨gb, 0 + (k : Int).toNat * 1, none⟩) (.int .i64 (x.b.getD k 0 : Nat)) := by
         rw [show 0 + (k : Int).toNat * 1 = k by omega]; exact Rd.up (Rd.up (Rd.here (nats_getA _ _ _ hkb)))
       have hgo : (nats .i64 o ++ r3)[0 + ((k : Int) + (x.shift : Int)).toNat * 1]? = some (.int .i64 (o.getD (k + x.shift) 0 : Nat)) := by rw [show 0 + ((k : Int) + (x.shift : Int)).toNat * 1 = k + x.shift by omega]; exact nats_getA _ _ _ (by omega)
       have hbl := xbs.at_ (by decide) k
       refine WC.region ?_
       refine WL.mv rfl rfl ?_
       refine WL.val (V.idxB st42 (OV.p rfl) (OV.p rfl) (fun hc => by omega)) rfl ?_
       refine WL.val (V.load Tryz.isAgg3 (OV.p rfl) (fun hc => hrb)) rfl ?_
       refine WL.sg rfl rfl ?_
       refine WL.sg rfl rfl ?_
       refine WL.nil ?_
       refine WC.regionA (Cells go 3 (nats .i64 x.c ++ ro) :: Cells gb 3 (nats .i64 x.b ++ rb) :: F) (by kernel_rfl) ?_
       refine WA.t 0 rfl (V.move (OV.p rfl)) ?_
       refine WA.t 1 rfl (V.move (OV.p rfl)) ?_
       refine WA.t 2 rfl (V.move (OV.p rfl)) ?_
       refine WA.t 3 rfl (V.addI (OV.p rfl) (OV.p rfl) (fun hc => by first | omega | (simp at hc; omega))) ?_
       refine WA.t 4 rfl (V.idxB st42 (OV.p rfl) (OV.p rfl) (fun hc => by omega)) ?_
       refine WA.t 6 rfl (V.move (OV.p rfl)) ?_
       refine WA.t 7 rfl (V.move (OV.p rfl)) ?_
       refine WA.two (i := 5) (j := 8) (fun w h => by repeat (first | exact h | replace h := h.tail)) (by kernel_rfl) rfl rfl ?_ ?_
       ·refine WL.val (V.load Tryz.isAgg3 (OV.p rfl) (fun hc => Rd.here hgo)) rfl ?_
        refine WL.nil ?_
        refine WA.o 8 rfl ?_
        refine WL.call (vs := [_, _]) Tryz.call169 ⟨OV.p rfl, OV.p rfl, trivial⟩ (bch_mul hy8 hbl) rfl ?_
        rintro _ H0 ⟨rfl, h0⟩
        subst H0
        refine WL.nil ?_
        refine WA.t 9 rfl (V.val_eq (v' := .int .i64 ((o.getD (k + x.shift) 0 ^^^ gmul y (x.b.getD k 0) : Nat) : Int)) (V.xor (OV.p rfl) (OV.p rfl)) (fun _ => by rw [bits_xor (by have := hos.at_ (by decide) (k + x.shift); omega) (by have := gmul_lt (b := x.b.getD k 0) hy8; omega)])) ?_
        refine WA.t 10 rfl (V.idxB st42 (OV.p rfl) (OV.p rfl) (fun hc => by omega)) ?_
        refine WA.o 11 rfl ?_
        refine WL.store (cs := [_]) Tryz.sizeOf3 (OV.p rfl) (OV.p rfl) rfl rfl rfl (Upd.at_ (by rw [List.length_append, nats_length]; omega)) ?_
        refine WL.nil ?_
        refine WA.fin ?_
        refine WC.region ?_
        refine WL.ad rfl rfl rfl ?_
        refine WL.mv rfl rfl ?_
        refine WL.nil ?_
        refine ⟨rfl, ?_⟩
        refine ⟨k + 1, (by show k + 1 ≤ x.b.length; omega), (by show x.b.length - (k + 1) < x.b.length - k; omega), .cons rfl (.cons rfl (.cons rfl (.cons rfl (.cons rfl (.cons rfl (.cons rfl (.cons rfl (.cons rfl (.cons rfl (.cons rfl (.cons rfl (.cons rfl (.cons rfl (.cons (look_eq rfl (by simp)) (.nil _))))))))))))))), fun w h => Sat.cells_eq h ?_⟩
        rw [show 0 + ((k : Int) + (x.shift : Int)).toNat * 1 = k + x.shift by omega, nats_setA _ _ _ (by omega), bmAdd, ← ho]
       ·refine WL.call (vs := [_, _]) Tryz.call169 ⟨OV.p rfl, OV.p rfl, trivial⟩ (bch_mul hy8 hbl) rfl ?_
        rintro _ H0 ⟨rfl, h0⟩
        subst H0
        refine WL.nil ?_
        refine WA.o 5 rfl ?_
        refine WL.val (V.load Tryz.isAgg3 (OV.p rfl) (fun hc => Rd.here hgo)) rfl ?_
        refine WL.nil ?_
        refine WA.t 9 rfl (V.val_eq (v' := .int .i64 ((o.getD (k + x.shift) 0 ^^^ gmul y (x.b.getD k 0) : Nat) : Int)) (V.xor (OV.p rfl) (OV.p rfl)) (fun _ => by rw [bits_xor (by have := hos.at_ (by decide) (k + x.shift); omega) (by have := gmul_lt (b := x.b.getD k 0) hy8; omega)])) ?_
        refine WA.t 10 rfl (V.idxB st42 (OV.p rfl) (OV.p rfl) (fun hc => by omega)) ?_
        refine WA.o 11 rfl ?_
        refine WL.store (cs := [_]) Tryz.sizeOf3 (OV.p rfl) (OV.p rfl) rfl rfl rfl (Upd.at_ (by rw [List.length_append, nats_length]; omega)) ?_
        refine WL.nil ?_
        refine WA.fin ?_
        refine WC.region ?_
        refine WL.ad rfl rfl rfl ?_
        refine WL.mv rfl rfl ?_
        refine WL.nil ?_
        refine ⟨rfl, ?_⟩
        refine ⟨k + 1, (by show k + 1 ≤ x.b.length; omega), (by show x.b.length - (k + 1) < x.b.length - k; omega), .cons rfl (.cons rfl (.cons rfl (.cons rfl (.cons rfl (.cons rfl (.cons rfl (.cons rfl (.cons rfl (.cons rfl (.cons rfl (.cons rfl (.cons rfl (.cons rfl (.cons (look_eq rfl (by simp)) (.nil _))))))))))))))), fun w h => Sat.cells_eq h ?_⟩
        rw [show 0 + ((k : Int) + (x.shift : Int)).toNat * 1 = k + x.shift by omega, nats_setA _ _ _ (by omega), bmAdd, ← ho]
      ·simp only [decide_eq_true_eq, decide_eq_false_iff_not] at hc4
       refine WC.exit ?_
       refine WC.seq ?_
       obtain rfl : k = x.b.length := by omega
       have hC : bmAdd (bmExt x) x.b y x.shift x.b.length = bmC x d := by rw [hy]; rfl
       rw [hC]
       have hCl : (bmC x d).length = (bmExt x).length := bmC_length x d
       rw [← hCl] at hco3 ⊢
       refine WC.region ?_
       refine WL.mv rfl rfl ?_
       refine WL.val (V.mulI (OV.p rfl) (OV.p rfl) (fun hc => by first | omega | (simp at hc; omega))) rfl ?_
       refine WL.mv rfl rfl ?_
       refine WL.val (V.leq (OV.p rfl) (OV.p rfl)) rfl ?_
       refine WL.nil ?_
       refine WC.cond rfl (fun hc5 => ?_) (fun hc5 => ?_)
       ·simp only [decide_eq_true_eq, decide_eq_false_iff_not] at hc5
        have h5 := hc5
        rw [if_pos (by omega)] at hxs
        refine WC.region ?_
        refine WL.mv rfl rfl ?_
        refine WL.ad rfl rfl rfl ?_
        refine WL.mv rfl rfl ?_
        refine WL.sb rfl rfl rfl ?_
        refine WL.mv rfl rfl ?_
        refine WL.mv rfl rfl ?_
        refine WL.sg rfl rfl ?_
        refine WL.sg rfl rfl ?_
        refine WL.sg rfl rfl ?_
        refine WL.sg rfl rfl ?_
        refine WL.nil ?_
        refine WC.region ?_
        refine WL.ad rfl rfl rfl ?_
        refine WL.mv rfl rfl ?_
        refine WL.nil ?_
        refine ⟨rfl, ?_⟩
        first
        | exact ⟨⟨n + 1, gc, gb, cc, cb, rc, rb⟩, ⟨by show n + 1 ≤ m; omega, by show (bmTo s (n + 1)).c.length ≤ cc; rw [hxs]; exact hcc, by show (bmTo s (n + 1)).b.length ≤ cb; rw [hxs]; exact hcb⟩, (by show m - (n + 1) < m - n; omega), .cons rfl (.cons (look_eq rfl (by rw [hxs])) (.cons (look_eq rfl (by rw [hxs])) (.cons (look_eq rfl (by rw [hxs])) (.cons (look_eq rfl (by rw [hxs]; simp)) (.cons (look_eq rfl (by rw [hxs])) (.cons rfl (.cons (look_eq rfl (by simp)) (.nil _)))))))), fun w h => by dsimp only; rw [hxs]; exact h⟩
        | exact ⟨⟨n + 1, g3, go, c3, c1, r3, ro⟩, ⟨by show n + 1 ≤ m; omega, by show (bmTo s (n + 1)).c.length ≤ c3; rw [hxs]; exact hco3, by show (bmTo s (n + 1)).b.length ≤ c1; rw [hxs]; exact hco⟩, (by show m - (n + 1) < m - n; omega), .cons rfl (.cons (look_eq rfl (by rw [hxs])) (.cons (look_eq rfl (by rw [hxs])) (.cons (look_eq rfl (by rw [hxs]; simp; omega)) (.cons (look_eq rfl (by rw [hxs]; rfl)) (.cons (look_eq rfl (by rw [hxs])) (.cons rfl (.cons (look_eq rfl (by simp)) (.nil _)))))))), fun w h => by dsimp only; rw [hxs]; exact h.sel 3 [0, 1] rfl⟩
        | exact ⟨⟨n + 1, g3, gb, c3, cb, r3, rb⟩, ⟨by show n + 1 ≤ m; omega, by show (bmTo s (n + 1)).c.length ≤ c3; rw [hxs]; exact hco3, by show (bmTo s (n + 1)).b.length ≤ cb; rw [hxs]; exact hcb⟩, (by show m - (n + 1) < m - n; omega), .cons rfl (.cons (look_eq rfl (by rw [hxs])) (.cons (look_eq rfl (by rw [hxs])) (.cons (look_eq rfl (by rw [hxs])) (.cons (look_eq rfl (by rw [hxs]; simp)) (.cons (look_eq rfl (by rw [hxs])) (.cons rfl (.cons (look_eq rfl (by simp)) (.nil _)))))))), fun w h => by dsimp only; rw [hxs]; exact h.sel 3 [0, 2] rfl⟩
       ·simp only [decide_eq_true_eq, decide_eq_false_iff_not] at hc5
        have h5 := hc5
        rw [if_neg (by omega)] at hxs
        refine WC.region ?_
        refine WL.mv rfl rfl ?_
        refine WL.ad rfl rfl rfl ?_
        refine WL.sg rfl rfl ?_
        refine WL.nil ?_
        refine WC.region ?_
        refine WL.ad rfl rfl rfl ?_
        refine WL.mv rfl rfl ?_
        refine WL.nil ?_
        refine ⟨rfl, ?_⟩
        first
        | exact ⟨⟨n + 1, gc, gb, cc, cb, rc, rb⟩, ⟨by show n + 1 ≤ m; omega, by show (bmTo s (n + 1)).c.length ≤ cc; rw [hxs]; exact hcc, by show (bmTo s (n + 1)).b.length ≤ cb; rw [hxs]; exact hcb⟩, (by show m - (n + 1) < m - n; omega), .cons rfl (.cons (look_eq rfl (by rw [hxs])) (.cons (look_eq rfl (by rw [hxs])) (.cons (look_eq rfl (by rw [hxs])) (.cons (look_eq rfl (by rw [hxs]; simp)) (.cons (look_eq rfl (by rw [hxs])) (.cons rfl (.cons (look_eq rfl (by simp)) (.nil _)))))))), fun w h => by dsimp only; rw [hxs]; exact h⟩
        | exact ⟨⟨n + 1, g3, go, c3, c1, r3, ro⟩, ⟨by show n + 1 ≤ m; omega, by show (bmTo s (n + 1)).c.length ≤ c3; rw [hxs]; exact hco3, by show (bmTo s (n + 1)).b.length ≤ c1; rw [hxs]; exact hco⟩, (by show m - (n + 1) < m - n; omega), .cons rfl (.cons (look_eq rfl (by rw [hxs])) (.cons (look_eq rfl (by rw [hxs])) (.cons (look_eq rfl (by rw [hxs]; simp; omega)) (.cons (look_eq rfl (by rw [hxs]; rfl)) (.cons (look_eq rfl (by rw [hxs])) (.cons rfl (.cons (look_eq rfl (by simp)) (.nil _)))))))), fun w h => by dsimp only; rw [hxs]; exact h.sel 3 [0, 1] rfl⟩
        | exact ⟨⟨n + 1, g3, gb, c3, cb, r3, rb⟩, ⟨by show n + 1 ≤ m; omega, by show (bmTo s (n + 1)).c.length ≤ c3; rw [hxs]; exact hco3, by show (bmTo s (n + 1)).b.length ≤ cb; rw [hxs]; exact hcb⟩, (by show m - (n + 1) < m - n; omega), .cons rfl (.cons (look_eq rfl (by rw [hxs])) (.cons (look_eq rfl (by rw [hxs])) (.cons (look_eq rfl (by rw [hxs])) (.cons (look_eq rfl (by rw [hxs]; simp)) (.cons (look_eq rfl (by rw [hxs])) (.cons rfl (.cons (look_eq rfl (by simp)) (.nil _)))))))), fun w h => by dsimp only; rw [hxs]; exact h.sel 3 [0, 2] rfl⟩
  ·simp only [decide_eq_true_eq, decide_eq_false_iff_not] at hc0
   refine WC.exit ?_
   refine WC.seq ?_
   refine WC.block ?_
   refine WC.loop (σ := Nat) (fun j => [(3, .slice (some ⟨gc, 0, none⟩) j cc)]) (fun j => Cells gc 3 (nats .i64 x.c ++ rc) :: F) (fun j => j ≤ x.c.length ∧ normLen x.c j = normLen x.c x.c.length) (fun j => j) x.c.length ⟨Nat.le_refl _, rfl⟩ (.cons rfl (.nil _)) (fun w h => h.sel 2 [0] rfl) ?_
   rintro j ⟨hj, hjn⟩
   have hgc : 0 < j → (nats .i64 x.c ++ rc)[0 + ((j : Int) - 1).toNat * 1]? = some (.int .i64 (x.c.getD (j - 1) 0 : Nat)) := fun h => by rw [show 0 + ((j : Int) - 1).toNat * 1 = j - 1 by omega]; exact nats_getA _ _ _ (by omega)
   refine WC.seq ?_
   refine WC.sr ?_
   refine WL.mv rfl rfl ?_
   refine WL.val (V.len (t := 42) Tryz.runUnderlying42 (OV.p rfl)) rfl ?_
   refine WL.val (V.gtr (OV.p rfl) (OV.p rfl)) rfl ?_
   refine WL.mv rfl rfl ?_
   refine WL.valG (oj := _) rfl rfl rfl GC.t (V.move (OV.p rfl)) rfl ?_
   refine WL.valG (oj := _) rfl rfl rfl GC.t (V.move (OV.p rfl)) rfl ?_
   refine WL.valG (oj := _) rfl rfl rfl GC.t (V.len (t := 42) Tryz.runUnderlying42 (OV.g rfl id)) rfl ?_
   refine WL.valG (oj := _) rfl rfl rfl GC.t (V.subI (OV.g rfl id) (OV.p rfl) (fun hc => by first | omega | (simp at hc; omega))) rfl ?_
   refine WL.valG (oj := _) rfl rfl rfl GC.t (V.idxB st42 (OV.g rfl id) (OV.g rfl id) (fun hc => by simp at hc; omega)) rfl ?_
   refine WL.valG (oj := _) rfl rfl rfl GC.t (V.load Tryz.isAgg3 (OV.g rfl id) (fun hc => Rd.here (hgc (by simp at hc; omega)))) rfl ?_
   refine WL.valG (oj := _) rfl rfl rfl GC.t (V.eql (OV.g rfl id) (OV.p rfl)) rfl ?_
   refine WL.val (V.pickAnd (OV.p rfl) (OV.g rfl id)) rfl ?_
   refine WL.nil ?_
   refine WC.cond rfl (fun hc6 => ?_) (fun hc6 => ?_)
   ·simp only [Bool.and_eq_true, Bool.and_eq_false_iff, decide_eq_true_eq, decide_eq_false_iff_not] at hc6
    have h6 := hc6
    refine WC.skip ?_
    refine WC.block ?_
    refine WC.region ?_
    refine WL.mv rfl rfl ?_
    refine WL.mv rfl rfl ?_
    refine WL.val (V.len (t := 42) Tryz.runUnderlying42 (OV.p rfl)) rfl ?_
    refine WL.sb rfl rfl rfl ?_
    refine WL.val (V.val_eq (v' := .slice (some ⟨gc, 0, none⟩) (j - 1) cc) (V.slice (l := 0) (h := j - 1) (u := cc) st42 (OV.p rfl) OO.none (OO.some (OV.p rfl) (fun _ => by omega)) OO.none (by simp) (Nat.zero_le _) (by omega) (Nat.le_refl _)) (fun _ => by simp [add_mk])) rfl ?_
    refine WL.sg rfl rfl ?_
    refine WL.nil ?_
    refine ⟨rfl, ?_⟩
    refine ⟨j - 1, ⟨by show j - 1 ≤ x.c.length; omega, ?_⟩, (by show j - 1 < j; omega), .cons rfl (.nil _), fun w h => h⟩
    obtain ⟨i, rfl⟩ : ∃ i, j = i + 1 := ⟨j - 1, by omega⟩
    rw [← hjn, normLen, if_pos (by have := h6.2; simp at this ⊢; omega)]; rfl
   ·simp only [Bool.and_eq_true, Bool.and_eq_false_iff, decide_eq_true_eq, decide_eq_false_iff_not] at hc6
    have h6 := hc6
    refine WC.exit ?_
    refine WC.sr ?_
    refine WL.mv rfl rfl ?_
    refine WL.sg rfl rfl ?_
    refine WL.nil ?_
    refine WC.ret ?_
    obtain rfl : n = m := by omega
    have hlC : locC s = x.c := by unfold locC; rw [hl, ← hx]
    have hj2 : normLen x.c x.c.length = j := by
      rw [← hjn]
      cases j with
      | zero => rfl
      | succ i =>
        rw [normLen, if_neg]
        intro hz
        rcases h6 with h1 | h1
        · omega
        · have h2 : ¬ ((x.c.getD i 0 : Nat) : Int) = 0 := h1
          exact h2 (by rw [hz]; rfl)
    refine BodyQ.ret (H' := Cells gc _ _ :: F) (Res.tmp rfl rfl) (fun w h => h) ⟨gc, cc, rc, ?_, by rw [hlC]⟩
    unfold locL
    rw [hlC, hj2]
end
end Go.Proofs.YtohkefolnmcjnaaGreat
namespace Go.Proofs.YtohkefolnmcjnaaGreat
open Go.Sl Go.RowKit
set_option linter.unusedVariables false
set_option linter.unusedSimpArgs false
set_option maxRecDepth 20000
def pop8 (x : Nat) : Nat := (List.range 8).countP fun k => x.testBit k
theorem pop_code {x : Nat} (hx : x < 256) (h0 : x ≠ 0) : bitsOf .and .u8 (x : Int) ((x : Int) - 1) = ((x &&& (x - 1) : Nat) : Int) ∧ pop8 (x &&& (x - 1)) + 1 = pop8 x ∧ (x &&& (x - 1)) < x := by
  have h : ((List.range 256).all fun a => decide (a ≠ 0 → bitsOf .and .u8 ((a : Nat) : Int) (((a : Nat) : Int) - 1) = ((a &&& (a - 1) : Nat) : Int) ∧ pop8 (a &&& (a - 1)) + 1 = pop8 a ∧ (a &&& (a - 1)) < a)) = true := by kernel_rfl
  have h1 := List.all_eq_true.1 h x (List.mem_range.2 hx)
  exact of_decide_eq_true h1 h0
theorem pop8_le (x : Nat) : pop8 x ≤ 8 := by
  have := List.countP_le_length (p := fun k => x.testBit k) (l := List.range 8)
  rw [List.length_range] at this
  exact this
def ones : List Nat → Nat
  | [] => 0
  | x :: xs => pop8 x + ones xs
theorem ones_le : ∀ xs : List Nat, ones xs ≤ 8 * xs.length
  | [] => Nat.zero_le _
  | x :: xs => by
    have := ones_le xs
    have := pop8_le x
    simp only [ones, List.length_cons]; omega
theorem ones_append : ∀ xs ys : List Nat, ones (xs ++ ys) = ones xs + ones ys
  | [], ys => by simp [ones]
  | x :: xs, ys => by rw [List.cons_append, ones, ones, ones_append xs ys]; omega
theorem take_succ_getD (xs : List Nat) {j : Nat} (h : j < xs.length) : xs.take (j + 1) = xs.take j ++ [xs.getD j 0] := by
  rw [List.take_add_one, List.getElem?_eq_getElem h]
  simp [List.getD, h]
def nz (x : Nat) : Nat := if x = 0 then 0 else 1
def nozero (s : List Nat) : List Nat := s.map nz
section
variable {K : World} {F : List Assn}
theorem bits_Ones {A : Option Addr} {m cap : Nat} {xs : List Nat} (hs : Seq K F A m 1 (nats .u8 xs)) (hx : Small 256 xs) (hm : m ≤ 100000000) : Tells Tryz.prog 163 #[.slice A m cap] K F (.int .i64 (ones xs : Nat)) := by
  have hl : xs.length = m := by simpa [nats] using hs.len
  refine Does.enter Tryz.func163 rfl Tryz.ntmps163 rfl ?_
  simp only [env0, Nat.reduceAdd]
  refine WC.sr ?_
  refine WL.sg rfl rfl ?_
  refine WL.nil ?_
  refine WC.sr ?_
  refine WL.sg rfl rfl ?_
  refine WL.nil ?_
  refine WC.seq ?_
  refine WC.sr ?_
  refine WL.mv rfl rfl ?_
  refine WL.val (V.len (t := 38) Tryz.runUnderlying38 (OV.p rfl)) rfl ?_
  refine WL.mv rfl rfl ?_
  refine WL.nil ?_
  refine WC.block ?_
  refine WC.loop (σ := Nat) (fun j => [(3, .int .i64 (ones (xs.take j) : Nat)), (6, .slice A m cap), (7, .int .i64 (m : Int)), (8, .int .i64 (j : Int))]) (fun _ => F) (fun j => j ≤ m) (fun j => m - j) 0 (Nat.zero_le _) (.cons rfl (.cons rfl (.cons rfl (.cons rfl (.nil _))))) (fun w h => h) ?_
  rintro j hj
  refine WC.sr ?_
  refine WL.val (V.lss (OV.p rfl) (OV.p rfl)) rfl ?_
  refine WL.nil ?_
  refine WC.seq ?_
  refine WC.cond rfl (fun hc0 => ?_) (fun hc0 => ?_)
  ·simp only [decide_eq_true_eq, decide_eq_false_iff_not] at hc0
   refine WC.skip ?_
   refine WC.seq ?_
   refine WC.block ?_
   refine WC.seq ?_
   have hrd : Rd K F (A.map (·.add ((j : Int).toNat * 1))) (.int .u8 (xs.getD j 0 : Nat)) := by
     rw [show (j : Int).toNat = j by omega]; exact hs.nat_rd (by omega)
   obtain ⟨x0, hx0⟩ : ∃ x0, x0 = xs.getD j 0 := ⟨_, rfl⟩
   have hx8 : x0 < 256 := by rw [hx0]; exact hx.at_ (by decide) j
   have hon : ones (xs.take (j + 1)) = ones (xs.take j) + pop8 x0 := by rw [take_succ_getD xs (by omega), ones_append, ← hx0]; simp [ones]
   have hob := ones_le (xs.take j)
   rw [List.length_take] at hob
   rw [← hx0] at hrd
   refine WC.region ?_
   refine WL.val (V.idxS st38 (OV.p rfl) (OV.p rfl) (fun hc => by omega) (fun hc => hrd)) rfl ?_
   refine WL.val (V.load Tryz.isAgg5 (OV.p rfl) (fun hc => hrd)) rfl ?_
   refine WL.sg rfl rfl ?_
   refine WL.nil ?_
   refine WC.block ?_
   refine WC.loop (σ := Nat) (fun x => [(3, .int .i64 (ones (xs.take j) + (pop8 x0 - pop8 x) : Nat)), (6, .slice A m cap), (7, .int .i64 (m : Int)), (8, .int .i64 (j : Int)), (5, .int .u8 (x : Int))]) (fun _ => F) (fun x => x < 256 ∧ pop8 x ≤ pop8 x0) (fun x => x) x0 ⟨hx8, Nat.le_refl _⟩ (.cons (look_eq rfl (by rw [Nat.sub_self, Nat.add_zero])) (.cons rfl (.cons rfl (.cons rfl (.cons rfl (.nil _)))))) (fun w h => h) ?_
   rintro x ⟨hx1, hx2⟩
   refine WC.seq ?_
   refine WC.sr ?_
   refine WL.mv rfl rfl ?_
   refine WL.val (V.neq (OV.p rfl) (OV.p rfl)) rfl ?_
   refine WL.nil ?_
   refine WC.cond rfl (fun hc1 => ?_) (fun hc1 => ?_)
   ·simp only [decide_eq_true_eq, decide_eq_false_iff_not, Bool.not_eq_true', Bool.not_eq_false'] at hc1
    have h1 := hc1
    refine WC.skip ?_
    refine WC.seq ?_
    refine WC.block ?_
    have hxn : x ≠ 0 := by omega
    obtain ⟨hp1, hp2, hp3⟩ := pop_code hx1 hxn
    have hp8 := pop8_le x0
    refine WC.region ?_
    refine WL.mv rfl rfl ?_
    refine WL.val (V.val_eq (v' := .int .i64 (ones (xs.take j) + (pop8 x0 - pop8 (x &&& (x - 1))) : Nat)) (V.addI (OV.p rfl) (OV.p rfl) (fun _ => by omega)) (fun _ => by congr 1; omega)) rfl ?_
    refine WL.sg rfl rfl ?_
    refine WL.nil ?_
    refine WC.region ?_
    refine WL.mv rfl rfl ?_
    refine WL.mv rfl rfl ?_
    refine WL.val (V.val_eq (v' := .int .u8 ((x : Int) - 1)) (V.sub (OV.p rfl) (OV.p rfl)) (fun _ => by congr 1; simp only [IntKind.wrap, IntKind.bits, IntKind.signed]; simp; omega)) rfl ?_
    refine WL.val (V.val_eq (v' := .int .u8 ((x &&& (x - 1) : Nat) : Int)) (V.and (OV.p rfl) (OV.p rfl)) (fun _ => by rw [hp1])) rfl ?_
    refine WL.sg rfl rfl ?_
    refine WL.nil ?_
    refine ⟨rfl, ?_⟩
    exact ⟨x &&& (x - 1), ⟨by show x &&& (x - 1) < 256; omega, by omega⟩, hp3, .cons rfl (.cons rfl (.cons rfl (.cons rfl (.cons rfl (.nil _))))), fun w h => h⟩
   ·simp only [decide_eq_true_eq, decide_eq_false_iff_not, Bool.not_eq_true', Bool.not_eq_false'] at hc1
    have h1 := hc1
    refine WC.exit ?_
    have hx0' : x = 0 := by omega
    have hpz : pop8 x = 0 := by rw [hx0']; rfl
    rw [hpz, Nat.sub_zero]
    refine WC.region ?_
    refine WL.ad rfl rfl rfl ?_
    refine WL.mv rfl rfl ?_
    refine WL.nil ?_
    refine ⟨rfl, ?_⟩
    exact ⟨j + 1, (by show j + 1 ≤ m; omega), (by show m - (j + 1) < m - j; omega), .cons (look_eq rfl (by rw [hon])) (.cons rfl (.cons rfl (.cons (look_eq rfl (by simp)) (.nil _)))), fun w h => h⟩
  ·simp only [decide_eq_true_eq, decide_eq_false_iff_not] at hc0
   refine WC.exit ?_
   refine WC.sr ?_
   refine WL.mv rfl rfl ?_
   refine WL.sg rfl rfl ?_
   refine WL.nil ?_
   refine WC.ret ?_
   obtain rfl : j = m := by omega
   exact BodyQ.ret (H' := F) (Res.tmp rfl rfl) (fun w h => h) ⟨by rw [List.take_of_length_le (by omega)], rfl⟩
theorem bch_nought {A : Option Addr} {m cap : Nat} {s : List Nat} (hs : Seq K F A m 1 (nats .i64 s)) (hs8 : Small 8192 s) (hm : m ≤ 1000000) :
    Does Tryz.prog 171 #[.slice A m cap] K F (fun v H' => ∃ g, v = .slice (some ⟨g, 0, none⟩) m m ∧ H' = Cells g 5 (nats .u8 (nozero s)) :: F) := by
  have hl : s.length = m := by simpa [nats] using hs.len
  refine Does.enter Tryz.func171 rfl Tryz.ntmps171 rfl ?_
  simp only [env0, Nat.reduceAdd]
  refine WC.sr ?_
  refine WL.sg rfl rfl ?_
  refine WL.nil ?_
  refine WC.sr ?_
  refine WL.mv rfl rfl ?_
  refine WL.val (V.len (t := 42) Tryz.runUnderlying42 (OV.p rfl)) rfl ?_
  refine WL.make1 (m := m) Tryz.underlying38 el5 (OV.p rfl) (OV.p rfl) (by omega) (by omega) (by omega) rfl rfl rfl (fun b8 => ?_)
  refine WL.sg rfl rfl ?_
  refine WL.nil ?_
  refine WC.seq ?_
  refine WC.sr ?_
  refine WL.mv rfl rfl ?_
  refine WL.val (V.len (t := 42) Tryz.runUnderlying42 (OV.p rfl)) rfl ?_
  refine WL.mv rfl rfl ?_
  refine WL.nil ?_
  refine WC.block ?_
  refine WC.loop (σ := Nat) (fun j => [(3, .slice (some ⟨b8, 0, none⟩) m m), (9, .slice A m cap), (10, .int .i64 (m : Int)), (11, .int .i64 (j : Int))]) (fun j => Cells b8 5 (nats .u8 (nozero (s.take j) ++ List.replicate (m - j) 0)) :: F) (fun j => j ≤ m) (fun j => m - j) 0 (Nat.zero_le _) (.cons rfl (.cons rfl (.cons rfl (.cons rfl (.nil _))))) (fun w h => Sat.cells_eq h (by simp [nozero, nats_replicate])) ?_
  rintro j hj
  refine WC.sr ?_
  refine WL.val (V.lss (OV.p rfl) (OV.p rfl)) rfl ?_
  refine WL.nil ?_
  refine WC.seq ?_
  refine WC.cond rfl (fun hc0 => ?_) (fun hc0 => ?_)
  ·simp only [decide_eq_true_eq, decide_eq_false_iff_not] at hc0
   refine WC.skip ?_
   refine WC.seq ?_
   refine WC.block ?_
   refine WC.seq ?_
   have hjm : j < m := by omega
   have hrd : Rd K (Cells b8 5 (nats .u8 (nozero (s.take j) ++ List.replicate (m - j) 0)) :: F) (A.map (·.add ((j : Int).toNat * 1))) (.int .i64 (s.getD j 0 : Nat)) := by
     rw [show (j : Int).toNat = j by omega]; exact (hs.nat_rd (by omega)).up
   obtain ⟨x, hx⟩ : ∃ x, x = s.getD j 0 := ⟨_, rfl⟩
   have htk := take_succ_getD s (j := j) (by omega)
   have htl : (nozero (s.take j)).length = j := by simp [nozero]; omega
   rw [← hx] at hrd htk
   refine WC.region ?_
   refine WL.mv rfl rfl ?_
   refine WL.val (V.idxS st42 (OV.p rfl) (OV.p rfl) (fun hc => by omega) (fun hc => hrd)) rfl ?_
   refine WL.val (V.load Tryz.isAgg3 (OV.p rfl) (fun hc => hrd)) rfl ?_
   refine WL.sg rfl rfl ?_
   refine WL.sg rfl rfl ?_
   refine WL.nil ?_
   refine WC.sr ?_
   refine WL.mv rfl rfl ?_
   refine WL.val (V.neq (OV.p rfl) (OV.p rfl)) rfl ?_
   refine WL.nil ?_
   refine WC.cond rfl (fun hc1 => ?_) (fun hc1 => ?_)
   ·simp only [decide_eq_true_eq, decide_eq_false_iff_not, Bool.not_eq_true', Bool.not_eq_false'] at hc1
    have h1 := hc1
    refine WC.region ?_
    refine WL.mv rfl rfl ?_
    refine WL.mv rfl rfl ?_
    refine WL.val (V.idxB st38 (OV.p rfl) (OV.p rfl) (fun hc => by omega)) rfl ?_
    refine WL.store (cs := [_]) Tryz.sizeOf5 (OV.p rfl) (OV.p rfl) rfl rfl rfl (Upd.at_ (by simp [nats, nozero]; omega)) ?_
    refine WL.nil ?_
    refine WC.region ?_
    refine WL.ad rfl rfl rfl ?_
    refine WL.mv rfl rfl ?_
    refine WL.nil ?_
    refine ⟨rfl, ?_⟩
    refine ⟨j + 1, (by show j + 1 ≤ m; omega), (by show m - (j + 1) < m - j; omega), .cons rfl (.cons rfl (.cons rfl (.cons (look_eq rfl (by simp)) (.nil _)))), fun w h => Sat.cells_eq h ?_⟩
    have e1 : nozero (s.take (j + 1)) = nozero (s.take j) ++ [nz x] := by rw [htk]; simp [nozero]
    have e2 : m - j = (m - (j + 1)) + 1 := by omega
    first
      | (have e3 : nz x = 1 := by unfold nz; rw [if_neg (by omega)]
         rw [show 0 + (j : Int).toNat * 1 = j by omega, show Value.int .u8 1 = Value.int .u8 ((1 : Nat) : Int) from rfl, nats_set, e1, e3, e2, List.set_append_right _ _ (by omega), htl, Nat.sub_self, List.replicate_succ, List.set_cons_zero]
         simp)
      | (have e3 : nz x = 0 := by unfold nz; rw [if_pos (by omega)]
         rw [e1, e3, e2, List.replicate_succ]
         simp)
   ·simp only [decide_eq_true_eq, decide_eq_false_iff_not, Bool.not_eq_true', Bool.not_eq_false'] at hc1
    have h1 := hc1
    refine WC.skip ?_
    refine WC.region ?_
    refine WL.ad rfl rfl rfl ?_
    refine WL.mv rfl rfl ?_
    refine WL.nil ?_
    refine ⟨rfl, ?_⟩
    refine ⟨j + 1, (by show j + 1 ≤ m; omega), (by show m - (j + 1) < m - j; omega), .cons rfl (.cons rfl (.cons rfl (.cons (look_eq rfl (by simp)) (.nil _)))), fun w h => Sat.cells_eq h ?_⟩
    have e1 : nozero (s.take (j + 1)) = nozero (s.take j) ++ [nz x] := by rw [htk]; simp [nozero]
    have e2 : m - j = (m - (j + 1)) + 1 := by omega
    first
      | (have e3 : nz x = 1 := by unfold nz; rw [if_neg (by omega)]
         rw [show 0 + (j : Int).toNat * 1 = j by omega, show Value.int .u8 1 = Value.int .u8 ((1 : Nat) : Int) from rfl, nats_set, e1, e3, e2, List.set_append_right _ _ (by omega), htl, Nat.sub_self, List.replicate_succ, List.set_cons_zero]
         simp)
      | (have e3 : nz x = 0 := by unfold nz; rw [if_pos (by omega)]
         rw [e1, e3, e2, List.replicate_succ]
         simp)
  ·simp only [decide_eq_true_eq, decide_eq_false_iff_not] at hc0
   refine WC.exit ?_
   refine WC.sr ?_
   refine WL.mv rfl rfl ?_
   refine WL.sg rfl rfl ?_
   refine WL.nil ?_
   refine WC.ret ?_
   obtain rfl : j = m := by omega
   exact BodyQ.ret (H' := Cells b8 _ _ :: F) (Res.tmp rfl rfl) (fun w h => Sat.cells_eq h (by rw [List.take_of_length_le (by omega)]; simp)) ⟨b8, rfl, rfl⟩
end
end Go.Proofs.YtohkefolnmcjnaaGreat
