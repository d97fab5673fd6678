import Derived.Test.YtcedojacbhnbiaaGreatP15
import Derived.Test.YtcedojacbhnbiaaGreatP14
namespace Go.Proofs.YtcedojacbhnbiaaGreat
open Go.Sl Go.RowKit
set_option linter.unusedVariables false
set_option linter.unusedSimpArgs false
set_option maxRecDepth 20000
def pop8 (x : Nat) : Nat := (List.range 8).countP fun k => x.testBit k
theorem Kt {x : Nat} (hx : x < 256) (h0 : x ≠ 0) : bitsOf .and .u8 (x : Int) ((x : Int) - 1) = ((x &&& (x - 1) : Nat) : Int) ∧ pop8 (x &&& (x - 1)) + 1 = pop8 x ∧ (x &&& (x - 1)) < x := by
  have h : ((List.range 256).all fun a => decide (a ≠ 0 → bitsOf .and .u8 ((a : Nat) : Int) (((a : Nat) : Int) - 1) = ((a &&& (a - 1) : Nat) : Int) ∧ pop8 (a &&& (a - 1)) + 1 = pop8 a ∧ (a &&& (a - 1)) < a)) = true := by kernel_rfl
  have h1 := List.all_eq_true.1 h x (List.mem_range.2 hx)
  exact of_decide_eq_true h1 h0
theorem Hg (x : Nat) : pop8 x ≤ 8 := by
  have := List.countP_le_length (p := fun k => x.testBit k) (l := List.range 8)
  rw [List.length_range] at this
  exact this
def ones : List Nat → Nat
  | [] => 0
  | x :: xs => pop8 x + ones xs
theorem Ck : ∀ xs : List Nat, ones xs ≤ 8 * xs.length
  | [] => Nat.zero_le _
  | x :: xs => by
    have := Ck xs
    have := Hg x
    simp only [ones, List.length_cons]; omega
theorem vY : ∀ xs ys : List Nat, ones (xs ++ ys) = ones xs + ones ys
  | [], ys => by simp [ones]
  | x :: xs, ys => by rw [List.cons_append, ones, ones, vY xs ys]; omega
theorem og (xs : List Nat) {j : Nat} (h : j < xs.length) : xs.take (j + 1) = xs.take j ++ [xs.getD j 0] := by
  rw [List.take_add_one, List.getElem?_eq_getElem h]
  simp [List.getD, h]
def nz (x : Nat) : Nat := if x = 0 then 0 else 1
def eY (s : List Nat) : List Nat := s.map nz
section
variable {K : World} {F : List au}
theorem Bg {A : Option Addr} {m cap : Nat} {xs : List Nat} (hs : Seq K F A m 1 (aB .u8 xs)) (hx : Small 256 xs) (hm : m ≤ 100000000) : aG Tryz.prog 282 #[.slice A m cap] K F (.int .i64 (ones xs : Nat)) := by
  have hl : xs.length = m := by simpa [aB] using hs.len
  refine Does.enter Tryz.func282 rfl Tryz.ntmps282 rfl ?_
  simp only [aJ, Nat.reduceAdd]
  refine WC.sr (WL.sg rfl rfl (WL.nil (WC.sr (WL.sg rfl rfl (WL.nil (WC.seq (WC.sr (WL.mv rfl rfl (WL.val (V.len (t := 34) Tryz.runUnderlying34 (OV.p rfl)) rfl (WL.mv rfl rfl (WL.nil (WC.block ?_))))))))))))
  refine WC.loop (σ := Nat) (fun j => [(3, .int .i64 (ones (xs.take j) : Nat)), (6, .slice A m cap), (7, .int .i64 (m : Int)), (8, .int .i64 (j : Int))]) (fun _ => F) (fun j => j ≤ m) (fun j => m - j) 0 (Nat.zero_le _) (.cons rfl (.cons rfl (.cons rfl (.cons rfl (.nil _))))) (fun w h => h) ?_
  rintro j hj
  refine WC.sr (WL.val (V.lss (OV.p rfl) (OV.p rfl)) rfl (WL.nil (WC.seq ?_)))
  refine WC.cond rfl (fun hc0 => ?_) (fun hc0 => ?_)
  ·simp only [decide_eq_true_eq, decide_eq_false_iff_not] at hc0
   refine WC.skip (WC.seq (WC.block (WC.seq ?_)))
   have hrd : Rd K F (A.map (·.add ((j : Int).toNat * 1))) (.int .u8 (xs.getD j 0 : Nat)) := by
     rw [show (j : Int).toNat = j by omega]; exact hs.gK (by omega)
   obtain ⟨x0, hx0⟩ : ∃ x0, x0 = xs.getD j 0 := ⟨_, rfl⟩
   have Oi : x0 < 256 := by rw [hx0]; exact hx.at_ (by decide) j
   have hon : ones (xs.take (j + 1)) = ones (xs.take j) + pop8 x0 := by rw [og xs (by omega), vY, ← hx0]; simp [ones]
   have Qb := Ck (xs.take j)
   rw [List.length_take] at Qb
   rw [← hx0] at hrd
   refine WC.region ?_
   refine WL.val (V.fu dB (OV.p rfl) (OV.p rfl) (fun hc => by omega) (fun hc => hrd)) rfl ?_
   refine WL.val (V.load Tryz.isAgg5 (OV.p rfl) (fun hc => hrd)) rfl ?_
   refine WL.sg rfl rfl (WL.nil (WC.block ?_))
   refine WC.loop (σ := Nat) (fun x => [(3, .int .i64 (ones (xs.take j) + (pop8 x0 - pop8 x) : Nat)), (6, .slice A m cap), (7, .int .i64 (m : Int)), (8, .int .i64 (j : Int)), (5, .int .u8 (x : Int))]) (fun _ => F) (fun x => x < 256 ∧ pop8 x ≤ pop8 x0) (fun x => x) x0 ⟨Oi, Nat.le_refl _⟩ (.cons (look_eq rfl (by rw [Nat.sub_self, Nat.add_zero])) (.cons rfl (.cons rfl (.cons rfl (.cons rfl (.nil _)))))) (fun w h => h) ?_
   rintro x ⟨hx1, hx2⟩
   refine WC.seq (WC.sr (WL.mv rfl rfl (WL.val (V.neq (OV.p rfl) (OV.p rfl)) rfl (WL.nil ?_))))
   refine WC.cond rfl (fun hc1 => ?_) (fun hc1 => ?_)
   ·simp only [decide_eq_true_eq, decide_eq_false_iff_not, Bool.not_eq_true', Bool.not_eq_false'] at hc1
    have h1 := hc1
    refine WC.skip (WC.seq (WC.block ?_))
    have hxn : x ≠ 0 := by omega
    obtain ⟨hp1, hp2, hp3⟩ := Kt hx1 hxn
    have Jq := Hg x0
    refine WC.region (WL.mv rfl rfl ?_)
    refine WL.val (V.aA (v' := .int .i64 (ones (xs.take j) + (pop8 x0 - pop8 (x &&& (x - 1))) : Nat)) (V.jO (OV.p rfl) (OV.p rfl) (fun _ => by omega)) (fun _ => by congr 1; omega)) rfl ?_
    refine WL.sg rfl rfl (WL.nil (WC.region (WL.mv rfl rfl (WL.mv rfl rfl ?_))))
    refine WL.val (V.aA (v' := .int .u8 ((x : Int) - 1)) (V.sub (OV.p rfl) (OV.p rfl)) (fun _ => by congr 1; simp only [IntKind.wrap, IntKind.bits, IntKind.signed]; simp; omega)) rfl ?_
    refine WL.val (V.aA (v' := .int .u8 ((x &&& (x - 1) : Nat) : Int)) (V.and (OV.p rfl) (OV.p rfl)) (fun _ => by rw [hp1])) rfl ?_
    refine WL.sg rfl rfl (WL.nil ?_)
    refine ⟨rfl, ?_⟩
    exact ⟨x &&& (x - 1), ⟨by show x &&& (x - 1) < 256; omega, by omega⟩, hp3, .cons rfl (.cons rfl (.cons rfl (.cons rfl (.cons rfl (.nil _))))), fun w h => h⟩
   ·simp only [decide_eq_true_eq, decide_eq_false_iff_not, Bool.not_eq_true', Bool.not_eq_false'] at hc1
    have h1 := hc1
    refine WC.exit ?_
    have hx0' : x = 0 := by omega
    have hpz : pop8 x = 0 := by rw [hx0']; rfl
    rw [hpz, Nat.sub_zero]
    refine WC.region (WL.ad rfl rfl rfl ?_)
    refine WL.mv rfl rfl (WL.nil ?_)
    refine ⟨rfl, ?_⟩
    exact ⟨j + 1, (by show j + 1 ≤ m; omega), (by show m - (j + 1) < m - j; omega), .cons (look_eq rfl (by rw [hon])) (.cons rfl (.cons rfl (.cons (look_eq rfl (by simp)) (.nil _)))), fun w h => h⟩
  ·simp only [decide_eq_true_eq, decide_eq_false_iff_not] at hc0
   refine WC.exit (WC.sr (WL.mv rfl rfl (WL.sg rfl rfl (WL.nil (WC.ret ?_)))))
   obtain rfl : j = m := by omega
   exact aj.ret (H' := F) (aL.tmp rfl rfl) (fun w h => h) ⟨by rw [List.take_of_length_le (by omega)], rfl⟩
theorem Gj {A : Option Addr} {m cap : Nat} {s : List Nat} (hs : Seq K F A m 1 (aB .i64 s)) (Ni : Small 8192 s) (hm : m ≤ 1000000) :
    Does Tryz.prog 290 #[.slice A m cap] K F (fun v H' => ∃ g, v = .slice (some ⟨g, 0, none⟩) m m ∧ H' = Cells g 5 (aB .u8 (eY s)) :: F) := by
  have hl : s.length = m := by simpa [aB] using hs.len
  refine Does.enter Tryz.func290 rfl Tryz.ntmps290 rfl ?_
  simp only [aJ, Nat.reduceAdd]
  refine WC.sr (WL.sg rfl rfl (WL.nil (WC.sr (WL.mv rfl rfl (WL.val (V.len (t := 124) Tryz.runUnderlying124 (OV.p rfl)) rfl ?_)))))
  refine WL.l7 (m := m) Tryz.underlying34 vP (OV.p rfl) (OV.p rfl) (by omega) (by omega) (by omega) rfl rfl rfl (fun b8 => ?_)
  refine WL.sg rfl rfl (WL.nil (WC.seq (WC.sr (WL.mv rfl rfl (WL.val (V.len (t := 124) Tryz.runUnderlying124 (OV.p rfl)) rfl (WL.mv rfl rfl (WL.nil (WC.block ?_))))))))
  refine WC.loop (σ := Nat) (fun j => [(3, .slice (some ⟨b8, 0, none⟩) m m), (9, .slice A m cap), (10, .int .i64 (m : Int)), (11, .int .i64 (j : Int))]) (fun j => Cells b8 5 (aB .u8 (eY (s.take j) ++ List.replicate (m - j) 0)) :: F) (fun j => j ≤ m) (fun j => m - j) 0 (Nat.zero_le _) (.cons rfl (.cons rfl (.cons rfl (.cons rfl (.nil _))))) (fun w h => Sat.aV h (by simp [eY, dh])) ?_
  rintro j hj
  refine WC.sr (WL.val (V.lss (OV.p rfl) (OV.p rfl)) rfl (WL.nil (WC.seq ?_)))
  refine WC.cond rfl (fun hc0 => ?_) (fun hc0 => ?_)
  ·simp only [decide_eq_true_eq, decide_eq_false_iff_not] at hc0
   refine WC.skip (WC.seq (WC.block (WC.seq ?_)))
   have hjm : j < m := by omega
   have hrd : Rd K (Cells b8 5 (aB .u8 (eY (s.take j) ++ List.replicate (m - j) 0)) :: F) (A.map (·.add ((j : Int).toNat * 1))) (.int .i64 (s.getD j 0 : Nat)) := by
     rw [show (j : Int).toNat = j by omega]; exact (hs.gK (by omega)).up
   obtain ⟨x, hx⟩ : ∃ x, x = s.getD j 0 := ⟨_, rfl⟩
   have htk := og s (j := j) (by omega)
   have htl : (eY (s.take j)).length = j := by simp [eY]; omega
   rw [← hx] at hrd htk
   refine WC.region (WL.mv rfl rfl ?_)
   refine WL.val (V.fu bO (OV.p rfl) (OV.p rfl) (fun hc => by omega) (fun hc => hrd)) rfl ?_
   refine WL.val (V.load Tryz.isAgg3 (OV.p rfl) (fun hc => hrd)) rfl ?_
   refine WL.sg rfl rfl (WL.sg rfl rfl (WL.nil (WC.sr (WL.mv rfl rfl (WL.val (V.neq (OV.p rfl) (OV.p rfl)) rfl (WL.nil ?_))))))
   refine WC.cond rfl (fun hc1 => ?_) (fun hc1 => ?_)
   ·simp only [decide_eq_true_eq, decide_eq_false_iff_not, Bool.not_eq_true', Bool.not_eq_false'] at hc1
    have h1 := hc1
    refine WC.region (WL.mv rfl rfl (WL.mv rfl rfl ?_))
    refine WL.val (V.bP dB (OV.p rfl) (OV.p rfl) (fun hc => by omega)) rfl ?_
    refine WL.store (cs := [_]) Tryz.sizeOf5 (OV.p rfl) (OV.p rfl) rfl rfl rfl (aQ.at_ (by simp [aB, eY]; omega)) ?_
    refine WL.nil (WC.region (WL.ad rfl rfl rfl ?_))
    refine WL.mv rfl rfl (WL.nil ?_)
    refine ⟨rfl, ?_⟩
    refine ⟨j + 1, (by show j + 1 ≤ m; omega), (by show m - (j + 1) < m - j; omega), .cons rfl (.cons rfl (.cons rfl (.cons (look_eq rfl (by simp)) (.nil _)))), fun w h => Sat.aV h ?_⟩
    have e1 : eY (s.take (j + 1)) = eY (s.take j) ++ [nz x] := by rw [htk]; simp [eY]
    have e2 : m - j = (m - (j + 1)) + 1 := by omega
    first
      | (have e3 : nz x = 1 := by unfold nz; rw [if_neg (by omega)]
         rw [show 0 + (j : Int).toNat * 1 = j by omega, show Value.int .u8 1 = Value.int .u8 ((1 : Nat) : Int) from rfl, iZ, e1, e3, e2, List.set_append_right _ _ (by omega), htl, Nat.sub_self, List.replicate_succ, List.set_cons_zero]
         simp)
      | (have e3 : nz x = 0 := by unfold nz; rw [if_pos (by omega)]
         rw [e1, e3, e2, List.replicate_succ]
         simp)
   ·simp only [decide_eq_true_eq, decide_eq_false_iff_not, Bool.not_eq_true', Bool.not_eq_false'] at hc1
    have h1 := hc1
    refine WC.skip (WC.region (WL.ad rfl rfl rfl ?_))
    refine WL.mv rfl rfl (WL.nil ?_)
    refine ⟨rfl, ?_⟩
    refine ⟨j + 1, (by show j + 1 ≤ m; omega), (by show m - (j + 1) < m - j; omega), .cons rfl (.cons rfl (.cons rfl (.cons (look_eq rfl (by simp)) (.nil _)))), fun w h => Sat.aV h ?_⟩
    have e1 : eY (s.take (j + 1)) = eY (s.take j) ++ [nz x] := by rw [htk]; simp [eY]
    have e2 : m - j = (m - (j + 1)) + 1 := by omega
    first
      | (have e3 : nz x = 1 := by unfold nz; rw [if_neg (by omega)]
         rw [show 0 + (j : Int).toNat * 1 = j by omega, show Value.int .u8 1 = Value.int .u8 ((1 : Nat) : Int) from rfl, iZ, e1, e3, e2, List.set_append_right _ _ (by omega), htl, Nat.sub_self, List.replicate_succ, List.set_cons_zero]
         simp)
      | (have e3 : nz x = 0 := by unfold nz; rw [if_pos (by omega)]
         rw [e1, e3, e2, List.replicate_succ]
         simp)
  ·simp only [decide_eq_true_eq, decide_eq_false_iff_not] at hc0
   refine WC.exit (WC.sr (WL.mv rfl rfl (WL.sg rfl rfl (WL.nil (WC.ret ?_)))))
   obtain rfl : j = m := by omega
   exact aj.ret (H' := Cells b8 _ _ :: F) (aL.tmp rfl rfl) (fun w h => Sat.aV h (by rw [List.take_of_length_le (by omega)]; simp)) ⟨b8, rfl, rfl⟩
end
abbrev LL := List Nat × List Nat
def iq (t : Nat) (p : LL) (i : Nat) : LL := if 13 * t ≤ i then (iC p.1 (i - 13 * t), p.2) else (p.1, iC p.2 i)
def qV (c : List Nat) (x : Nat) : Nat → Nat → Nat
  | 0, v => v
  | k + 1, v => qV c x k (aK v x ^^^ c.getD k 0)
def mP (c : List Nat) (L i : Nat) : Bool := decide (qV c (bT (-(i : Int))) L 0 = 0)
def bF (t : Nat) (c : List Nat) (L : Nat) (p : LL) : Nat → LL × Nat
  | 0 => (p, 0)
  | k + 1 => if mP c L k = true then (iq t (bF t c L p k).1 k, (bF t c L p k).2 + 1) else bF t c L p k
def dI (t : Nat) (p : LL) : List Nat := jS t (13 * t + 8 * p.1.length) (xq t p.1 p.2)
def kQ (t : Nat) (d m : List Nat) : Option (LL × Nat) :=
  if t + 1 < mh (dI t (d, dF t m)) then none
  else
    if (bF t (kR (dI t (d, dF t m))) (mh (dI t (d, dF t m))) (d, dF t m) (13 * t + 8 * d.length)).2 + 1 ≠ mh (dI t (d, dF t m)) then none
    else if 0 < ones (eY (dI t (bF t (kR (dI t (d, dF t m))) (mh (dI t (d, dF t m))) (d, dF t m) (13 * t + 8 * d.length)).1)) then none
    else some (bF t (kR (dI t (d, dF t m))) (mh (dI t (d, dF t m))) (d, dF t m) (13 * t + 8 * d.length))
theorem zm {c : List Nat} {x k v : Nat} : qV c x (k + 1) v = qV c x k (aK v x ^^^ c.getD k 0) := rfl
theorem zy (t : Nat) (c : List Nat) (L : Nat) (p : LL) : ∀ k, (bF t c L p k).2 ≤ k
  | 0 => Nat.le_refl _
  | k + 1 => by
    have := zy t c L p k
    rw [bF]; split
    · show (bF t c L p k).2 + 1 ≤ k + 1; omega
    · omega
theorem Ip (t : Nat) (p : LL) (i : Nat) : (iq t p i).1.length = p.1.length ∧ (iq t p i).2.length = p.2.length := by
  unfold iq; split <;> simp [dO]
theorem iN (t : Nat) (c : List Nat) (L : Nat) (p : LL) : ∀ k, (bF t c L p k).1.1.length = p.1.length ∧ (bF t c L p k).1.2.length = p.2.length
  | 0 => ⟨rfl, rfl⟩
  | k + 1 => by
    have ih := iN t c L p k
    rw [bF]; split
    · have := Ip t (bF t c L p k).1 k
      exact ⟨by show (iq _ _ _).1.length = _; omega, by show (iq _ _ _).2.length = _; omega⟩
    · exact ih
theorem oW {t len : Nat} {bit : Nat → Bool} : Small 8192 (jS t len bit) := fun x hx => by
  obtain ⟨k, _, rfl⟩ := List.mem_map.1 hx
  exact JW _ _ (by decide)
theorem uM {t len : Nat} {bit : Nat → Bool} : (jS t len bit).length = 2 * t := by simp [jS]
theorem Fy {s : List Nat} (hs : Small 8192 s) : Small 8192 (kR s) := (tF hs _).cs
theorem LC {s : List Nat} (hs : Small 8192 s) : mh s ≤ (kR s).length ∧ (kR s).length ≤ s.length + 1 := ⟨dV _ _, (tF hs _).c2⟩
namespace Wd
def put (W : Wd) (p : LL) : Wd := { W with d := p.1, m := p.2 }
theorem xO (W : Wd) (p : LL) (i : Nat) : (W.put p).flip i = W.put (iq W.t p i) := by
  unfold Wd.flip iq put
  split <;> rfl
end Wd
def Mq (F : List au) (o : Option (LL × Nat)) (v : Value) (H' : List au) : Prop :=
  match o with
  | none => v = .tuple #[.slice none 0 0, .slice none 0 0, .int .i64 0, .int .i64 50] ∧ H' = F
  | some (p, n) => ∃ g1 c1 r1 g2 c2 r2, p.1.length ≤ c1 ∧ p.2.length ≤ c2 ∧ v = .tuple #[.slice (some ⟨g1, 0, none⟩) p.1.length c1, .slice (some ⟨g2, 0, none⟩) p.2.length c2, .int .i64 (n : Int), .int .i64 0] ∧ H' = Cells g1 5 (aB .u8 p.1 ++ r1) :: Cells g2 5 (aB .u8 p.2 ++ r2) :: F
section
variable {K : World} {F : List au}
theorem zM {bw : Nat} {V : Wd} (h : V.Ok) : Does Tryz.prog 285 #[ptr bw 0] K (V.parts bw ++ F) (fun v H' => ∃ g, v = .slice (some ⟨g, 0, none⟩) (2 * V.t) (2 * V.t) ∧ H' = Cells g 3 (aB .i64 (dI V.t (V.d, V.m))) :: (V.parts bw ++ F)) :=
  Hy h aT.all (Seq.up (Seq.here (by rw [aH]; omega) (by rw [List.drop_zero]; exact List.prefix_append _ _))) (Seq.up (Seq.up (Seq.here (by rw [aH]; omega) (by rw [List.drop_zero]; exact List.prefix_append _ _))))
theorem FL {t : Nat} {A B : Option Addr} {m q cap cap' : Nat} {d mo : List Nat} (ht : 1 ≤ t ∧ t ≤ 8) (hd : Seq K F A m 1 (aB .u8 d)) (hm : Seq K F B q 1 (aB .u8 mo)) (Gr : Small 256 d) (MV : Small 256 mo) (hdl : 1 ≤ m ∧ m ≤ 512) (hml : q = ay t) :
    Does Tryz.prog 244 #[.int .i64 (t : Int), .slice A m cap, .slice B q cap'] K F (Mq F (kQ t d mo)) := by
  refine Does.enter Tryz.func244 rfl Tryz.ntmps244 rfl ?_
  simp only [aJ, Nat.reduceAdd]
  refine WC.sr (WL.sg rfl rfl (WL.sg rfl rfl (WL.sg rfl rfl (WL.sg rfl rfl (WL.nil (WC.sr (WL.mv rfl rfl (WL.mv rfl rfl (WL.mv rfl rfl (WL.call (vs := [_, _, _]) Tryz.call283 ⟨OV.p rfl, OV.p rfl, OV.p rfl, trivial⟩ (DY ht hd hm Gr MV hdl hml) rfl ?_))))))))))
  rintro _ _ ⟨bw, W, hW, NY, hWd, R5, hWc, rfl, rfl⟩
  obtain ⟨p, hp⟩ : ∃ p : LL, p = (d, dF t mo) := ⟨_, rfl⟩
  have hp1 : W.d = p.1 := by rw [hp, hWd]
  have hp2 : W.m = p.2 := by rw [hp, R5]
  have hdF : kQ t d mo = (if t + 1 < mh (dI t p) then none else if (bF t (kR (dI t p)) (mh (dI t p)) p W.len).2 + 1 ≠ mh (dI t p) then none else if 0 < ones (eY (dI t (bF t (kR (dI t p)) (mh (dI t p)) p W.len).1)) then none else some (bF t (kR (dI t p)) (mh (dI t p)) p W.len)) := by
    unfold kQ Wd.len
    rw [hp, NY, hWd]
  rw [hdF]
  have SX : W.len ≤ 4200 := by have h1 := hW.t; have h2 := hW.d; unfold Wd.len; omega
  refine WL.mv rfl rfl (WL.xt rfl rfl rfl (WL.xt rfl rfl rfl (WL.sg rfl rfl (WL.sg rfl rfl (WL.nil (WC.seq (WC.sr (WL.mv rfl rfl (WL.val (V.neq (OV.p rfl) (OV.p rfl)) rfl (WL.nil ?_))))))))))
  refine WC.aM rfl (by first | rfl | (simp; done) | (simp; omega)) ?_
  refine WC.skip (WC.sr (WL.mv rfl rfl (WL.call (vs := [_]) Tryz.call285 ⟨OV.p rfl, trivial⟩ (zM hW) rfl ?_)))
  rintro _ _ ⟨gs, rfl, rfl⟩
  rw [hp1, hp2, NY]
  obtain ⟨s, hs⟩ : ∃ s, s = dI t (p.1, p.2) := ⟨_, rfl⟩
  have hs' : dI t p = s := hs.symm
  have hss : Small 8192 s := by rw [hs]; exact oW
  have hsl : s.length = 2 * t := by rw [hs]; exact uM
  rw [hs']
  refine WL.call (vs := [_]) Tryz.call284 ⟨OV.p rfl, trivial⟩ (Dg (s := s) (Seq.wL hsl) hss (by omega)) rfl ?_
  rintro _ _ ⟨gl, cl, rl, rfl, rfl⟩
  obtain ⟨L, hL⟩ : ∃ L, L = mh s := ⟨_, rfl⟩
  obtain ⟨c, hc⟩ : ∃ c, c = kR s := ⟨_, rfl⟩
  have R3 := LC hss
  have hcs := Fy hss
  rw [← hL, ← hc] at R3 ⊢
  rw [← hc] at hcs
  refine WL.sg rfl rfl (WL.nil (WC.seq (WC.sr (WL.mv rfl rfl (WL.val (V.len (t := 124) Tryz.runUnderlying124 (OV.p rfl)) rfl (WL.sb rfl rfl rfl ?_))))))
  refine WL.mv rfl rfl (WL.val (V.gtr (OV.p rfl) (OV.p rfl)) rfl (WL.nil ?_))
  refine WC.cond rfl (fun hc1 => ?_) (fun hc1 => ?_)
  ·simp only [decide_eq_true_eq, decide_eq_false_iff_not] at hc1
   have h1 := hc1
   rw [if_pos (by omega)]
   refine WC.sr (WL.sg rfl rfl (WL.sg rfl rfl (WL.sg rfl rfl (WL.sg rfl rfl (WL.nil (WC.ret ?_))))))
   exact aj.ret (H' := F) (aL.Mc rfl rfl rfl rfl rfl) (fun w h => h.sel 5 [] rfl) ⟨rfl, rfl⟩
  ·simp only [decide_eq_true_eq, decide_eq_false_iff_not] at hc1
   have h1 := hc1
   rw [if_neg (by omega)]
   refine WC.skip (WC.seq ?_)
   have QD : W.put (bF t c L p 0).1 = W := by unfold Wd.put bF; rw [← hp1, ← hp2]
   have hok : ∀ k, (W.put (bF t c L p k).1).Ok := fun k => by
     induction k with
     | zero => rw [QD]; exact hW
     | succ k ih =>
       rw [bF]; split
       · have := ih.flip k
         rw [Wd.xO, NY] at this
         exact this
       · exact ih
   refine WC.region (WL.sg rfl rfl (WL.nil (WC.seq (WC.sr (WL.mv rfl rfl ?_)))))
   refine WL.call (vs := [_]) Tryz.call286 ⟨OV.p rfl, trivial⟩ (El hW (by repeat (first | exact aT.all | apply aT.up))) rfl ?_
   rintro _ H0 ⟨rfl, h0⟩
   subst H0
   refine WL.mv rfl rfl (WL.nil (WC.block ?_))
   refine WC.loop (σ := Nat) (fun k => [(10, ptr bw 0), (12, .slice (some ⟨gl, 0, none⟩) L cl), (13, .int .i64 ((bF t c L p k).2 : Nat)), (37, .int .i64 (W.len : Nat)), (38, .int .i64 (k : Int))]) (fun k => (W.put (bF t c L p k).1).parts bw ++ (Cells gl 3 (aB .i64 c ++ rl) :: F)) (fun k => k ≤ W.len) (fun k => W.len - k) 0 (Nat.zero_le _) (.cons rfl (.cons rfl (.cons rfl (.cons rfl (.cons rfl (.nil _)))))) (fun w h => by rw [QD]; exact h.sel 5 [2, 3, 4, 0] rfl) ?_
   rintro k hk
   obtain ⟨U, hV⟩ : ∃ U, U = W.put (bF t c L p k).1 := ⟨_, rfl⟩
   have Q5 : U.Ok := by rw [hV]; exact hok k
   have QT : U.t = t := by rw [hV]; exact NY
   have QK : U.d.length = W.d.length := by rw [hV, hp1]; exact (iN t c L p k).1
   have Tg : U.len = W.len := by unfold Wd.len; rw [QT, QK, NY]
   have hdl := zy t c L p k
   rw [← hV]
   refine WC.sr (WL.val (V.lss (OV.p rfl) (OV.p rfl)) rfl (WL.nil (WC.seq ?_)))
   refine WC.cond rfl (fun hc2 => ?_) (fun hc2 => ?_)
   ·simp only [decide_eq_true_eq, decide_eq_false_iff_not] at hc2
    refine WC.skip (WC.seq (WC.block (WC.sr (WL.mv rfl rfl (WL.sg rfl rfl (WL.nil (WC.seq ?_)))))))
    obtain ⟨x, hx⟩ : ∃ x, x = bT (-(k : Int)) := ⟨_, rfl⟩
    have Oi : x < 8192 := by rw [hx]; exact jv _
    refine WC.region (WL.mv rfl rfl ?_)
    refine WL.val (V.P8 (OV.p rfl) (fun _ => by omega)) rfl ?_
    refine WL.call (vs := [_]) Tryz.call287 ⟨OV.p rfl, trivial⟩ (Gg (-(k : Int)) (by omega)) rfl ?_
    rintro _ H0 ⟨rfl, h0⟩
    subst H0
    refine WL.sg rfl rfl (WL.sg rfl rfl (WL.nil (WC.seq (WC.sr (WL.mv rfl rfl (WL.val (V.len (t := 124) Tryz.runUnderlying124 (OV.p rfl)) rfl ?_))))))
    refine WL.val (V.aA (v' := .int .i64 ((L : Int) - 1)) (V.wM (OV.p rfl) (OV.p rfl) (fun _ => by omega)) (fun _ => rfl)) rfl ?_
    rw [← hx]
    refine WL.sg rfl rfl (WL.nil (WC.block ?_))
    refine WC.loop (σ := Nat × Nat) (fun y => [(10, ptr bw 0), (12, .slice (some ⟨gl, 0, none⟩) L cl), (13, .int .i64 ((bF t c L p k).2 : Nat)), (37, .int .i64 (W.len : Nat)), (38, .int .i64 (k : Int)), (14, .int .i64 (k : Int)), (15, .int .i64 (x : Int)), (16, .int .i64 (y.2 : Int)), (17, .int .i64 ((y.1 : Int) - 1))]) (fun _ => U.parts bw ++ (Cells gl 3 (aB .i64 c ++ rl) :: F)) (fun y => y.1 ≤ L ∧ y.2 < 8192 ∧ qV c x y.1 y.2 = qV c x L 0) (fun y => y.1) (L, 0) ⟨Nat.le_refl _, by show 0 < 8192; decide, rfl⟩ (.cons rfl (.cons rfl (.cons rfl (.cons rfl (.cons rfl (.cons rfl (.cons rfl (.cons rfl (.cons rfl (.nil _)))))))))) (fun w h => h) ?_
    rintro ⟨j, v⟩ ⟨hj, hv, hev⟩
    dsimp only at hj hv hev ⊢
    refine WC.seq (WC.sr (WL.mv rfl rfl (WL.val (V.geq (OV.p rfl) (OV.p rfl)) rfl (WL.nil ?_))))
    refine WC.cond rfl (fun hc3 => ?_) (fun hc3 => ?_)
    ·simp only [decide_eq_true_eq, decide_eq_false_iff_not] at hc3
     obtain ⟨j', rfl⟩ : ∃ j', j = j' + 1 := ⟨j - 1, by omega⟩
     have hj1 : ((j' + 1 : Nat) : Int) - 1 = (j' : Int) := by omega
     rw [hj1]
     rw [zm] at hev
     have Nj := aP (b := x) hv
     have hcj := hcs.at_ (by decide) j'
     have hrc : Rd K (U.parts bw ++ (Cells gl 3 (aB .i64 c ++ rl) :: F)) (some ⟨gl, 0 + (j' : Int).toNat * 1, none⟩) (.int .i64 (c.getD j' 0 : Nat)) := by
       rw [show 0 + (j' : Int).toNat * 1 = j' by omega]
       exact Rd.up (Rd.up (Rd.up (Rd.here (iL _ _ _ (by omega)))))
     refine WC.skip (WC.seq (WC.block ?_))
     refine WC.fK (by kernel_rfl) (by kernel_rfl) ?_
     refine WQ.val (V.move (OV.p rfl)) rfl (WQ.val (V.move (OV.p rfl)) rfl (WQ.call (vs := [_, _]) Tryz.call288 ⟨OV.p rfl, OV.p rfl, trivial⟩ (pX hv Oi) rfl (WQ.val (V.move (OV.p rfl)) rfl (WQ.val (V.move (OV.p rfl)) rfl ?_))))
     refine WQ.val (V.bP bO (OV.p rfl) (OV.p rfl) (fun hc => by omega)) rfl ?_
     refine WQ.val (V.load Tryz.isAgg3 (OV.p rfl) (fun hc => hrc)) rfl ?_
     refine WQ.val (V.aA (v' := .int .i64 ((aK v x ^^^ c.getD j' 0 : Nat) : Int)) (V.xor (OV.p rfl) (OV.p rfl)) (fun _ => by rw [iY (by omega) (by omega)])) rfl ?_
     refine WQ.val (V.assign (OV.p rfl)) rfl (WQ.nil (WC.region (WL.mv rfl rfl (WL.sb rfl rfl rfl ?_))))
     refine WL.sg rfl rfl (WL.nil ?_)
     refine ⟨rfl, ?_⟩
     exact ⟨(j', aK v x ^^^ c.getD j' 0), ⟨by show j' ≤ L; omega, cB (k := 13) Nj hcj, hev⟩, Nat.lt_succ_self _, .cons rfl (.cons rfl (.cons rfl (.cons rfl (.cons rfl (.cons rfl (.cons rfl (.cons rfl (.cons rfl (.nil _))))))))), fun w h => h⟩
    ·simp only [decide_eq_true_eq, decide_eq_false_iff_not] at hc3
     refine WC.exit (WC.seq ?_)
     obtain rfl : j = 0 := by omega
     have hv2 : v = qV c x L 0 := hev
     have hrt : mP c L k = decide (v = 0) := by unfold mP; rw [← hx, hv2]
     have hk1 : k < W.len := by omega
     refine WC.region (WL.mv rfl rfl (WL.val (V.eql (OV.p rfl) (OV.p rfl)) rfl (WL.nil ?_)))
     refine WC.cond rfl (fun hc4 => ?_) (fun hc4 => ?_)
     ·simp only [decide_eq_true_eq, decide_eq_false_iff_not] at hc4
      have h4 := hc4
      have hdk : bF t c L p (k + 1) = (iq t (bF t c L p k).1 k, (bF t c L p k).2 + 1) := by rw [bF, hrt, if_pos (decide_eq_true (show v = 0 by omega))]
      refine WC.sr (WL.mv rfl rfl (WL.mv rfl rfl ?_))
      refine WL.call (vs := [_, _]) Tryz.call289 ⟨OV.p rfl, OV.p rfl, trivial⟩ (Iw Q5 (i := k) (by omega)) rfl ?_
      rintro v1 _ rfl
      refine WL.nil (WC.region (WL.mv rfl rfl (WL.ad rfl rfl rfl ?_)))
      refine WL.sg rfl rfl (WL.nil (WC.region (WL.ad rfl rfl rfl ?_)))
      refine WL.mv rfl rfl (WL.nil ?_)
      refine ⟨rfl, ?_⟩
      first
      | exact ⟨k + 1, (by show k + 1 ≤ W.len; omega), (by show W.len - (k + 1) < W.len - k; omega), .cons rfl (.cons rfl (.cons (look_eq rfl (by rw [hdk]; simp only [Int.natCast_add]; rfl)) (.cons rfl (.cons (look_eq rfl (by simp)) (.nil _))))), fun w h => by dsimp only; rw [hdk]; dsimp only; rw [hV, Wd.xO, NY] at h; exact h⟩
      | exact ⟨k + 1, (by show k + 1 ≤ W.len; omega), (by show W.len - (k + 1) < W.len - k; omega), .cons rfl (.cons rfl (.cons (look_eq rfl (by rw [hdk])) (.cons rfl (.cons (look_eq rfl (by simp)) (.nil _))))), fun w h => by dsimp only; rw [hdk, ← hV]; exact h⟩
     ·simp only [decide_eq_true_eq, decide_eq_false_iff_not] at hc4
      have h4 := hc4
      have hdk : bF t c L p (k + 1) = bF t c L p k := by rw [bF, hrt, decide_eq_false (show ¬ v = 0 by omega)]; rfl
      refine WC.skip (WC.region (WL.ad rfl rfl rfl ?_))
      refine WL.mv rfl rfl (WL.nil ?_)
      refine ⟨rfl, ?_⟩
      first
      | exact ⟨k + 1, (by show k + 1 ≤ W.len; omega), (by show W.len - (k + 1) < W.len - k; omega), .cons rfl (.cons rfl (.cons (look_eq rfl (by rw [hdk]; simp only [Int.natCast_add]; rfl)) (.cons rfl (.cons (look_eq rfl (by simp)) (.nil _))))), fun w h => by dsimp only; rw [hdk]; dsimp only; rw [hV, Wd.xO, NY] at h; exact h⟩
      | exact ⟨k + 1, (by show k + 1 ≤ W.len; omega), (by show W.len - (k + 1) < W.len - k; omega), .cons rfl (.cons rfl (.cons (look_eq rfl (by rw [hdk])) (.cons rfl (.cons (look_eq rfl (by simp)) (.nil _))))), fun w h => by dsimp only; rw [hdk, ← hV]; exact h⟩
   ·simp only [decide_eq_true_eq, decide_eq_false_iff_not] at hc2
    refine WC.exit (WC.seq (WC.seq ?_))
    obtain rfl : k = W.len := by omega
    obtain ⟨r, hr⟩ : ∃ r, r = bF t c L p W.len := ⟨_, rfl⟩
    rw [← hr] at hV hdl ⊢
    have Pv : U.d = r.1.1 := by rw [hV]; rfl
    have Qc : U.m = r.1.2 := by rw [hV]; rfl
    obtain ⟨bb, hbb⟩ : ∃ bb, bb = !decide ((r.2 : Int) = (L : Int) - 1) := ⟨_, rfl⟩
    refine WC.region (WL.mv rfl rfl (WL.mv rfl rfl (WL.val (V.len (t := 124) Tryz.runUnderlying124 (OV.p rfl)) rfl (WL.sb rfl rfl rfl ?_))))
    refine WL.val (V.aA (v' := .bool bb) (V.neq (OV.p rfl) (OV.p rfl)) (fun _ => by rw [hbb])) rfl ?_
    refine WL.val (V.move (OV.p rfl)) rfl ?_
    rcases Bool.eq_false_or_eq_true bb with hb | hb
    · subst hb
      have hne : ¬ r.2 + 1 = L := fun h => by
        have h6 : (r.2 : Int) = (L : Int) - 1 := by omega
        rw [decide_eq_true h6] at hbb
        cases hbb
      rw [if_pos hne]
      refine WL.sO (oj := _) rfl rfl rfl rfl rfl (fun d hd => by injection hd with hd; subst hd; rfl) ?_
      refine WL.sO (oj := _) rfl rfl rfl rfl rfl (fun d hd => by injection hd with hd; subst hd; rfl) ?_
      refine WL.sO (oj := _) rfl rfl rfl rfl rfl (fun d hd => by injection hd with hd; subst hd; rfl) ?_
      refine WL.sO (oj := _) rfl rfl rfl rfl rfl (fun d hd => by injection hd with hd; subst hd; rfl) ?_
      refine WL.sO (oj := _) rfl rfl rfl rfl rfl (fun d hd => by injection hd with hd; subst hd; rfl) ?_
      refine WL.val (V.M5 (OV.p rfl) (OV.p rfl)) rfl (WL.nil (WC.bU rfl rfl (WC.seq (WC.region (WL.val (V.assign (OV.p rfl)) rfl (WL.val (V.assign (OV.p rfl)) rfl (WL.val (V.assign (OV.p rfl)) rfl (WL.val (V.assign (OV.p rfl)) rfl (WL.nil (WC.ret ?_))))))))))
      exact aj.ret (H' := F) (aL.Mc rfl rfl rfl rfl rfl) (fun w h => h.sel 4 [] rfl) ⟨rfl, rfl⟩
    subst hb
    have hne : r.2 + 1 = L := by
      have h6 : (r.2 : Int) = (L : Int) - 1 := by
        rcases Decidable.em ((r.2 : Int) = (L : Int) - 1) with h | h
        · exact h
        · rw [decide_eq_false h] at hbb; cases hbb
      omega
    rw [if_neg (fun h => h hne)]
    refine WL.known (oj := _) rfl rfl rfl rfl (WL.mv rfl rfl (WL.known (oj := _) rfl rfl rfl rfl (WL.call (vs := [_]) Tryz.call285 ⟨OV.p rfl, trivial⟩ (zM Q5) rfl ?_)))
    rintro _ _ ⟨gs2, rfl, rfl⟩
    rw [Pv, Qc, QT]
    obtain ⟨s2, hs2⟩ : ∃ s2, s2 = dI t r.1 := ⟨_, rfl⟩
    have Qj : Small 8192 s2 := by rw [hs2]; exact oW
    have hsl2 : s2.length = 2 * t := by rw [hs2]; exact uM
    rw [show dI t (r.1.1, r.1.2) = s2 from hs2.symm]
    refine WL.known (oj := _) rfl rfl rfl rfl ?_
    refine WL.call (vs := [_]) Tryz.call290 ⟨OV.p rfl, trivial⟩ (Gj (s := s2) (Seq.wL hsl2) Qj (by omega)) rfl ?_
    rintro _ _ ⟨gn, rfl, rfl⟩
    refine WL.known (oj := _) rfl rfl rfl rfl ?_
    refine WL.call (vs := [_]) Tryz.call282 ⟨OV.p rfl, trivial⟩ (Bg (xs := eY s2) (Seq.wL (by simp [eY]; exact hsl2)) (fun x hx => by obtain ⟨y, _, rfl⟩ := List.mem_map.1 hx; unfold nz; split <;> decide) (by omega)) rfl ?_
    rintro _ H0 ⟨rfl, h0⟩
    subst H0
    refine WL.known (oj := _) rfl rfl rfl rfl (WL.val (V.gtr (OV.p rfl) (OV.p rfl)) rfl (WL.val (V.aS (OV.p rfl) (OV.p rfl)) rfl (WL.nil ?_)))
    refine WC.cond rfl (fun pI => ?_) (fun pI => ?_)
    ·simp only [Bool.false_or, decide_eq_true_eq, decide_eq_false_iff_not] at pI
     have h5 := pI
     rw [if_pos (by omega)]
     refine WC.sr (WL.sg rfl rfl (WL.sg rfl rfl (WL.sg rfl rfl (WL.sg rfl rfl (WL.nil (WC.ret ?_))))))
     exact aj.ret (H' := F) (aL.Mc rfl rfl rfl rfl rfl) (fun w h => h.sel 6 [] rfl) ⟨rfl, rfl⟩
    ·simp only [Bool.false_or, decide_eq_true_eq, decide_eq_false_iff_not] at pI
     have h5 := pI
     rw [if_neg (by omega)]
     refine WC.skip (WC.seq ?_)
     refine WC.fK (by kernel_rfl) (by kernel_rfl) ?_
     refine WQ.val (V.move (OV.p rfl)) rfl (WQ.val (V.nilCheck (OV.p rfl)) rfl (WQ.val (V.fieldAddr xg (OV.p rfl)) rfl ?_))
     refine WQ.val (V.load Tryz.isAgg34 (OV.p rfl) (fun _ => by repeat (first | exact Rd.here rfl | apply Rd.up))) rfl ?_
     refine WQ.val (V.move (OV.p rfl)) rfl (WQ.val (V.nilCheck (OV.p rfl)) rfl (WQ.val (V.fieldAddr wZ (OV.p rfl)) rfl ?_))
     refine WQ.val (V.load Tryz.isAgg34 (OV.p rfl) (fun _ => by repeat (first | exact Rd.here rfl | apply Rd.up))) rfl ?_
     refine WQ.val (V.move (OV.p rfl)) rfl (WQ.val (V.assign (OV.p rfl)) rfl (WQ.val (V.assign (OV.p rfl)) rfl (WQ.val (V.assign (OV.p rfl)) rfl (WQ.val (V.assign (OV.p rfl)) rfl (WQ.nil (WC.ret ?_))))))
     refine aj.ret (H' := Cells U.g1 5 (aB .u8 r.1.1 ++ U.r1) :: Cells U.g2 5 (aB .u8 r.1.2 ++ U.r2) :: F) (aL.Mc rfl rfl rfl rfl rfl) (fun w h => ?_) ⟨U.g1, U.c1, U.r1, U.g2, U.c2, U.r2, ?_, ?_, ?_, rfl⟩
     · have h' := h.sel 6 [3, 4] rfl
       rw [← Pv, ← Qc]
       exact h'
     · rw [← Pv, QK, hV]; exact hWc.1
     · rw [hr, (iN t c L p W.len).2, ← hp2, hV]; exact hWc.2
     · rw [Pv, Qc]
end
abbrev NG (bl pg : Int) (S B t : Nat) : Geo := ⟨bl, pg, (S : Int), (B : Int), (t : Int)⟩
def fU (S B t : Nat) : Nat := S * (B + ay t) + 1
structure nY (S B t : Nat) : Prop where
  s : 1 ≤ S ∧ S ≤ 8
  b : 4 ≤ B ∧ B ≤ 512
  t : 1 ≤ t ∧ t ≤ 8
theorem nY.of {bl pg : Int} {S B t : Nat} (h : (NG bl pg S B t).aF) : nY S B t := by
  unfold Geo.aF at h
  dsimp only at h
  exact ⟨by omega, by omega, by omega⟩
theorem NG.whole {bl pg : Int} {S B t : Nat} : (NG bl pg S B t).whole = ((B + ay t : Nat) : Int) := by
  unfold Geo.whole Geo.more ay
  dsimp only
  omega
theorem NG.raw {bl pg : Int} {S B t : Nat} : (NG bl pg S B t).raw = ((fU S B t : Nat) : Int) := by
  unfold Geo.raw fU
  rw [NG.whole]
  dsimp only
  simp
theorem NG.room {bl pg : Int} {S B t : Nat} : (NG bl pg S B t).room = ((S * B : Nat) : Int) := by
  unfold Geo.room
  dsimp only
  rw [Int.natCast_mul]
def dL (B : Nat) (d : List Nat) (j : Nat) : List Nat := (d.drop (j * B)).take B
def uR (t B : Nat) (d : List Nat) : Nat → List Nat
  | 0 => []
  | j + 1 => (uR t B d j ++ dL B d j) ++ fA t (dL B d j)
def ji (t S B : Nat) (d : List Nat) : List Nat := uR t B d S ++ [0]
theorem Small.drop {b n : Nat} {xs : List Nat} (h : Small b xs) : Small b (xs.drop n) := fun y hy => h y (List.mem_of_mem_drop hy)
theorem fJ {B : Nat} {d : List Nat} (h : Small 256 d) (j : Nat) : Small 256 (dL B d j) := Small.take (Small.drop h)
theorem lG {B j S : Nat} {d : List Nat} (h : d.length = S * B) (hj : j < S) : (dL B d j).length = B := by
  unfold dL
  rw [List.length_take, List.length_drop, h]
  have : (j + 1) * B ≤ S * B := Nat.mul_le_mul_right _ hj
  rw [Nat.succ_mul] at this
  omega
theorem jM {t B S : Nat} {d : List Nat} (ht : 1 ≤ t ∧ t ≤ 8) (h8 : Small 256 d) (h : d.length = S * B) : ∀ j, j ≤ S → (uR t B d j).length = j * (B + ay t)
  | 0, _ => by simp [uR]
  | j + 1, hj => by
    rw [uR, List.length_append, List.length_append, jM ht h8 h j (by omega), lG h (by omega), kY ht (fJ h8 j), Nat.succ_mul]
    omega
theorem xV {t B : Nat} {d : List Nat} (ht : 1 ≤ t ∧ t ≤ 8) (h8 : Small 256 d) : ∀ j, Small 256 (uR t B d j)
  | 0 => fun x hx => by simp [uR] at hx
  | j + 1 => ((xV ht h8 j).append (fJ h8 j)).append (ru ht (fJ h8 j))
theorem nA {t B S : Nat} {d : List Nat} (ht : 1 ≤ t ∧ t ≤ 8) (h8 : Small 256 d) (h : d.length = S * B) : (ji t S B d).length = fU S B t := by
  unfold ji fU
  rw [List.length_append, jM ht h8 h S (Nat.le_refl _)]; rfl
theorem vJ {t B S : Nat} {d : List Nat} (ht : 1 ≤ t ∧ t ≤ 8) (h8 : Small 256 d) : Small 256 (ji t S B d) := (xV ht h8 S).append (fun x hx => by rw [List.mem_singleton.1 hx]; decide)
theorem _root_.Go.Sl.Seq.DN {K : World} {H : List au} {A : Option Addr} {m l u : Nat} {vs : List Value} (hs : Seq K H A m 1 vs) (hl : l ≤ m) (hu : m ≤ u) : Seq K H (if u = l then A else A.map (·.add (l * 1))) (m - l) 1 (vs.drop l) := by
  have hlen := hs.len
  refine ⟨by rw [List.length_drop]; omega, fun i v hi => ?_⟩
  rw [List.getElem?_drop] at hi
  have hil : l + i < vs.length := (List.getElem?_eq_some_iff.1 hi).1
  rw [if_neg (by omega)]
  have := hs.rd (l + i) v hi
  intro w hw
  obtain ⟨a, h1, h2⟩ := this w hw
  cases A with
  | none => simp at h1
  | some a' =>
    refine ⟨_, rfl, ?_⟩
    simp only [Option.map_some, Option.some.injEq] at h1
    rw [← h1] at h2
    have h3 : ((a'.add (l * 1)).add i) = a'.add (l + i) := by rw [Nat.mul_one]; rcases Nat.eq_zero_or_pos l with h | h; · { subst h; rw [Nat.zero_add]; rfl }; · { rcases Nat.eq_zero_or_pos i with h' | h'; · { subst h'; rfl }; · { unfold Addr.add; rw [if_neg (by omega), if_neg (by omega), if_neg (by omega), Nat.add_assoc] } }
    show w.cell? ((a'.add (l * 1)).add i) = some v
    rw [h3]
    exact h2
section
variable {K : World} {F : List au}
theorem zC (g : Geo) : aG Tryz.prog 122 #[g.v] K F (.tuple (if g.may then #[.int .i64 g.room, .int .i64 0] else #[.int .i64 0, .int .i64 1])) := by
  refine Does.enter Tryz.func122 rfl Tryz.ntmps122 rfl ?_
  simp only [aJ, Nat.reduceAdd]
  refine WC.sr ?_
  refine WL.box (cs := [_, _, _, _, _]) (OV.p rfl) rfl rfl (fun b1 => ?_)
  refine WL.sg rfl rfl (WL.sg rfl rfl (WL.nil (WC.seq (WC.sr ?_))))
  refine WL.val (V.aU (vs := [_, _, _, _, _]) ⟨Tryz.isAgg23, Tryz.sizeOf23⟩ (OV.p rfl) rfl (fun _ => by repeat (first | exact aT.gets ⟨rfl, rfl, rfl, rfl, rfl, trivial⟩ | apply aT.up))) rfl ?_
  refine WL.call (vs := [_]) Tryz.call161 ⟨OV.p rfl, trivial⟩ (Bj g _ _) rfl ?_
  rintro _ H0 ⟨rfl, h0⟩
  subst H0
  refine WL.sg rfl rfl (WL.nil (WC.sr (WL.mv rfl rfl (WL.val (V.neq (OV.p rfl) (OV.p rfl)) rfl (WL.nil ?_)))))
  refine WC.cond rfl (fun hc0 => ?_) (fun hc0 => ?_)
  ·skip
   have hm : g.may = false := by cases h : g.may <;> simp [h] at hc0 ⊢
   refine WC.sr (WL.mv rfl rfl (WL.sg rfl rfl (WL.sg rfl rfl (WL.nil (WC.ret ?_)))))
   rw [hm]
   exact aj.ret (H' := F) (aL.dJ rfl rfl rfl) (fun w h => h.drop 1) ⟨rfl, rfl⟩
  ·skip
   have hm : g.may = true := by cases h : g.may <;> simp [h] at hc0 ⊢
   have hb := Geo.lH hm
   have hr := Geo.qX (a := g.se) (b := g.sb) (A := 8) (B := 512) (by unfold Geo.aF at hb; omega) (by unfold Geo.aF at hb; omega) (by unfold Geo.aF at hb; omega) (by unfold Geo.aF at hb; omega)
   refine WC.skip (WC.sr (WL.val (V.fieldAddr mR (OV.p rfl)) rfl (WL.ld Tryz.isAgg3 rfl rfl ?_)))
   refine WL.val (V.fieldAddr gW (OV.p rfl)) rfl (WL.ld Tryz.isAgg3 rfl rfl ?_)
   refine WL.val (V.jQ (OV.p rfl) (OV.p rfl) (fun hc => by omega)) rfl ?_
   refine WL.sg rfl rfl (WL.sg rfl rfl (WL.nil (WC.ret ?_)))
   refine aj.ret (H' := F) (aL.dJ rfl rfl rfl) (fun w h => h.drop 1) ⟨?_, rfl⟩
   rw [hm]; rfl
theorem KY {bl pg : Int} {S B t : Nat} {A : Option Addr} {m cap : Nat} {d : List Nat} (hg : (NG bl pg S B t).aF) (hd : Seq K F A m 1 (aB .u8 d)) (h8 : Small 256 d) (hm : m = S * B) (hmc : m ≤ cap) :
    Does Tryz.prog 191 #[(NG bl pg S B t).v, .slice A m cap] K F
      (fun v H' => ∃ A' cap', v = .tuple #[.slice A' (fU S B t) cap', .int .i64 0] ∧ H' = bC (.slice A' (fU S B t) cap') 5 1 (fU S B t) (aB .u8 (ji t S B d)) :: F) := by
  have hl : d.length = m := by simpa [aB] using hd.len
  have hmay : (NG bl pg S B t).may = true := decide_eq_true hg
  have hN := nY.of hg
  obtain ⟨hs, hb, ht⟩ := hN
  have hmore : 2 ≤ ay t ∧ ay t ≤ 13 := by unfold ay; omega
  have Rp : m ≤ 4096 := by rw [hm]; exact Nat.mul_le_mul hs.2 hb.2
  have hm1 : 1 * 4 ≤ m := by rw [hm]; exact Nat.mul_le_mul hs.1 hb.1
  refine Does.enter Tryz.func191 rfl Tryz.ntmps191 rfl ?_
  simp only [aJ, Nat.reduceAdd]
  refine WC.sr ?_
  refine WL.box (cs := [_, _, _, _, _]) (OV.p rfl) rfl rfl (fun b2 => ?_)
  refine WL.sg rfl rfl (WL.sg rfl rfl (WL.nil (WC.sr ?_)))
  refine WL.val (V.aU (vs := [_, _, _, _, _]) ⟨Tryz.isAgg23, Tryz.sizeOf23⟩ (OV.p rfl) rfl (fun _ => by repeat (first | exact aT.gets ⟨rfl, rfl, rfl, rfl, rfl, trivial⟩ | apply aT.up))) rfl ?_
  refine WL.call (vs := [_]) Tryz.call122 ⟨OV.p rfl, trivial⟩ (aG.eq (v' := .tuple #[.int .i64 (m : Int), .int .i64 0]) (zC (NG bl pg S B t)) (by rw [hmay, NG.room, hm]; rfl)) rfl ?_
  rintro _ H0 ⟨rfl, h0⟩
  subst H0
  refine WL.mv rfl rfl (WL.xt rfl rfl rfl (WL.xt rfl rfl rfl (WL.sg rfl rfl (WL.sg rfl rfl (WL.nil (WC.seq (WC.sr (WL.mv rfl rfl (WL.val (V.neq (OV.p rfl) (OV.p rfl)) rfl (WL.mv rfl rfl (WL.ah (oj := _) rfl rfl rfl GC.f (V.move (OV.p rfl)) rfl (WL.ah (oj := _) rfl rfl rfl GC.f (V.len (t := 34) Tryz.runUnderlying34 (OV.g rfl id)) rfl (WL.ah (oj := _) rfl rfl rfl GC.f (V.move (OV.p rfl)) rfl (WL.ah (oj := _) rfl rfl rfl GC.f (V.neq (OV.g rfl id) (OV.g rfl id)) rfl (WL.val (V.aS (OV.p rfl) (OV.g rfl id)) rfl (WL.nil ?_))))))))))))))))
  refine WC.aM rfl (by first | rfl | (simp; done) | (simp; omega)) ?_
  refine WC.skip (WC.sr (WL.sg rfl rfl (WL.nil (WC.seq (WC.block ?_)))))
  refine WC.loop (σ := Nat × Option Addr × Nat × Option Addr × Nat) (fun x => [(1, .slice x.2.1 (m - x.1 * B) x.2.2.1), (2, ptr b2 0), (8, .slice x.2.2.2.1 (x.1 * (B + ay t)) x.2.2.2.2)]) (fun x => bC (.slice x.2.2.2.1 (x.1 * (B + ay t)) x.2.2.2.2) 5 1 (x.1 * (B + ay t)) (aB .u8 (uR t B d x.1)) :: Cells b2 23 [.int .i64 bl, .int .i64 pg, .int .i64 (S : Int), .int .i64 (B : Int), .int .i64 (t : Int)] :: F) (fun x => x.1 ≤ S ∧ m - x.1 * B ≤ x.2.2.1 ∧ Seq K F x.2.1 (m - x.1 * B) 1 (aB .u8 (d.drop (x.1 * B)))) (fun x => S - x.1) (0, A, cap, none, 0) ⟨Nat.zero_le _, by show m - 0 * B ≤ cap; omega, by simpa using hd⟩ (.cons (look_eq rfl (by simp)) (.cons rfl (.cons (look_eq rfl (by simp)) (.nil _)))) (fun w h => by simpa [uR, aB] using Sat.iA h 5 1) ?_
  rintro ⟨j, Aj, cj, Ao, co⟩ ⟨hj, hjc, hjs⟩
  dsimp only at hj hjc hjs ⊢
  have Ta : j * B ≤ m := by rw [hm]; exact Nat.mul_le_mul_right _ hj
  have hpl := jM ht h8 (hl.trans hm) j hj
  refine WC.seq (WC.sr (WL.mv rfl rfl (WL.val (V.len (t := 34) Tryz.runUnderlying34 (OV.p rfl)) rfl (WL.val (V.gtr (OV.p rfl) (OV.p rfl)) rfl (WL.nil ?_)))))
  refine WC.cond rfl (fun hc1 => ?_) (fun hc1 => ?_)
  ·simp only [decide_eq_true_eq, decide_eq_false_iff_not] at hc1
   have Lg : j < S := by
     rcases Nat.lt_or_ge j S with h | h
     · exact h
     · exfalso
       have : j = S := by omega
       rw [this, ← hm] at hc1
       omega
   have hj1 : (j + 1) * B ≤ m := by rw [hm]; exact Nat.mul_le_mul_right _ Lg
   rw [Nat.succ_mul] at hj1
   have hsl := lG (hl.trans hm) Lg
   have Lp : Seq K F Aj B 1 (aB .u8 (dL B d j)) := by
     have h1 := Seq.take hjs (show B ≤ m - j * B by omega)
     rw [fZ] at h1; exact h1
   refine WC.skip (WC.seq (WC.block (WC.sr (WL.mv rfl rfl (WL.val (V.fieldAddr gW (OV.p rfl)) rfl (WL.ld Tryz.isAgg3 rfl rfl ?_))))))
   refine WL.val (V.fieldAddr gW (OV.p rfl)) rfl (WL.ld Tryz.isAgg3 rfl rfl ?_)
   refine WL.val (V.aA (v' := .slice Aj B B) (V.slice (l := 0) (h := B) (u := B) dB (OV.p rfl) OO.none (OO.some (OV.p rfl) (fun _ => rfl)) (OO.some (OV.p rfl) (fun _ => rfl)) (by simp) (Nat.zero_le _) (Nat.le_refl _) (by omega)) (fun _ => by rw [show (B - 0 : Nat) = B from rfl]; cases Aj <;> simp [Addr.add])) rfl ?_
   refine WL.sg rfl rfl (WL.nil (WC.sr (WL.val (V.fieldAddr rH (OV.p rfl)) rfl (WL.ld Tryz.isAgg3 rfl rfl ?_))))
   refine WL.mv rfl rfl ?_
   refine WL.call (vs := [_, _]) Tryz.call242 ⟨OV.p rfl, OV.p rfl, trivial⟩ (Gi ht (Lp.up.up) (fJ h8 j) (by omega)) rfl ?_
   rintro _ _ ⟨Ae, ce, rfl, rfl⟩
   refine WL.mv rfl rfl (WL.xt rfl rfl rfl (WL.xt rfl rfl rfl (WL.sg rfl rfl (WL.sg rfl rfl (WL.nil (WC.region (WL.mv rfl rfl (WL.mv rfl rfl ?_))))))))
   refine WL.sub (Sub.refl _) (fun w h => h.p1) ?_
   refine WL.append (m := j * (B + ay t)) (q := B) Tryz.underlying34 vP (OV.p rfl) (OV.p rfl) (by repeat (first | exact Lp | apply Seq.up)) (o9 _ _) (by have := Nat.mul_le_mul hj (show B + ay t ≤ 525 by omega); omega) rfl rfl (fun A3 c3 hA3 hc3 => ?_)
   refine WL.mv rfl rfl ?_
   refine WL.append (m := j * (B + ay t) + B) (q := ay t) (news := aB .u8 (fA t (dL B d j))) Tryz.underlying34 vP (OV.p rfl) (OV.p rfl) (bC.seq (by rw [aH, kY ht (fJ h8 j), Nat.mul_one])) (o9 _ _) (by have := Nat.mul_le_mul hj (show B + ay t ≤ 525 by omega); omega) rfl rfl (fun A4 c4 Qd hc4 => ?_)
   refine WL.sg rfl rfl (WL.nil (WC.region (WL.mv rfl rfl (WL.val (V.fieldAddr gW (OV.p rfl)) rfl (WL.ld Tryz.isAgg3 rfl rfl ?_)))))
   refine WL.val (V.slice (l := B) (h := m - j * B) (u := cj) dB (OV.p rfl) (OO.some (OV.p rfl) (fun _ => rfl)) OO.none OO.none (by simp) (by omega) (by omega) (Nat.le_refl _)) rfl ?_
   refine WL.sg rfl rfl (WL.nil ?_)
   refine ⟨rfl, ?_⟩
   refine ⟨(j + 1, (if cj = B then Aj else Aj.map (·.add (B * 1))), cj - B, A4, c4), ⟨Lg, by show m - (j + 1) * B ≤ cj - B; rw [Nat.succ_mul]; omega, ?_⟩, (by show S - (j + 1) < S - j; omega), .cons (look_eq rfl (by dsimp only; rw [Nat.succ_mul, Nat.sub_sub])) (.cons rfl (.cons (look_eq rfl (by dsimp only; rw [Nat.succ_mul, Nat.add_assoc])) (.nil _))), fun w h => ?_⟩
   · have h1 := Seq.DN hjs (show B ≤ m - j * B by omega) hjc
     rw [mg, List.drop_drop, Nat.sub_sub] at h1
     dsimp only
     rw [Nat.succ_mul]
     exact h1
   · dsimp only
     rw [Nat.succ_mul, ← Nat.add_assoc, uR, dx, dx]
     exact h.sel 3 [0, 2] rfl
  ·simp only [decide_eq_true_eq, decide_eq_false_iff_not] at hc1
   refine WC.exit (WC.sr (WL.mv rfl rfl ?_))
   refine WL.buildSlice (E := 5) (cs := [_]) (vs := [(0, _)]) ⟨OV.p rfl, trivial⟩ rfl (Bf _) rfl (fun Tc => ?_)
   obtain rfl : j = S := by
     rcases Nat.lt_or_ge j S with h | h
     · exfalso
       have hj1 : (j + 1) * B ≤ m := by rw [hm]; exact Nat.mul_le_mul_right _ h
       rw [Nat.succ_mul] at hj1
       omega
     · omega
   refine WL.sub (Sub.refl _) (fun w h => h.p1) ?_
   refine WL.append (m := j * (B + ay t)) (q := 1) (news := [.int .u8 0]) Tryz.underlying34 vP (OV.p rfl) (OV.p rfl) (Seq.all rfl) (by intro u hu; rw [List.mem_singleton.1 hu]; rfl) (by have := Nat.mul_le_mul hj (show B + ay t ≤ 525 by omega); omega) rfl rfl (fun A5 c5 KM pI => ?_)
   refine WL.sg rfl rfl (WL.sg rfl rfl (WL.nil (WC.ret ?_)))
   refine aj.ret (H' := bC (.slice A5 (fU j B t) c5) 5 1 (fU j B t) (aB .u8 (ji t j B d)) :: F) (aL.dJ rfl rfl rfl) (fun w h => ?_) ⟨A5, c5, rfl, rfl⟩
   have h' := h.sel 3 [0] rfl
   unfold ji fU
   rw [dx]
   exact h'
end
end Go.Proofs.YtcedojacbhnbiaaGreat
