import Derived.Test.YtcedojacbhnbiaaGreatP10
import Derived.Test.YtcedojacbhnbiaaGreatP6
namespace Go.Proofs.YtcedojacbhnbiaaGreat
open Go.Sl Go.RowKit
set_option linter.unusedVariables false
set_option linter.unusedSimpArgs false
set_option maxRecDepth 20000
def yU (x j : Nat) : Nat := x &&& (255 ^^^ 2 ^ j)
theorem AZ {x j : Nat} (hx : x < 256) (hj : j < 8) : bitsOf .andNot .u8 (x : Int) (IntKind.u8.wrap (1 * 2 ^ (min (j : Int).toNat IntKind.u8.bits))) = (yU x j : Nat) ∧ yU x j < 256 := by
  have h : ((List.range 256).all fun a => (List.range 8).all fun j => decide (bitsOf .andNot .u8 ((a : Nat) : Int) (IntKind.u8.wrap (1 * 2 ^ (min ((j : Nat) : Int).toNat IntKind.u8.bits))) = (yU a j : Nat)) && decide (yU a j < 256)) = true := by kernel_rfl
  have h1 := List.all_eq_true.1 h x (List.mem_range.2 hx)
  have h2 := List.all_eq_true.1 h1 j (List.mem_range.2 hj)
  simp only [Bool.and_eq_true, decide_eq_true_eq] at h2
  exact h2
theorem yS {j : Nat} (hj : j < 8) : IntKind.u8.wrap (1 * 2 ^ (min (j : Int).toNat IntKind.u8.bits)) = ((2 ^ j : Nat) : Int) := by
  have h : ((List.range 8).all fun j => decide (IntKind.u8.wrap (1 * 2 ^ (min ((j : Nat) : Int).toNat IntKind.u8.bits)) = ((2 ^ j : Nat) : Int))) = true := by kernel_rfl
  have h1 := List.all_eq_true.1 h j (List.mem_range.2 hj)
  exact of_decide_eq_true h1
theorem xB {j : Nat} (hj : j < 8) : 2 ^ j < 256 := Nat.pow_lt_pow_right (by decide) (show j < 8 from hj)
def xq (t : Nat) (d m : List Nat) (i : Nat) : Bool := if 13 * t ≤ i then aR d (i - 13 * t) else aR m i
def wI (b : Bool) : Nat := if b then 1 else 0
def hor (bit : Nat → Bool) (x : Nat) : Nat → Nat → Nat
  | 0, v => v
  | i + 1, v => hor bit x i (aK v x ^^^ wI (bit i))
def jS (t : Nat) (len : Nat) (bit : Nat → Bool) : List Nat := (List.range (2 * t)).map fun k => hor bit (bT ((k + 1 : Nat) : Int)) len 0
theorem JW {bit : Nat → Bool} {x : Nat} : ∀ (i v : Nat), v < 8192 → hor bit x i v < 8192
  | 0, v, h => h
  | i + 1, v, h => by
    rw [hor]
    refine JW i _ (cB (k := 13) (aP h) ?_)
    unfold wI; split <;> decide
def dZ (m : List Nat) (i0 : Nat) : Nat → List Nat
  | 0 => m
  | k + 1 => (dZ m i0 k).set ((i0 + k) / 8) (yU ((dZ m i0 k).getD ((i0 + k) / 8) 0) ((i0 + k) % 8))
theorem iy (m : List Nat) (i0 : Nat) : ∀ k, (dZ m i0 k).length = m.length
  | 0 => rfl
  | k + 1 => by rw [dZ, List.length_set, iy]
theorem jc {m : List Nat} {i0 : Nat} (h : Small 256 m) : ∀ k, Small 256 (dZ m i0 k)
  | 0 => h
  | k + 1 => by
    have ih := jc (i0 := i0) h k
    rw [dZ]
    exact ih.set (AZ (ih.at_ (by decide) _) (Nat.mod_lt _ (by decide))).2
def ay (t : Nat) : Nat := (13 * t + 7) / 8
def dF (t : Nat) (m : List Nat) : List Nat := dZ m (13 * t) (8 * ay t - 13 * t)
def iC (xs : List Nat) (i : Nat) : List Nat := xs.set (i / 8) (xs.getD (i / 8) 0 ^^^ 2 ^ (i % 8))
theorem dO (xs : List Nat) (i : Nat) : (iC xs i).length = xs.length := by simp [iC]
theorem iO {xs : List Nat} (h : Small 256 xs) (i : Nat) : Small 256 (iC xs i) := h.set (cB (k := 8) (h.at_ (by decide) _) (xB (Nat.mod_lt _ (by decide))))
structure Wd where
  t : Nat
  d : List Nat
  m : List Nat
  (g1 c1 g2 c2 : Nat)
  r1 : List Value
  r2 : List Value
namespace Wd
abbrev cells (W : Wd) : List Value := [.int .i64 (W.t : Int), .slice (some ⟨W.g1, 0, none⟩) W.d.length W.c1, .slice (some ⟨W.g2, 0, none⟩) W.m.length W.c2]
abbrev parts (bw : Nat) (W : Wd) : List au := [Cells bw 370 W.cells, Cells W.g1 5 (aB .u8 W.d ++ W.r1), Cells W.g2 5 (aB .u8 W.m ++ W.r2)]
structure Ok (W : Wd) : Prop where
  t : 1 ≤ W.t ∧ W.t ≤ 8
  d : 1 ≤ W.d.length ∧ W.d.length ≤ 512
  m : W.m.length = ay W.t
  ds : Small 256 W.d
  ms : Small 256 W.m
def len (W : Wd) : Nat := 13 * W.t + 8 * W.d.length
def bit (W : Wd) (i : Nat) : Bool := xq W.t W.d W.m i
def flip (W : Wd) (i : Nat) : Wd := if 13 * W.t ≤ i then { W with d := iC W.d (i - 13 * W.t) } else { W with m := iC W.m i }
theorem Ok.flip {W : Wd} (h : W.Ok) (i : Nat) : (W.flip i).Ok := by
  unfold Wd.flip
  split
  · exact ⟨h.t, by show 1 ≤ (iC _ _).length ∧ (iC _ _).length ≤ 512; rw [dO]; exact h.d, h.m, iO h.ds _, h.ms⟩
  · exact ⟨h.t, h.d, by show (iC _ _).length = _; rw [dO]; exact h.m, h.ds, iO h.ms _⟩
end Wd
theorem iL (k : IntKind) (xs : List Nat) (r : List Value) {i : Nat} (h : i < xs.length) : (aB k xs ++ r)[i]? = some (.int k (xs.getD i 0 : Nat)) := by
  rw [List.getElem?_append_left (by rw [aH]; exact h)]; exact l8 k xs h
theorem jm (k : IntKind) (xs : List Nat) (r : List Value) {i x : Nat} (h : i < xs.length) : (aB k xs ++ r).set i (.int k (x : Int)) = aB k (xs.set i x) ++ r := by
  rw [List.set_append, if_pos (by rw [aH]; exact h), iZ]
section
variable {K : World} {F : List au}
theorem DF {A : Option Addr} {t m cap : Nat} (ht : 1 ≤ t ∧ t ≤ 8) (hm : 1 ≤ m ∧ m ≤ 512) : aG Tryz.prog 278 #[.int .i64 (t : Int), .slice A m cap] K F (.tuple #[.int .i64 (ay t : Nat), .int .i64 0]) := by
  refine Does.enter Tryz.func278 rfl Tryz.ntmps278 rfl ?_
  simp only [aJ, Nat.reduceAdd]
  refine WC.sr (WL.sg rfl rfl (WL.sg rfl rfl (WL.nil (WC.sr (WL.mv rfl rfl ?_)))))
  refine WL.call (vs := [_]) Tryz.call227 ⟨OV.p rfl, trivial⟩ (D6 t (by omega) _ _) rfl ?_
  rintro _ H0 ⟨rfl, h0⟩
  subst H0
  refine WL.mv rfl rfl (WL.xt rfl rfl rfl (WL.xt rfl rfl rfl (WL.sg rfl rfl (WL.sg rfl rfl (WL.nil (WC.seq (WC.sr (WL.mv rfl rfl (WL.val (V.eql (OV.p rfl) (OV.p rfl)) rfl (WL.mv rfl rfl (WL.ah (oj := _) rfl rfl rfl GC.t (V.move (OV.p rfl)) rfl (WL.ah (oj := _) rfl rfl rfl GC.t (V.len (t := 34) Tryz.runUnderlying34 (OV.g rfl id)) rfl (WL.ah (oj := _) rfl rfl rfl GC.t (V.lss (OV.g rfl id) (OV.p rfl)) rfl (WL.ah (oj := _) rfl rfl rfl GC.t (V.move (OV.g rfl id)) rfl (WL.ah (oj := _) rfl rfl rfl GC.cf (V.move (OV.p rfl)) rfl (WL.ah (oj := _) rfl rfl rfl GC.cf (V.len (t := 34) Tryz.runUnderlying34 (OV.g rfl id)) rfl (WL.ah (oj := _) rfl rfl rfl GC.cf (V.gtr (OV.g rfl id) (OV.p rfl)) rfl (WL.ah (oj := _) rfl rfl rfl GC.t (V.aS (OV.g rfl id) (OV.g rfl id)) rfl (WL.val (V.aD (OV.p rfl) (OV.g rfl id)) rfl (WL.nil ?_))))))))))))))))))))
  refine WC.aM rfl ((by simp; omega)) ?_
  refine WC.skip (WC.sr (WL.mv rfl rfl (WL.ad rfl rfl rfl ?_)))
  refine WL.val (V.rR (OV.p rfl) (OV.p rfl) (fun hc => by first | omega | (simp at hc; omega))) rfl ?_
  refine WL.mv rfl rfl (WL.sg rfl rfl (WL.sg rfl rfl (WL.nil (WC.ret ?_))))
  refine aj.ret (H' := F) (aL.dJ rfl rfl rfl) (fun w h => h) ⟨?_, rfl⟩
  unfold ay
  simp
theorem El {bw : Nat} {W : Wd} (h : W.Ok) (hR : aT K F bw 0 W.cells) : aG Tryz.prog 286 #[ptr bw 0] K F (.int .i64 (W.len : Nat)) := by
  have h1 := h.t
  have h2 := h.d
  have e0 : Rd K F (some ⟨bw, 0, none⟩) (.int .i64 (W.t : Int)) := hR 0 _ rfl
  have e1 : Rd K F (some ⟨bw, 1, none⟩) (.slice (some ⟨W.g1, 0, none⟩) W.d.length W.c1) := hR 1 _ rfl
  refine Does.enter Tryz.func286 rfl Tryz.ntmps286 rfl ?_
  simp only [aJ, Nat.reduceAdd]
  refine WC.sr (WL.sg rfl rfl (WL.nil (WC.seq ?_)))
  refine WC.fK (by kernel_rfl) (by kernel_rfl) ?_
  refine WQ.val (V.move (OV.p rfl)) rfl (WQ.val (V.nilCheck (OV.p rfl)) rfl (WQ.val (V.fieldAddr xu (OV.p rfl)) rfl ?_))
  refine WQ.val (V.load Tryz.isAgg3 (OV.p rfl) (fun hc => e0)) rfl ?_
  refine WQ.val (V.jQ (OV.p rfl) (OV.p rfl) (fun hc => by first | omega | (simp at hc; omega))) rfl ?_
  refine WQ.val (V.move (OV.p rfl)) rfl (WQ.val (V.nilCheck (OV.p rfl)) rfl (WQ.val (V.fieldAddr xg (OV.p rfl)) rfl ?_))
  refine WQ.val (V.load Tryz.isAgg34 (OV.p rfl) (fun hc => e1)) rfl ?_
  refine WQ.val (V.len (t := 34) Tryz.runUnderlying34 (OV.p rfl)) rfl ?_
  refine WQ.val (V.jQ (OV.p rfl) (OV.p rfl) (fun hc => by first | omega | (simp at hc; omega))) rfl ?_
  refine WQ.val (V.jO (OV.p rfl) (OV.p rfl) (fun hc => by first | omega | (simp at hc; omega))) rfl ?_
  refine WQ.val (V.assign (OV.p rfl)) rfl (WQ.nil (WC.ret ?_))
  refine aj.ret (H' := F) (aL.tmp rfl rfl) (fun w h => h) ⟨?_, rfl⟩
  unfold Wd.len
  simp
theorem LH {bw : Nat} {W : Wd} (h : W.Ok) {i : Nat} (hi : i < W.len) (hR : aT K F bw 0 W.cells) (hd : Seq K F (some ⟨W.g1, 0, none⟩) W.d.length 1 (aB .u8 W.d)) (hm : Seq K F (some ⟨W.g2, 0, none⟩) W.m.length 1 (aB .u8 W.m)) :
    aG Tryz.prog 325 #[ptr bw 0, .int .i64 (i : Int)] K F (.bool (W.bit i)) := by
  have h1 := h.t
  have h2 := h.d
  have h3 := h.m
  unfold ay at h3
  unfold Wd.len at hi
  have e0 : Rd K F (some ⟨bw, 0, none⟩) (.int .i64 (W.t : Int)) := hR 0 _ rfl
  have e1 : Rd K F (some ⟨bw, 1, none⟩) (.slice (some ⟨W.g1, 0, none⟩) W.d.length W.c1) := hR 1 _ rfl
  have e2 : Rd K F (some ⟨bw, 2, none⟩) (.slice (some ⟨W.g2, 0, none⟩) W.m.length W.c2) := hR 2 _ rfl
  have key : ∀ (xs : List Nat) (j : Nat), decide ((((xs.getD (j / 8) 0 / 2 ^ (j % 8) % 2 : Nat) : Int)) = 1) = aR xs j := fun xs j => by
    unfold aR
    rw [Nat.testBit_eq_decide_div_mod_eq]
    apply decide_eq_decide.2
    omega
  refine Does.enter Tryz.func325 rfl Tryz.ntmps325 rfl ?_
  simp only [aJ, Nat.reduceAdd]
  refine WC.sr (WL.sg rfl rfl (WL.nil (WC.seq (WC.sr (WL.mv rfl rfl (WL.mv rfl rfl (WL.nc rfl rfl (WL.val (V.fieldAddr xu (OV.p rfl)) rfl ?_))))))))
  refine WL.val (V.load Tryz.isAgg3 (OV.p rfl) (fun hc => e0)) rfl ?_
  refine WL.val (V.jQ (OV.p rfl) (OV.p rfl) (fun hc => by first | omega | (simp at hc; omega))) rfl ?_
  refine WL.sb rfl rfl rfl ?_
  refine WL.sg rfl rfl (WL.nil (WC.sr (WL.mv rfl rfl (WL.val (V.geq (OV.p rfl) (OV.p rfl)) rfl (WL.nil ?_)))))
  refine WC.cond rfl (fun hc0 => ?_) (fun hc0 => ?_)
  ·simp only [decide_eq_true_eq, decide_eq_false_iff_not] at hc0
   refine WC.seq ?_
   obtain ⟨k, hk⟩ : ∃ k, k = i - 13 * W.t := ⟨_, rfl⟩
   have hki : (i : Int) - 13 * (W.t : Int) = (k : Int) := by omega
   rw [hki]
   have hrd : Rd K F (some ⟨W.g1, 0 + ((k : Int) / 8).toNat * 1, none⟩) (.int .u8 (W.d.getD (k / 8) 0 : Nat)) := by
     have := hd.gK (j := k / 8) (by omega)
     rw [show 0 + ((k : Int) / 8).toNat * 1 = 0 + k / 8 * 1 by omega]
     simpa [gZ] using this
   have hb := h.ds.at_ (by decide) (k / 8)
   refine WC.region (WL.mv rfl rfl (WL.nc rfl rfl (WL.val (V.fieldAddr xg (OV.p rfl)) rfl ?_)))
   refine WL.val (V.load Tryz.isAgg34 (OV.p rfl) (fun hc => e1)) rfl ?_
   refine WL.mv rfl rfl ?_
   refine WL.val (V.rR (OV.p rfl) (OV.p rfl) (fun hc => by first | omega | (simp at hc; omega))) rfl ?_
   refine WL.val (V.bP dB (OV.p rfl) (OV.p rfl) (fun hc => by omega)) rfl ?_
   refine WL.val (V.load Tryz.isAgg5 (OV.p rfl) (fun hc => hrd)) rfl ?_
   refine WL.mv rfl rfl ?_
   refine WL.val (V.aA (v' := .int .i64 ((k % 8 : Nat) : Int)) (V.qH (OV.p rfl) (OV.p rfl) (fun _ => by omega)) (fun _ => by simp)) rfl ?_
   refine WL.val (V.aA (v' := .int .u8 ((W.d.getD (k / 8) 0 / 2 ^ (k % 8) : Nat) : Int)) (V.shr (OV.p rfl) (OV.p rfl) (by omega)) (fun _ => by rw [wU (by show k % 8 ≤ 8; omega)])) rfl ?_
   refine WL.val (V.aA (v' := .int .u8 ((W.d.getD (k / 8) 0 / 2 ^ (k % 8) % 2 : Nat) : Int)) (V.and (OV.p rfl) (OV.p rfl)) (fun _ => by rw [sD (Nat.lt_of_le_of_lt (Nat.div_le_self _ _) hb)])) rfl ?_
   refine WL.val (V.eql (OV.p rfl) (OV.p rfl)) rfl (WL.sg rfl rfl (WL.nil (WC.ret ?_)))
   refine aj.ret (H' := F) (aL.tmp rfl rfl) (fun w h => h) ⟨?_, rfl⟩
   rw [key]; unfold Wd.bit xq; rw [if_pos (by omega), ← hk]
  ·simp only [decide_eq_true_eq, decide_eq_false_iff_not] at hc0
   refine WC.skip (WC.seq ?_)
   have hrd : Rd K F (some ⟨W.g2, 0 + ((i : Int) / 8).toNat * 1, none⟩) (.int .u8 (W.m.getD (i / 8) 0 : Nat)) := by
     have := hm.gK (j := i / 8) (by omega)
     rw [show 0 + ((i : Int) / 8).toNat * 1 = 0 + i / 8 * 1 by omega]
     simpa [gZ] using this
   have hb := h.ms.at_ (by decide) (i / 8)
   refine WC.region (WL.mv rfl rfl (WL.nc rfl rfl (WL.val (V.fieldAddr wZ (OV.p rfl)) rfl ?_)))
   refine WL.val (V.load Tryz.isAgg34 (OV.p rfl) (fun hc => e2)) rfl ?_
   refine WL.mv rfl rfl ?_
   refine WL.val (V.rR (OV.p rfl) (OV.p rfl) (fun hc => by first | omega | (simp at hc; omega))) rfl ?_
   refine WL.val (V.bP dB (OV.p rfl) (OV.p rfl) (fun hc => by omega)) rfl ?_
   refine WL.val (V.load Tryz.isAgg5 (OV.p rfl) (fun hc => hrd)) rfl ?_
   refine WL.mv rfl rfl ?_
   refine WL.val (V.aA (v' := .int .i64 ((i % 8 : Nat) : Int)) (V.qH (OV.p rfl) (OV.p rfl) (fun _ => by omega)) (fun _ => by simp)) rfl ?_
   refine WL.val (V.aA (v' := .int .u8 ((W.m.getD (i / 8) 0 / 2 ^ (i % 8) : Nat) : Int)) (V.shr (OV.p rfl) (OV.p rfl) (by omega)) (fun _ => by rw [wU (by show i % 8 ≤ 8; omega)])) rfl ?_
   refine WL.val (V.aA (v' := .int .u8 ((W.m.getD (i / 8) 0 / 2 ^ (i % 8) % 2 : Nat) : Int)) (V.and (OV.p rfl) (OV.p rfl)) (fun _ => by rw [sD (Nat.lt_of_le_of_lt (Nat.div_le_self _ _) hb)])) rfl ?_
   refine WL.val (V.eql (OV.p rfl) (OV.p rfl)) rfl (WL.sg rfl rfl (WL.nil (WC.ret ?_)))
   refine aj.ret (H' := F) (aL.tmp rfl rfl) (fun w h => h) ⟨?_, rfl⟩
   rw [key]; unfold Wd.bit xq; rw [if_neg (by omega)]
theorem Iw {bw : Nat} {W : Wd} (h : W.Ok) {i : Nat} (hi : i < W.len) :
    Does Tryz.prog 289 #[ptr bw 0, .int .i64 (i : Int)] K (W.parts bw ++ F) (fun v H' => H' = (W.flip i).parts bw ++ F) := by
  have h1 := h.t
  have h2 := h.d
  have h3 := h.m
  unfold ay at h3
  unfold Wd.len at hi
  dsimp only [Wd.parts, List.cons_append, List.nil_append]
  refine Does.enter Tryz.func289 rfl Tryz.ntmps289 rfl ?_
  simp only [aJ, Nat.reduceAdd]
  refine WC.sr (WL.mv rfl rfl (WL.mv rfl rfl (WL.nc rfl rfl (WL.val (V.fieldAddr xu (OV.p rfl)) rfl (WL.ld Tryz.isAgg3 rfl rfl ?_)))))
  refine WL.val (V.jQ (OV.p rfl) (OV.p rfl) (fun hc => by first | omega | (simp at hc; omega))) rfl ?_
  refine WL.sb rfl rfl rfl ?_
  refine WL.sg rfl rfl (WL.nil (WC.sr (WL.mv rfl rfl (WL.val (V.geq (OV.p rfl) (OV.p rfl)) rfl (WL.nil ?_)))))
  refine WC.cond rfl (fun hc0 => ?_) (fun hc0 => ?_)
  ·simp only [decide_eq_true_eq, decide_eq_false_iff_not] at hc0
   obtain ⟨k, hk⟩ : ∃ k, k = i - 13 * W.t := ⟨_, rfl⟩
   have hki : (i : Int) - 13 * (W.t : Int) = (k : Int) := by omega
   rw [hki]
   have hg1 : (aB .u8 W.d ++ W.r1)[0 + ((k : Int) / 8).toNat * 1]? = some (.int .u8 (W.d.getD (k / 8) 0 : Nat)) := by rw [show 0 + ((k : Int) / 8).toNat * 1 = k / 8 by omega]; exact iL _ _ _ (by omega)
   have hb := h.ds.at_ (by decide) (k / 8)
   have hWf : W.flip i = { W with d := iC W.d k } := by unfold Wd.flip; rw [if_pos (by omega), ← hk]
   refine WC.sub (Sub.refl _) (fun w h => h.p1) ?_
   refine WC.dY (Cells bw 370 W.cells :: Cells W.g2 5 (aB .u8 W.m ++ W.r2) :: F) (by kernel_rfl) ?_
   refine WA.t 0 rfl (V.move (OV.p rfl)) (WA.t 1 rfl (V.nilCheck (OV.p rfl)) (WA.t 2 rfl (V.fieldAddr xg (OV.p rfl)) ?_))
   refine WA.t 3 rfl (V.load Tryz.isAgg34 (OV.p rfl) (fun _ => by repeat (first | exact Rd.here rfl | apply Rd.up))) ?_
   refine WA.t 4 rfl (V.move (OV.p rfl)) ?_
   refine WA.t 5 rfl (V.rR (OV.p rfl) (OV.p rfl) (fun hc => by first | omega | (simp at hc; omega))) ?_
   refine WA.t 6 rfl (V.bP dB (OV.p rfl) (OV.p rfl) (fun hc => by omega)) ?_
   refine WA.t 8 rfl (V.move (OV.p rfl)) ?_
   refine WA.t 9 rfl (V.aA (v' := .int .i64 ((k % 8 : Nat) : Int)) (V.qH (OV.p rfl) (OV.p rfl) (fun _ => by omega)) (fun _ => by simp)) ?_
   refine WA.t 10 rfl (V.aA (v' := .int .u8 ((2 ^ (k % 8) : Nat) : Int)) (V.shl (OV.p rfl) (OV.p rfl) (by omega)) (fun _ => by rw [yS (by omega)])) ?_
   refine WA.o 7 rfl ?_
   refine WL.val (V.load Tryz.isAgg5 (OV.p rfl) (fun hc => by repeat (first | exact Rd.here hg1 | apply Rd.up))) rfl ?_
   refine WL.nil ?_
   refine WA.t 11 rfl (V.aA (v' := .int .u8 ((W.d.getD (k / 8) 0 ^^^ 2 ^ (k % 8) : Nat) : Int)) (V.xor (OV.p rfl) (OV.p rfl)) (fun _ => by rw [BJ hb (xB (by omega))])) ?_
   refine WA.t 12 rfl (V.bP dB (OV.p rfl) (OV.p rfl) (fun hc => by omega)) ?_
   refine WA.o 13 rfl ?_
   refine WL.store (cs := [_]) Tryz.sizeOf5 (OV.p rfl) (OV.p rfl) rfl rfl rfl (aQ.at_ (by rw [List.length_append, aH]; omega)) ?_
   refine WL.nil (WA.fin ?_)
   first
   | (refine aj.normal (H' := (W.flip i).parts bw ++ F) (aL.none rfl) (fun w h => ?_) rfl
      rw [hWf]
      rw [show 0 + ((k : Int) / 8).toNat * 1 = k / 8 by omega, jm _ _ _ (by omega)] at h
      have h' := h.p1
      dsimp only [Wd.parts, Wd.cells, List.cons_append, List.nil_append]
      rw [dO]
      exact h')
   | (refine aj.normal (H' := (W.flip i).parts bw ++ F) (aL.none rfl) (fun w h => ?_) rfl
      rw [hWf]
      rw [show 0 + ((i : Int) / 8).toNat * 1 = i / 8 by omega, jm _ _ _ (by omega)] at h
      have h' := h.sel 3 [1, 2, 0] rfl
      dsimp only [Wd.parts, Wd.cells, List.cons_append, List.nil_append]
      rw [dO]
      exact h')
  ·simp only [decide_eq_true_eq, decide_eq_false_iff_not] at hc0
   have hWf : W.flip i = { W with m := iC W.m i } := by unfold Wd.flip; rw [if_neg (by omega)]
   have hg1 : (aB .u8 W.m ++ W.r2)[0 + ((i : Int) / 8).toNat * 1]? = some (.int .u8 (W.m.getD (i / 8) 0 : Nat)) := by rw [show 0 + ((i : Int) / 8).toNat * 1 = i / 8 by omega]; exact iL _ _ _ (by omega)
   have hb := h.ms.at_ (by decide) (i / 8)
   refine WC.sub (Sub.refl _) (fun w h => h.p2) ?_
   refine WC.dY (Cells bw 370 W.cells :: Cells W.g1 5 (aB .u8 W.d ++ W.r1) :: F) (by kernel_rfl) ?_
   refine WA.t 0 rfl (V.move (OV.p rfl)) (WA.t 1 rfl (V.nilCheck (OV.p rfl)) (WA.t 2 rfl (V.fieldAddr wZ (OV.p rfl)) ?_))
   refine WA.t 3 rfl (V.load Tryz.isAgg34 (OV.p rfl) (fun _ => by repeat (first | exact Rd.here rfl | apply Rd.up))) ?_
   refine WA.t 4 rfl (V.move (OV.p rfl)) ?_
   refine WA.t 5 rfl (V.rR (OV.p rfl) (OV.p rfl) (fun hc => by first | omega | (simp at hc; omega))) ?_
   refine WA.t 6 rfl (V.bP dB (OV.p rfl) (OV.p rfl) (fun hc => by omega)) ?_
   refine WA.t 8 rfl (V.move (OV.p rfl)) ?_
   refine WA.t 9 rfl (V.aA (v' := .int .i64 ((i % 8 : Nat) : Int)) (V.qH (OV.p rfl) (OV.p rfl) (fun _ => by omega)) (fun _ => by simp)) ?_
   refine WA.t 10 rfl (V.aA (v' := .int .u8 ((2 ^ (i % 8) : Nat) : Int)) (V.shl (OV.p rfl) (OV.p rfl) (by omega)) (fun _ => by rw [yS (by omega)])) ?_
   refine WA.o 7 rfl ?_
   refine WL.val (V.load Tryz.isAgg5 (OV.p rfl) (fun hc => by repeat (first | exact Rd.here hg1 | apply Rd.up))) rfl ?_
   refine WL.nil ?_
   refine WA.t 11 rfl (V.aA (v' := .int .u8 ((W.m.getD (i / 8) 0 ^^^ 2 ^ (i % 8) : Nat) : Int)) (V.xor (OV.p rfl) (OV.p rfl)) (fun _ => by rw [BJ hb (xB (by omega))])) ?_
   refine WA.t 12 rfl (V.bP dB (OV.p rfl) (OV.p rfl) (fun hc => by omega)) ?_
   refine WA.o 13 rfl ?_
   refine WL.store (cs := [_]) Tryz.sizeOf5 (OV.p rfl) (OV.p rfl) rfl rfl rfl (aQ.at_ (by rw [List.length_append, aH]; omega)) ?_
   refine WL.nil (WA.fin ?_)
   first
   | (refine aj.normal (H' := (W.flip i).parts bw ++ F) (aL.none rfl) (fun w h => ?_) rfl
      rw [hWf]
      rw [show 0 + ((k : Int) / 8).toNat * 1 = k / 8 by omega, jm _ _ _ (by omega)] at h
      have h' := h.p1
      dsimp only [Wd.parts, Wd.cells, List.cons_append, List.nil_append]
      rw [dO]
      exact h')
   | (refine aj.normal (H' := (W.flip i).parts bw ++ F) (aL.none rfl) (fun w h => ?_) rfl
      rw [hWf]
      rw [show 0 + ((i : Int) / 8).toNat * 1 = i / 8 by omega, jm _ _ _ (by omega)] at h
      have h' := h.sel 3 [1, 2, 0] rfl
      dsimp only [Wd.parts, Wd.cells, List.cons_append, List.nil_append]
      rw [dO]
      exact h')
theorem Ke {bit : Nat → Bool} {x i v : Nat} : hor bit x (i + 1) v = hor bit x i (aK v x ^^^ wI (bit i)) := rfl
theorem Hy {bw : Nat} {W : Wd} (h : W.Ok) (hR : aT K F bw 0 W.cells) (hd : Seq K F (some ⟨W.g1, 0, none⟩) W.d.length 1 (aB .u8 W.d)) (hm : Seq K F (some ⟨W.g2, 0, none⟩) W.m.length 1 (aB .u8 W.m)) :
    Does Tryz.prog 285 #[ptr bw 0] K F (fun v H' => ∃ g, v = .slice (some ⟨g, 0, none⟩) (2 * W.t) (2 * W.t) ∧ H' = Cells g 3 (aB .i64 (jS W.t W.len W.bit)) :: F) := by
  have h1 := h.t
  have h2 := h.d
  have e0 : Rd K F (some ⟨bw, 0, none⟩) (.int .i64 (W.t : Int)) := hR 0 _ rfl
  have hlen : W.len ≤ 4200 := by unfold Wd.len; omega
  have MP : 0 < W.len := by unfold Wd.len; omega
  have Qx : ∀ {X : au}, aT K (X :: F) bw 0 W.cells := fun {X} => hR.up
  refine Does.enter Tryz.func285 rfl Tryz.ntmps285 rfl ?_
  simp only [aJ, Nat.reduceAdd]
  refine WC.sr (WL.sg rfl rfl (WL.nil (WC.sr (WL.mv rfl rfl (WL.nc rfl rfl (WL.val (V.fieldAddr xu (OV.p rfl)) rfl ?_))))))
  refine WL.val (V.load Tryz.isAgg3 (OV.p rfl) (fun hc => e0)) rfl ?_
  refine WL.val (V.jQ (OV.p rfl) (OV.p rfl) (fun hc => by first | omega | (simp at hc; omega))) rfl ?_
  refine WL.l7 (m := 2 * W.t) Tryz.underlying124 el3 (OV.p rfl) (OV.p rfl) (by omega) (by omega) (by omega) rfl rfl rfl (fun b13 => ?_)
  refine WL.sg rfl rfl (WL.nil (WC.seq (WC.sr (WL.mv rfl rfl (WL.val (V.len (t := 124) Tryz.runUnderlying124 (OV.p rfl)) rfl (WL.mv rfl rfl (WL.nil (WC.block ?_))))))))
  refine WC.loop (σ := Nat) (fun k => [(0, ptr bw 0), (3, .slice (some ⟨b13, 0, none⟩) (2 * W.t) (2 * W.t)), (15, .int .i64 ((2 * W.t : Nat) : Int)), (16, .int .i64 (k : Int))]) (fun k => Cells b13 3 (aB .i64 ((jS W.t W.len W.bit).take k ++ List.replicate (2 * W.t - k) 0)) :: F) (fun k => k ≤ 2 * W.t) (fun k => 2 * W.t - k) 0 (Nat.zero_le _) (.cons rfl (.cons rfl (.cons rfl (.cons rfl (.nil _))))) (fun w h => Sat.aV h (by simp [dh])) ?_
  rintro k hk
  refine WC.sr (WL.val (V.lss (OV.p rfl) (OV.p rfl)) rfl (WL.nil (WC.seq ?_)))
  refine WC.cond rfl (fun hc0 => ?_) (fun hc0 => ?_)
  ·simp only [decide_eq_true_eq, decide_eq_false_iff_not] at hc0
   refine WC.skip (WC.seq (WC.block (WC.sr (WL.mv rfl rfl (WL.sg rfl rfl (WL.nil (WC.seq ?_)))))))
   have hkt : k < 2 * W.t := by omega
   refine WC.region (WL.mv rfl rfl ?_)
   refine WL.val (V.aA (v' := .int .i64 ((k + 1 : Nat) : Int)) (V.jO (OV.p rfl) (OV.p rfl) (fun _ => by omega)) (fun _ => by simp)) rfl ?_
   refine WL.call (vs := [_]) Tryz.call287 ⟨OV.p rfl, trivial⟩ (Gg _ (by omega)) rfl ?_
   rintro _ H0 ⟨rfl, h0⟩
   subst H0
   refine WL.sg rfl rfl (WL.sg rfl rfl (WL.nil (WC.seq (WC.sr (WL.mv rfl rfl (WL.call (vs := [_]) Tryz.call286 ⟨OV.p rfl, trivial⟩ (El h Qx) rfl ?_))))))
   rintro _ H0 ⟨rfl, h0⟩
   subst H0
   refine WL.val (V.aA (v' := .int .i64 ((W.len : Int) - 1)) (V.wM (OV.p rfl) (OV.p rfl) (fun _ => by omega)) (fun _ => rfl)) rfl ?_
   refine WL.sg rfl rfl (WL.nil (WC.block ?_))
   refine WC.loop (σ := Nat × Nat) (fun x => [(0, ptr bw 0), (3, .slice (some ⟨b13, 0, none⟩) (2 * W.t) (2 * W.t)), (15, .int .i64 ((2 * W.t : Nat) : Int)), (16, .int .i64 (k : Int)), (4, .int .i64 (k : Int)), (5, .int .i64 (bT ((k + 1 : Nat) : Int) : Nat)), (6, .int .i64 (x.2 : Int)), (7, .int .i64 ((x.1 : Int) - 1))]) (fun _ => Cells b13 3 (aB .i64 ((jS W.t W.len W.bit).take k ++ List.replicate (2 * W.t - k) 0)) :: F) (fun x => x.1 ≤ W.len ∧ x.2 < 8192 ∧ hor W.bit (bT ((k + 1 : Nat) : Int)) x.1 x.2 = hor W.bit (bT ((k + 1 : Nat) : Int)) W.len 0) (fun x => x.1) (W.len, 0) ⟨Nat.le_refl _, by show 0 < 8192; decide, rfl⟩ (.cons rfl (.cons rfl (.cons rfl (.cons rfl (.cons rfl (.cons rfl (.cons rfl (.cons rfl (.nil _))))))))) (fun w h => h) ?_
   rintro ⟨i, v⟩ ⟨hi, hv, hh⟩
   dsimp only at hi hv hh ⊢
   refine WC.seq (WC.sr (WL.mv rfl rfl (WL.val (V.geq (OV.p rfl) (OV.p rfl)) rfl (WL.nil ?_))))
   refine WC.cond rfl (fun hc1 => ?_) (fun hc1 => ?_)
   ·simp only [decide_eq_true_eq, decide_eq_false_iff_not] at hc1
    obtain ⟨i', rfl⟩ : ∃ i', i = i' + 1 := ⟨i - 1, by omega⟩
    have hi1 : ((i' + 1 : Nat) : Int) - 1 = (i' : Int) := by omega
    rw [hi1]
    rw [Ke] at hh
    have hml := aP (b := bT ((k + 1 : Nat) : Int)) hv
    refine WC.skip (WC.seq (WC.block (WC.sr (WL.mv rfl rfl (WL.mv rfl rfl (WL.call (vs := [_, _]) Tryz.call288 ⟨OV.p rfl, OV.p rfl, trivial⟩ (pX hv (jv _)) rfl ?_))))))
    rintro _ H0 ⟨rfl, h0⟩
    subst H0
    refine WL.sg rfl rfl (WL.nil (WC.sr (WL.mv rfl rfl (WL.mv rfl rfl ?_))))
    refine WL.call (vs := [_, _]) Tryz.call325 ⟨OV.p rfl, OV.p rfl, trivial⟩ (LH h (i := i') (by omega) Qx hd.up hm.up) rfl ?_
    rintro _ H0 ⟨rfl, h0⟩
    subst H0
    refine WL.nil ?_
    refine WC.cond rfl (fun hc2 => ?_) (fun hc2 => ?_)
    ·skip
     have h9 := hc2
     rw [h9] at hh
     refine WC.region (WL.mv rfl rfl ?_)
     refine WL.val (V.aA (v' := .int .i64 ((aK v (bT ((k + 1 : Nat) : Int)) ^^^ 1 : Nat) : Int)) (V.xor (OV.p rfl) (OV.p rfl)) (fun _ => by rw [show (1 : Int) = ((1 : Nat) : Int) from rfl, iY (by omega) (by omega)])) rfl ?_
     refine WL.sg rfl rfl (WL.nil (WC.region (WL.mv rfl rfl (WL.sb rfl rfl rfl ?_))))
     refine WL.sg rfl rfl (WL.nil ?_)
     refine ⟨rfl, ?_⟩
     first
     | exact ⟨(i', aK v (bT ((k + 1 : Nat) : Int)) ^^^ 1), ⟨by show i' ≤ W.len; omega, cB (k := 13) hml (by decide), hh⟩, Nat.lt_succ_self _, .cons rfl (.cons rfl (.cons rfl (.cons rfl (.cons rfl (.cons rfl (.cons rfl (.cons rfl (.nil _)))))))), fun w h => h⟩
     | exact ⟨(i', aK v (bT ((k + 1 : Nat) : Int))), ⟨by show i' ≤ W.len; omega, hml, by rw [show wI false = 0 from rfl, Nat.xor_zero] at hh; exact hh⟩, Nat.lt_succ_self _, .cons rfl (.cons rfl (.cons rfl (.cons rfl (.cons rfl (.cons rfl (.cons rfl (.cons rfl (.nil _)))))))), fun w h => h⟩
    ·skip
     have h9 := hc2
     rw [h9] at hh
     refine WC.skip (WC.region (WL.mv rfl rfl (WL.sb rfl rfl rfl ?_)))
     refine WL.sg rfl rfl (WL.nil ?_)
     refine ⟨rfl, ?_⟩
     first
     | exact ⟨(i', aK v (bT ((k + 1 : Nat) : Int)) ^^^ 1), ⟨by show i' ≤ W.len; omega, cB (k := 13) hml (by decide), hh⟩, Nat.lt_succ_self _, .cons rfl (.cons rfl (.cons rfl (.cons rfl (.cons rfl (.cons rfl (.cons rfl (.cons rfl (.nil _)))))))), fun w h => h⟩
     | exact ⟨(i', aK v (bT ((k + 1 : Nat) : Int))), ⟨by show i' ≤ W.len; omega, hml, by rw [show wI false = 0 from rfl, Nat.xor_zero] at hh; exact hh⟩, Nat.lt_succ_self _, .cons rfl (.cons rfl (.cons rfl (.cons rfl (.cons rfl (.cons rfl (.cons rfl (.cons rfl (.nil _)))))))), fun w h => h⟩
   ·simp only [decide_eq_true_eq, decide_eq_false_iff_not] at hc1
    refine WC.exit ?_
    obtain rfl : i = 0 := by omega
    have hv2 : v = hor W.bit (bT ((k + 1 : Nat) : Int)) W.len 0 := hh
    refine WC.region (WL.mv rfl rfl (WL.mv rfl rfl (WL.mv rfl rfl ?_)))
    refine WL.val (V.bP bO (OV.p rfl) (OV.p rfl) (fun hc => by omega)) rfl ?_
    refine WL.store (cs := [_]) Tryz.sizeOf3 (OV.p rfl) (OV.p rfl) rfl rfl rfl (aQ.at_ (by rw [aH]; simp [jS]; omega)) ?_
    refine WL.nil (WC.region (WL.ad rfl rfl rfl ?_))
    refine WL.mv rfl rfl (WL.nil ?_)
    refine ⟨rfl, ?_⟩
    refine ⟨k + 1, (by show k + 1 ≤ 2 * W.t; omega), (by show 2 * W.t - (k + 1) < 2 * W.t - k; omega), .cons rfl (.cons rfl (.cons rfl (.cons (look_eq rfl (by simp)) (.nil _)))), fun w h => Sat.aV h ?_⟩
    have hsl : (jS W.t W.len W.bit).length = 2 * W.t := by simp [jS]
    have hsk : (jS W.t W.len W.bit)[k]'(by omega) = v := by rw [hv2]; simp [jS]
    rw [show 0 + (k : Int).toNat * 1 = k by omega, iZ, List.set_append_right _ _ (by rw [List.length_take]; omega), List.length_take, show k - min k (jS W.t W.len W.bit).length = 0 by omega, List.take_add_one, List.getElem?_eq_getElem (by omega), hsk]
    rw [show 2 * W.t - k = (2 * W.t - (k + 1)) + 1 by omega, List.replicate_succ, List.set_cons_zero]
    simp
  ·simp only [decide_eq_true_eq, decide_eq_false_iff_not] at hc0
   refine WC.exit (WC.sr (WL.mv rfl rfl (WL.sg rfl rfl (WL.nil (WC.ret ?_)))))
   obtain rfl : k = 2 * W.t := by omega
   refine aj.ret (H' := Cells b13 _ _ :: F) (aL.tmp rfl rfl) (fun w h => Sat.aV h ?_) ⟨b13, rfl, rfl⟩
   rw [Nat.sub_self, List.replicate_zero, List.append_nil, List.take_of_length_le (by simp [jS])]
end
structure ak where
  g : Geo
  pages : Int × Int → Option (List Int)
  wrong : Int × Int → Option (List Int)
  next : List Int
  marked : Int → Bool
  weak : Int → Bool
  fuse : Int
  up : Bool
  left : Int
  keep : Int
namespace ak
def raw (S : ak) : Int := S.g.raw
def block (S : ak) (b : Int) : Bool := decide (0 ≤ b) && decide (b < S.g.bl)
def page (S : ak) (b p : Int) : Bool := S.block b && decide (0 ≤ p) && decide (p < S.g.pg)
def ready (S : ak) : Int := if S.up then 0 else 70
def cut (S : ak) : Bool := decide (S.left = 1)
def deed (S : ak) : ak := { S with left := if S.left = 0 then 0 else S.left - 1, up := S.up && !S.cut }
def after (cut : Bool) : Int := if cut then 70 else 0
def iV (S : ak) (b : Int) : Int := S.next.getD b.toNat 0
def gQ (S : ak) (b x : Int) : List Int := S.next.set b.toNat x
def blank (S : ak) : List Int := List.replicate S.raw.toNat 255
def sU {α : Type} (f : Int × Int → Option α) (k : Int × Int) (v : Option α) : Int × Int → Option α := fun k' => if k' = k then v else f k'
def kept (S : ak) (n : Int) : Int := min (max S.keep 0) n
def program (S : ak) (b p : Int) (xs : List Int) : ak × Int :=
  if S.up = false then (S, 70)
  else if S.page b p = false ∨ (xs.length : Int) ≠ S.raw then (S, 1)
  else if p ≠ S.iV b then (S, 71)
  else
    let T := S.deed
    if S.cut then ({ T with pages := sU T.pages (b, p) (some (xs.take (S.kept xs.length).toNat ++ S.blank.drop (S.kept xs.length).toNat)), next := T.gQ b (p + 1) }, 70)
    else if S.weak b then (T, 72)
    else ({ T with pages := sU T.pages (b, p) (some xs), next := T.gQ b (p + 1) }, 0)
def aO {α : Type} (f : Int × Int → Option α) (b n : Int) : Int × Int → Option α := fun k => if k.1 = b ∧ 0 ≤ k.2 ∧ k.2 < n then none else f k
def erase (S : ak) (b : Int) : ak × Int :=
  if S.up = false then (S, 70)
  else if S.block b = false then (S, 1)
  else
    let T := S.deed
    if S.cut then ({ T with pages := aO T.pages b (S.kept S.g.pg), wrong := aO T.wrong b (S.kept S.g.pg) }, 70)
    else if S.weak b then (T, 72)
    else ({ T with pages := aO T.pages b S.g.pg, wrong := aO T.wrong b S.g.pg, next := T.gQ b 0 }, 0)
def all (S : ak) (f : ak → ak) : ak × Int := (if !S.cut || decide (0 < S.keep) then f S.deed else S.deed, after S.cut)
def mark (S : ak) (b : Int) : ak × Int :=
  if S.up = false then (S, 70) else if S.block b = false then (S, 1)
  else S.all fun T => { T with marked := fun k => if k = b then true else T.marked k }
def jY (S : ak) (n : Int) : ak × Int :=
  if S.up = false then (S, 70) else if 64 < n then (S, 1) else if n < S.fuse then (S, 74)
  else S.all fun T => { T with fuse := n }
def on (S : ak) : ak := { S with up := true }
def off (S : ak) : ak := { S with up := false }
def bad (S : ak) (b : Int) : Bool := S.up && S.marked b
def fused (S : ak) : Int := if S.up then S.fuse else 0
end ak
structure Cw where
  g : Geo
  pages : Int × Int → Option (Option Addr × Nat × List Int)
  wrong : Int × Int → Option (Option Addr × Nat × List Int)
  next : List Int
  marked : Int → Bool
  weak : Int → Bool
  fuse : Int
  up : Bool
  left : Int
  keep : Int
  (bp bw bn bm bk : Nat)
  own : List au
namespace Cw
def sem (C : Cw) : ak := ⟨C.g, fun p => (C.pages p).map (·.2.2), fun p => (C.wrong p).map (·.2.2), C.next, C.marked, C.weak, C.fuse, C.up, C.left, C.keep⟩
def jo (e : Option Addr × Nat × List Int) : Value := .slice e.1 e.2.2.length e.2.1
def gB (C : Cw) : Int × Int → Option Value := fun p => (C.pages p).map jo
def jf (C : Cw) : Int × Int → Option Value := fun p => (C.wrong p).map jo
abbrev cells (C : Cw) : List Value := [.int .i64 C.g.bl, .int .i64 C.g.pg, .int .i64 C.g.se, .int .i64 C.g.sb, .int .i64 C.g.fl, .int .i64 C.g.raw, .map (some C.bp), .map (some C.bw), .slice (some ⟨C.bn, 0, none⟩) C.next.length C.next.length,
  .map (some C.bm), .map (some C.bk), .int .i64 C.fuse, .bool C.up, .int .i64 C.left, .int .i64 C.keep]
abbrev parts (bc : Nat) (C : Cw) : List au := [Cells bc 165 C.cells, cu C.bp dW C.gB, cu C.bw dW C.jf, Cells C.bn 3 (ints .i64 C.next), cu C.bm kI (gV C.marked), cu C.bk kI (gV C.weak), bH C.own]
def A (bc : Nat) (C : Cw) : au := bH (C.parts bc)
structure Ok (C : Cw) : Prop where
  aF : C.g.aF
  page : ∀ p e, C.pages p = some e → eB C.own e.1 e.2.2.length 1 (ints .u8 e.2.2) ∧ (e.2.2.length : Int) = C.g.raw ∧ aZ e.2.2
  wr : ∀ p e, C.wrong p = some e → eB C.own e.1 e.2.2.length 1 (ints .i64 e.2.2) ∧ (∀ i ∈ e.2.2, 0 ≤ i ∧ i < 8 * C.g.raw) ∧ e.2.2.length ≤ maxLen
  len : (C.next.length : Int) = C.g.bl
  next : ∀ x ∈ C.next, 0 ≤ x ∧ x ≤ C.g.pg
  left : 0 ≤ C.left ∧ C.left ≤ 9223372036854775807
def deed (C : Cw) : Cw := { C with left := if C.left = 0 then 0 else C.left - 1, up := C.up && !decide (C.left = 1) }
end Cw
theorem Does.mq {f : FuncId} {args : Array Value} {bc : Nat} {C : Cw} {K : World} {F : List au} {post : Value → List au → Prop} (h : Does Tryz.prog f args K (C.parts bc ++ F) post) : Does Tryz.prog f args K (C.A bc :: F) post := h.sat fun w hw => hw.vX
section
variable {bc : Nat} {C : Cw} {K : World} {F : List au}
theorem fM (hR : aT K F bc 0 C.cells) : aG Tryz.prog 93 #[ptr bc 0] K F (.int .i64 C.sem.ready) := by
  refine Does.enter Tryz.func93 rfl Tryz.ntmps93 rfl ?_
  simp only [aJ, Nat.reduceAdd]
  refine WC.sr (WL.sg rfl rfl (WL.nil (WC.seq (WC.block (WC.sr (WL.mv rfl rfl (WL.val (V.ku Tryz.underlying27 (OV.p rfl) (OV.p rfl)) rfl (WL.sg rfl rfl (WL.nil ?_)))))))))
  refine WC.aM rfl (by first | rfl | (simp; done) | (simp; omega)) ?_
  refine WC.sr (WL.mv rfl rfl (WL.nc rfl rfl (WL.val (V.fieldAddr CV (OV.p rfl)) rfl ?_)))
  refine WL.val (V.load Tryz.isAgg4 (OV.p rfl) (fun _ => by repeat (first | exact Rd.here rfl | exact hR _ _ rfl | apply Rd.up))) rfl ?_
  refine WL.val (V.not (OV.p rfl)) rfl (WL.sg rfl rfl (WL.nil ?_))
  refine WC.cond rfl (fun hc1 => ?_) (fun hc1 => ?_)
  ·try simp only [decide_eq_true_eq, decide_eq_false_iff_not, Bool.and_eq_true, Bool.or_eq_true, Bool.and_eq_false_iff, Bool.or_eq_false_iff, Bool.not_eq_true', Bool.not_eq_false', Bool.not_eq_true, Bool.not_eq_false, Int.not_lt, Int.not_le] at hc1
   refine WC.sr (WL.sg rfl rfl (WL.nil (WC.ret ?_)))
   refine aj.ret (H' := F) (aL.tmp rfl rfl) (fun w h => by repeat (first | exact h | replace h := h.tail)) ⟨?_, rfl⟩
   unfold ak.ready Cw.sem
   simp [*]
  ·try simp only [decide_eq_true_eq, decide_eq_false_iff_not, Bool.and_eq_true, Bool.or_eq_true, Bool.and_eq_false_iff, Bool.or_eq_false_iff, Bool.not_eq_true', Bool.not_eq_false', Bool.not_eq_true, Bool.not_eq_false, Int.not_lt, Int.not_le] at hc1
   refine WC.skip (WC.sr (WL.sg rfl rfl (WL.nil (WC.ret ?_))))
   refine aj.ret (H' := F) (aL.tmp rfl rfl) (fun w h => by repeat (first | exact h | replace h := h.tail)) ⟨?_, rfl⟩
   unfold ak.ready Cw.sem
   simp [*]
theorem mO (b : Int) (hR : aT K F bc 0 C.cells) : aG Tryz.prog 97 #[ptr bc 0, .int .i64 b] K F (.bool (C.sem.block b)) := by
  refine Does.enter Tryz.func97 rfl Tryz.ntmps97 rfl ?_
  simp only [aJ, Nat.reduceAdd]
  refine WC.sr (WL.sg rfl rfl (WL.nil (WC.sr (WL.mv rfl rfl (WL.val (V.geq (OV.p rfl) (OV.p rfl)) rfl (WL.mv rfl rfl (WL.ah (oj := _) rfl rfl rfl GC.t (V.move (OV.p rfl)) rfl (WL.ah (oj := _) rfl rfl rfl GC.t (V.move (OV.p rfl)) rfl (WL.ah (oj := _) rfl rfl rfl GC.t (V.nilCheck (OV.g rfl id)) rfl (WL.ah (oj := _) rfl rfl rfl GC.t (V.fieldAddr wW (OV.g rfl id)) rfl (WL.ah (oj := _) rfl rfl rfl GC.t (V.fieldAddr jk (OV.g rfl id)) rfl ?_)))))))))))
  refine WL.ah (oj := _) rfl rfl rfl GC.t (V.load Tryz.isAgg3 (OV.g rfl id) (fun _ => by repeat (first | exact Rd.here rfl | exact hR _ _ rfl | apply Rd.up))) rfl ?_
  refine WL.ah (oj := _) rfl rfl rfl GC.t (V.lss (OV.g rfl id) (OV.g rfl id)) rfl (WL.val (V.aD (OV.p rfl) (OV.g rfl id)) rfl (WL.sg rfl rfl (WL.nil (WC.ret ?_))))
  exact aj.ret (H' := F) (aL.tmp rfl rfl) (fun w h => by repeat (first | exact h | replace h := h.tail)) ⟨rfl, rfl⟩
theorem vw (b p : Int) (hR : aT K F bc 0 C.cells) : aG Tryz.prog 221 #[ptr bc 0, .int .i64 b, .int .i64 p] K F (.bool (C.sem.page b p)) := by
  refine Does.enter Tryz.func221 rfl Tryz.ntmps221 rfl ?_
  simp only [aJ, Nat.reduceAdd]
  refine WC.sr (WL.sg rfl rfl (WL.nil (WC.sr (WL.mv rfl rfl (WL.mv rfl rfl (WL.call (vs := [_, _]) Tryz.call97 ⟨OV.p rfl, OV.p rfl, trivial⟩ (mO b hR) rfl ?_))))))
  rintro _ H0 ⟨rfl, h0⟩
  subst H0
  refine WL.mv rfl rfl (WL.ah (oj := _) rfl rfl rfl GC.t (V.move (OV.p rfl)) rfl (WL.ah (oj := _) rfl rfl rfl GC.t (V.geq (OV.g rfl id) (OV.p rfl)) rfl (WL.val (V.aD (OV.p rfl) (OV.g rfl id)) rfl (WL.mv rfl rfl (WL.ah (oj := _) rfl rfl rfl GC.t (V.move (OV.p rfl)) rfl (WL.ah (oj := _) rfl rfl rfl GC.t (V.move (OV.p rfl)) rfl (WL.ah (oj := _) rfl rfl rfl GC.t (V.nilCheck (OV.g rfl id)) rfl (WL.ah (oj := _) rfl rfl rfl GC.t (V.fieldAddr wW (OV.g rfl id)) rfl (WL.ah (oj := _) rfl rfl rfl GC.t (V.fieldAddr pJ (OV.g rfl id)) rfl ?_)))))))))
  refine WL.ah (oj := _) rfl rfl rfl GC.t (V.load Tryz.isAgg3 (OV.g rfl id) (fun _ => by repeat (first | exact Rd.here rfl | exact hR _ _ rfl | apply Rd.up))) rfl ?_
  refine WL.ah (oj := _) rfl rfl rfl GC.t (V.lss (OV.g rfl id) (OV.g rfl id)) rfl (WL.val (V.aD (OV.p rfl) (OV.g rfl id)) rfl (WL.sg rfl rfl (WL.nil (WC.ret ?_))))
  exact aj.ret (H' := F) (aL.tmp rfl rfl) (fun w h => by repeat (first | exact h | replace h := h.tail)) ⟨rfl, rfl⟩
theorem jl (v : Value) (b : Bool) : aG Tryz.prog 225 #[v, .bool b] K F (.int .i64 (ak.after b)) := by
  refine Does.enter Tryz.func225 rfl Tryz.ntmps225 rfl ?_
  simp only [aJ, Nat.reduceAdd]
  refine WC.sr (WL.sg rfl rfl (WL.nil (WC.seq (WC.sr (WL.mv rfl rfl (WL.nil ?_))))))
  refine WC.cond rfl (fun hc0 => ?_) (fun hc0 => ?_)
  ·try simp only [decide_eq_true_eq, decide_eq_false_iff_not, Bool.and_eq_true, Bool.or_eq_true, Bool.and_eq_false_iff, Bool.or_eq_false_iff, Bool.not_eq_true', Bool.not_eq_false', Bool.not_eq_true, Bool.not_eq_false, Int.not_lt, Int.not_le] at hc0
   refine WC.sr (WL.sg rfl rfl (WL.nil (WC.ret ?_)))
   exact aj.ret (H' := F) (aL.tmp rfl rfl) (fun w h => by repeat (first | exact h | replace h := h.tail)) ⟨by simp [ak.after, hc0], rfl⟩
  ·try simp only [decide_eq_true_eq, decide_eq_false_iff_not, Bool.and_eq_true, Bool.or_eq_true, Bool.and_eq_false_iff, Bool.or_eq_false_iff, Bool.not_eq_true', Bool.not_eq_false', Bool.not_eq_true, Bool.not_eq_false, Int.not_lt, Int.not_le] at hc0
   refine WC.skip (WC.sr (WL.sg rfl rfl (WL.nil (WC.ret ?_))))
   exact aj.ret (H' := F) (aL.tmp rfl rfl) (fun w h => by repeat (first | exact h | replace h := h.tail)) ⟨by simp [ak.after, hc0], rfl⟩
theorem vg (hl : 0 ≤ C.left ∧ C.left ≤ 9223372036854775807) : Does Tryz.prog 224 #[ptr bc 0] K (Cells bc 165 C.cells :: F) (fun v H' => v = .bool C.sem.cut ∧ H' = Cells bc 165 C.deed.cells :: F) := by
  dsimp only [Cw.cells]
  refine Does.enter Tryz.func224 rfl Tryz.ntmps224 rfl ?_
  simp only [aJ, Nat.reduceAdd]
  refine WC.sr (WL.sg rfl rfl (WL.nil (WC.seq (WC.sr (WL.mv rfl rfl (WL.nc rfl rfl (WL.val (V.fieldAddr qh (OV.p rfl)) rfl (WL.ld Tryz.isAgg3 rfl rfl ?_))))))))
  refine WL.val (V.eql (OV.p rfl) (OV.p rfl)) rfl (WL.nil ?_)
  refine WC.cond rfl (fun hc0 => ?_) (fun hc0 => ?_)
  ·simp only [decide_eq_true_eq, decide_eq_false_iff_not, Bool.and_eq_true, Bool.or_eq_true, Bool.and_eq_false_iff, Bool.or_eq_false_iff, Bool.not_eq_true', Bool.not_eq_false', Bool.not_eq_true, Bool.not_eq_false, Int.not_lt, Int.not_le] at hc0
   refine WC.sr (WL.sg rfl rfl (WL.nil (WC.ret ?_)))
   refine aj.ret (H' := Cells bc _ C.deed.cells :: F) (aL.tmp rfl rfl) (fun w h => Sat.aV h ?_) ⟨?_, rfl⟩
   · simp [Cw.deed, hc0]
   · simp [ak.cut, Cw.sem, hc0]
  ·simp only [decide_eq_true_eq, decide_eq_false_iff_not, Bool.and_eq_true, Bool.or_eq_true, Bool.and_eq_false_iff, Bool.or_eq_false_iff, Bool.not_eq_true', Bool.not_eq_false', Bool.not_eq_true, Bool.not_eq_false, Int.not_lt, Int.not_le] at hc0
   refine WC.skip (WC.sr (WL.mv rfl rfl (WL.nc rfl rfl (WL.val (V.fieldAddr qh (OV.p rfl)) rfl (WL.ld Tryz.isAgg3 rfl rfl ?_)))))
   refine WL.sb rfl rfl rfl ?_
   refine WL.nc rfl rfl (WL.val (V.fieldAddr qh (OV.p rfl)) rfl ?_)
   refine WL.store (cs := [_]) Tryz.sizeOf3 (OV.p rfl) (OV.p rfl) rfl rfl rfl (by repeat (first | exact aQ.here rfl rfl | apply aQ.up)) ?_
   refine WL.nil (WC.seq (WC.sr (WL.mv rfl rfl (WL.nc rfl rfl (WL.val (V.fieldAddr qh (OV.p rfl)) rfl (WL.ld Tryz.isAgg3 rfl rfl ?_))))))
   refine WL.val (V.eql (OV.p rfl) (OV.p rfl)) rfl (WL.nil ?_)
   refine WC.cond rfl (fun hc1 => ?_) (fun hc1 => ?_)
   ·simp only [decide_eq_true_eq, decide_eq_false_iff_not, Bool.and_eq_true, Bool.or_eq_true, Bool.and_eq_false_iff, Bool.or_eq_false_iff, Bool.not_eq_true', Bool.not_eq_false', Bool.not_eq_true, Bool.not_eq_false, Int.not_lt, Int.not_le] at hc1
    have h1 : C.left = 1 := by omega
    refine WC.region (WL.mv rfl rfl (WL.nc rfl rfl (WL.val (V.fieldAddr CV (OV.p rfl)) rfl ?_)))
    refine WL.store (cs := [_]) Tryz.sizeOf4 (OV.p rfl) (OV.p rfl) rfl rfl rfl (by repeat (first | exact aQ.here rfl rfl | apply aQ.up)) ?_
    refine WL.nil (WC.sr (WL.mv rfl rfl (WL.nc rfl rfl (WL.val (V.fieldAddr qh (OV.p rfl)) rfl (WL.ld Tryz.isAgg3 rfl rfl ?_)))))
    refine WL.val (V.eql (OV.p rfl) (OV.p rfl)) rfl (WL.sg rfl rfl (WL.nil (WC.ret ?_)))
    refine aj.ret (H' := Cells bc _ C.deed.cells :: F) (aL.tmp rfl rfl) (fun w h => Sat.aV h ?_) ⟨?_, rfl⟩
    · simp [Cw.deed, kP, h1, hc0]
    · simp [ak.cut, Cw.sem, h1]
      try omega
   ·simp only [decide_eq_true_eq, decide_eq_false_iff_not, Bool.and_eq_true, Bool.or_eq_true, Bool.and_eq_false_iff, Bool.or_eq_false_iff, Bool.not_eq_true', Bool.not_eq_false', Bool.not_eq_true, Bool.not_eq_false, Int.not_lt, Int.not_le] at hc1
    have h1 : C.left ≠ 1 := by omega
    refine WC.skip (WC.sr (WL.mv rfl rfl (WL.nc rfl rfl (WL.val (V.fieldAddr qh (OV.p rfl)) rfl (WL.ld Tryz.isAgg3 rfl rfl ?_)))))
    refine WL.val (V.eql (OV.p rfl) (OV.p rfl)) rfl (WL.sg rfl rfl (WL.nil (WC.ret ?_)))
    refine aj.ret (H' := Cells bc _ C.deed.cells :: F) (aL.tmp rfl rfl) (fun w h => Sat.aV h ?_) ⟨?_, rfl⟩
    · simp [Cw.deed, kP, h1, hc0]
    · simp [ak.cut, Cw.sem, h1]
      try omega
theorem yN (hm : C.g.aF) (hR : aT K F bc 0 C.cells) : Does Tryz.prog 222 #[ptr bc 0] K F (fun v H' => ∃ b, v = .slice (some ⟨b, 0, none⟩) C.g.raw.toNat C.g.raw.toNat ∧ H' = Cells b 5 (ints .u8 (List.replicate C.g.raw.toNat 255)) :: F) := by
  have hr := Geo.lX hm
  refine Does.enter Tryz.func222 rfl Tryz.ntmps222 rfl ?_
  simp only [aJ, Nat.reduceAdd]
  refine WC.sr (WL.sg rfl rfl (WL.nil (WC.sr (WL.mv rfl rfl (WL.nc rfl rfl (WL.val (V.fieldAddr Hf (OV.p rfl)) rfl ?_))))))
  refine WL.val (V.load Tryz.isAgg3 (OV.p rfl) (fun _ => by repeat (first | exact Rd.here rfl | exact hR _ _ rfl | apply Rd.up))) rfl ?_
  refine WL.l7 (m := C.g.raw.toNat) Tryz.underlying34 vP (OV.p rfl) (OV.p rfl) (by omega) (by omega) (by omega) rfl rfl rfl (fun b9 => ?_)
  refine WL.sg rfl rfl (WL.nil (WC.seq (WC.sr (WL.mv rfl rfl (WL.val (V.len (t := 34) Tryz.runUnderlying34 (OV.p rfl)) rfl (WL.mv rfl rfl (WL.nil (WC.block ?_))))))))
  refine WC.loop (σ := Nat) (fun i => [(3, .slice (some ⟨b9, 0, none⟩) C.g.raw.toNat C.g.raw.toNat), (11, .int .i64 (C.g.raw.toNat : Int)), (12, .int .i64 (i : Int))]) (fun i => Cells b9 5 (ints .u8 (List.replicate i 255 ++ List.replicate (C.g.raw.toNat - i) 0)) :: F) (fun i => i ≤ C.g.raw.toNat) (fun i => C.g.raw.toNat - i) 0 (Nat.zero_le _) (.cons rfl (.cons rfl (.cons rfl (.nil _)))) (fun w h => Sat.aV h (by simp [ints])) ?_
  rintro i hi
  refine WC.sr (WL.val (V.lss (OV.p rfl) (OV.p rfl)) rfl (WL.nil (WC.seq ?_)))
  refine WC.cond rfl (fun hc0 => ?_) (fun hc0 => ?_)
  ·try simp only [decide_eq_true_eq, decide_eq_false_iff_not, Bool.and_eq_true, Bool.or_eq_true, Bool.and_eq_false_iff, Bool.or_eq_false_iff, Bool.not_eq_true', Bool.not_eq_false', Bool.not_eq_true, Bool.not_eq_false, Int.not_lt, Int.not_le] at hc0
   refine WC.skip (WC.seq (WC.block (WC.sr (WL.mv rfl rfl (WL.sg rfl rfl (WL.nil (WC.region (WL.mv rfl rfl (WL.mv rfl rfl ?_)))))))))
   refine WL.val (V.bP dB (OV.p rfl) (OV.p rfl) (fun hc => by first | omega | (simp at hc; omega))) rfl ?_
   refine WL.store (cs := [_]) Tryz.sizeOf5 (OV.p rfl) (OV.p rfl) rfl rfl rfl (aQ.at_ (by simp [ints]; omega)) ?_
   refine WL.nil (WC.region (WL.ad rfl rfl rfl ?_))
   refine WL.mv rfl rfl (WL.nil ?_)
   refine ⟨rfl, ?_⟩
   refine ⟨i + 1, (by show i + 1 ≤ _; omega), (by show C.g.raw.toNat - (i + 1) < C.g.raw.toNat - i; omega), .cons rfl (.cons rfl (.cons (look_eq rfl (by simp)) (.nil _))), fun w h => Sat.aV h ?_⟩
   rw [show 0 + (i : Int).toNat * 1 = i by simp, ints_set, zk (by omega)]
  ·try simp only [decide_eq_true_eq, decide_eq_false_iff_not, Bool.and_eq_true, Bool.or_eq_true, Bool.and_eq_false_iff, Bool.or_eq_false_iff, Bool.not_eq_true', Bool.not_eq_false', Bool.not_eq_true, Bool.not_eq_false, Int.not_lt, Int.not_le] at hc0
   refine WC.exit (WC.sr (WL.mv rfl rfl (WL.sg rfl rfl (WL.nil (WC.ret ?_)))))
   obtain rfl : i = C.g.raw.toNat := by omega
   refine aj.ret (H' := Cells b9 _ _ :: F) (aL.tmp rfl rfl) (fun w h => Sat.aV h ?_) ⟨b9, rfl, rfl⟩
   simp
end
end Go.Proofs.YtcedojacbhnbiaaGreat
