import Derived.Test.YtcmojpiokjhmhaaGreatP32
namespace Go.Proofs.YtcmojpiokjhmhaaGreat
open Go.Sl Go.RowKit
set_option linter.unusedVariables false
set_option linter.unusedSimpArgs false
set_option maxRecDepth 20000
def um : Geo := ⟨5, 3, 1, 16, 1⟩
def Ce : List Nat := [100, 101, 102]
def OI : ah := ah.new um []
def Nu : St := gY OI 2
def Iq : ah × St × Int := aK OI Nu 0 Da
def ou : ah × St × Int := aK Iq.1 Iq.2.1 1 Ce
def DI : ah := qd ou.1 2 1 0 [3]
def J6 : ah × St × Int := bW [1] DI ou.2.1 1
set_option maxHeartbeats 4000000 in
theorem jf (K : World) (F : List ak) : aL Tryz.prog 33 #[] K F (.bool true) := by
  have qm : um.may = true := by kernel_rfl
  have l0 : ∀ l ∈ Nu.stale, l.length ≤ 1000000 := by
    have : Nu.stale = [[], []] := by kernel_rfl
    rw [this]; decide
  have x1 : Iq.2.2 = 0 := by kernel_rfl
  have l1 : ∀ l ∈ Iq.2.1.stale, l.length ≤ 1000000 := by
    have : Iq.2.1.stale = [[], []] := by kernel_rfl
    rw [this]; decide
  have x2 : ou.2.2 = 0 := by kernel_rfl
  have l2 : ∀ l ∈ ou.2.1.stale, l.length ≤ 1000000 := by
    have : ou.2.1.stale = [[], []] := by kernel_rfl
    rw [this]; decide
  have xs2 : ou.1.gV = 0 := by kernel_rfl
  have Ta : ou.2.1.stands.length = 2 := by kernel_rfl
  have x3 : gX DI ou.2.1 1 = (ou.2.1, [1], 0) := by kernel_rfl
  have UL : bN DI ou.2.1 1 = (⟨0, Ce, 1⟩, ou.2.1) := by kernel_rfl
  have x4 : J6.2.2 = 0 := by kernel_rfl
  have UO : J6.2.1.stands.length = 2 := by kernel_rfl
  have x5 : (gX J6.1 J6.2.1 1).2 = ([], 0) := by kernel_rfl
  have TP : Small 256 Da := by unfold Small; decide
  have BI : Small 256 Ce := by unfold Small; decide
  have hcan : ∀ k, k < ([1] : List Int).length → (bW [1] DI ou.2.1 k).2.2 = 0 → qH (bW [1] DI ou.2.1 k).1 (bW [1] DI ou.2.1 k).2.1 (([1] : List Int).getD k 0) := fun k hk _ => by
    obtain rfl : k = 0 := by
      have : k < 1 := hk
      omega
    show qH DI ou.2.1 1
    unfold qH
    rw [UL]
    exact fun _ => ⟨BI, by decide, l2⟩
  refine Does.enter Tryz.func33 rfl Tryz.ntmps33 rfl ?_
  simp only [aI, Nat.reduceAdd]
  refine WC.sr (WL.sg rfl rfl (WL.nil (WC.sr (WL.call (vs := []) Tryz.call69 trivial (HY _ _) rfl ?_))))
  rintro _ H0 ⟨rfl, h0⟩
  subst H0
  refine WL.call (vs := [_, _]) Tryz.call66 ⟨OV.p rfl, OV.p rfl, trivial⟩ (AZ (g := um) qm (aj := 2) (by decide) (by decide)) rfl ?_
  rintro _ _ ⟨bc, bd, bs, C0, T0, hC0, g0, hT0, s0, t0, rfl, rfl⟩
  have Rt : C0.sem = OI := s0
  have t0' : T0.sem = Nu := t0
  refine WL.mv rfl rfl (WL.xt rfl rfl rfl (WL.xt rfl rfl rfl (WL.xt rfl rfl rfl (WL.sg rfl rfl (WL.sg rfl rfl (WL.sg rfl rfl (WL.nil (WC.seq (WC.sr (WL.mv rfl rfl (WL.val (V.lQ Tryz.underlying33 (OV.p rfl) (OV.p rfl)) rfl (WL.mv rfl rfl (WL.known (oj := _) rfl rfl rfl rfl (WL.mv rfl rfl (WL.known (oj := _) rfl rfl rfl rfl ?_)))))))))))))))
  refine WL.buildSlice (E := 5) (cs := [_, _, _]) (vs := [(0, _), (1, _), (2, _)]) ⟨OV.p rfl, OV.p rfl, OV.p rfl, trivial⟩ rfl (sO _ _ _) rfl (fun Ny => ?_)
  refine WL.known (oj := _) rfl rfl rfl rfl (WL.zQ Tryz.underlying43 Tryz.underlying5 (OV.p rfl) rfl ?_)
  refine WL.sub (Sub.refl _) (fun w h => h.sel 4 [1, 2, 3, 0] rfl) ?_
  refine WL.known (oj := _) rfl rfl rfl rfl ?_
  refine WL.call (vs := [_, _, _]) Tryz.call18 ⟨OV.p rfl, OV.p rfl, OV.p rfl, trivial⟩ (kN hC0 g0 hT0 (aB := 0) (d := Da) (Seq.PW rfl : Seq K (jG Ny 5 (aA .u8 Da) :: F) (some ⟨Ny, 0, none⟩) 3 1 (aA .u8 Da)) TP (Nat.le_refl _) (by decide) (by rw [t0']; exact l0)) rfl ?_
  rintro v2 _ ⟨C2, T2, hC2, g2, nM, s2, t2, hv2, rfl⟩
  have s2' : C2.sem = Iq.1 := by rw [s2, Rt, t0']; rfl
  have t2' : T2.sem = Iq.2.1 := by rw [t2, Rt, t0']; rfl
  have RX : v2 = .int .i64 0 := by rw [hv2, Rt, t0']; exact congrArg (Value.int .i64) x1
  subst RX
  refine WL.known (oj := _) rfl rfl rfl rfl (WL.val (V.neq (OV.p rfl) (OV.p rfl)) rfl (WL.val (V.bH (OV.p rfl) (OV.p rfl)) rfl (WL.mv rfl rfl (WL.known (oj := _) rfl rfl rfl rfl (WL.mv rfl rfl (WL.known (oj := _) rfl rfl rfl rfl ?_))))))
  refine WL.buildSlice (E := 5) (cs := [_, _, _]) (vs := [(0, _), (1, _), (2, _)]) ⟨OV.p rfl, OV.p rfl, OV.p rfl, trivial⟩ rfl (sO _ _ _) rfl (fun J2 => ?_)
  refine WL.known (oj := _) rfl rfl rfl rfl (WL.zQ Tryz.underlying43 Tryz.underlying5 (OV.p rfl) rfl ?_)
  refine WL.sub (Sub.refl _) (fun w h => h.sel 5 [1, 2, 3, 0] rfl) ?_
  refine WL.known (oj := _) rfl rfl rfl rfl ?_
  refine WL.call (vs := [_, _, _]) Tryz.call18 ⟨OV.p rfl, OV.p rfl, OV.p rfl, trivial⟩ (kN hC2 g2 nM (aB := 1) (d := Ce) (Seq.PW rfl : Seq K (jG J2 5 (aA .u8 Ce) :: F) (some ⟨J2, 0, none⟩) 3 1 (aA .u8 Ce)) BI (Nat.le_refl _) (by decide) (by rw [t2']; exact l1)) rfl ?_
  rintro v3 _ ⟨C3, T3, Kr, g3, jO, s3, t3, hv3, rfl⟩
  have s3' : C3.sem = ou.1 := by rw [s3, s2', t2']; rfl
  have Ti : T3.sem = ou.2.1 := by rw [t3, s2', t2']; rfl
  have R5 : v3 = .int .i64 0 := by rw [hv3, s2', t2']; exact congrArg (Value.int .i64) x2
  subst R5
  have hl3 : T3.stands.length ≤ 1000 := by
    show T3.sem.stands.length ≤ 1000
    rw [Ti, Ta]; decide
  refine WL.known (oj := _) rfl rfl rfl rfl (WL.val (V.neq (OV.p rfl) (OV.p rfl)) rfl (WL.val (V.bH (OV.p rfl) (OV.p rfl)) rfl (WL.nil ?_)))
  refine WC.aQ rfl (by first | rfl | (simp; done) | (simp; omega)) ?_
  refine WC.skip (WC.sr (WL.mv rfl rfl (WL.mv rfl rfl ?_)))
  refine WL.buildSlice (E := 3) (cs := [_]) (vs := [(0, _)]) ⟨OV.p rfl, trivial⟩ rfl (bT _) rfl (fun T9 => ?_)
  refine WL.sub (H' := C3.A bc :: bK bd bc um :: Cells T9 3 [.int .i64 3] :: T3.A bs bd um :: F) (Sub.refl _) (fun w h => h.sel 5 [1, 2, 0, 3] rfl) ?_
  refine WL.call (vs := [_, _, _, _, _, _]) Tryz.call67 ⟨OV.p rfl, OV.p rfl, OV.p rfl, OV.p rfl, OV.p rfl, OV.p rfl, trivial⟩ (xR Kr g3 (by decide) (by rw [s3']; exact xs2) (aj := 2) (by decide) 1 0 (xs := [3]) (Seq.all rfl) (by decide)) rfl ?_
  rintro _ _ ⟨C4, M6, g4, s4, rfl⟩
  have Rf : C4.sem = DI := by rw [s4, s3']; rfl
  refine WL.nil (WC.sr (WL.mv rfl rfl ?_))
  refine WL.sub (H' := C4.A bc :: bK bd bc um :: T3.A bs bd um :: F) (Sub.refl _) (fun w h => h.sel 4 [0, 1, 3] rfl) ?_
  refine WL.call (vs := [_, _]) Tryz.call31 ⟨OV.p rfl, OV.p rfl, trivial⟩ (iW M6 g4 jO hl3 1) rfl ?_
  rintro _ _ ⟨A5, c5, T5, PZ, t5, rfl, rfl⟩
  rw [Rf, Ti, x3] at t5 ⊢
  have hl5 : T5.stands.length ≤ 1000 := by
    show T5.sem.stands.length ≤ 1000
    rw [t5, Ta]; decide
  refine WL.mv rfl rfl (WL.xt rfl rfl rfl (WL.xt rfl rfl rfl (WL.sg rfl rfl (WL.sg rfl rfl (WL.nil (WC.sr (WL.mv rfl rfl ?_)))))))
  refine WL.sub (Sub.refl _) (fun w h => h.sel 4 [1, 2, 3, 0] rfl) ?_
  refine WL.call (vs := [_, _]) Tryz.call32 ⟨OV.p rfl, OV.p rfl, trivial⟩ (xk M6 g4 PZ hl5 1 (T1 := ou.2.1) (l := [1]) (by rw [Rf, t5]; exact x3) (by rw [Rf]; exact hcan)) rfl ?_
  rintro _ _ ⟨A6, c6, n6, C6, T6, Rj, g6, SB, s6, t6, SN, Ii, rfl, rfl⟩
  rw [Rf] at s6 t6 Ii ⊢
  have UM : C6.sem = J6.1 := s6
  have Tg : T6.sem = J6.2.1 := t6
  obtain rfl : n6 = 1 := Ii x4
  rw [show (bW [1] DI ou.2.1 ([1] : List Int).length).2.2 = 0 from x4]
  have Uq : T6.stands.length ≤ 1000 := by
    show T6.sem.stands.length ≤ 1000
    rw [Tg, UO]; decide
  refine WL.mv rfl rfl (WL.xt rfl rfl rfl (WL.xt rfl rfl rfl (WL.sg rfl rfl (WL.sg rfl rfl (WL.nil (WC.sr (WL.mv rfl rfl ?_)))))))
  refine WL.sub (Sub.refl _) (fun w h => h.sel 5 [1, 2, 3, 0, 4] rfl) ?_
  refine WL.call (vs := [_, _]) Tryz.call31 ⟨OV.p rfl, OV.p rfl, trivial⟩ (iW Rj g6 SB Uq 1) rfl ?_
  rintro _ _ ⟨A7, c7, T7, Rz, t7, rfl, rfl⟩
  rw [UM, Tg, x5]
  refine WL.sub (H' := aU (.slice A6 1 c6) 3 1 1 (ints .i64 (([1] : List Int).take 1)) :: aU (.slice A5 1 c5) 3 1 1 (ints .i64 [1]) :: F) (Sub.refl _) (fun w h => h.sel 6 [4, 5] rfl) ?_
  refine WL.mv rfl rfl (WL.xt rfl rfl rfl (WL.xt rfl rfl rfl (WL.sg rfl rfl (WL.sg rfl rfl (WL.nil (WC.sr (WL.call (vs := [_, _]) Tryz.call31 ⟨OV.p rfl, OV.p rfl, trivial⟩ (BF 1) rfl ?_)))))))
  rintro _ H0 ⟨rfl, h0⟩
  subst H0
  refine WL.mv rfl rfl (WL.xt rfl rfl rfl (WL.xt rfl rfl rfl (WL.sg rfl rfl (WL.sg rfl rfl (WL.nil (WC.sr (WL.mv rfl rfl ?_)))))))
  refine WL.buildSlice (E := 3) (cs := [_]) (vs := [(0, _)]) ⟨OV.p rfl, trivial⟩ rfl (bT _) rfl (fun Vw => ?_)
  refine WL.call (vs := [_, _]) Tryz.call34 ⟨OV.p rfl, OV.p rfl, trivial⟩ (oF (xs := [1]) (ys := [1]) _ _ (by repeat (first | exact aU.seq rfl | apply Seq.up)) (Seq.all rfl) (by decide)) rfl ?_
  rintro _ H0 ⟨rfl, h0⟩
  subst H0
  refine WL.mv rfl rfl (WL.known (oj := _) rfl rfl rfl rfl (WL.mv rfl rfl (WL.known (oj := _) rfl rfl rfl rfl (WL.val (V.eql (OV.p rfl) (OV.p rfl)) rfl (WL.val (V.aJ (OV.p rfl) (OV.p rfl)) rfl (WL.mv rfl rfl (WL.known (oj := _) rfl rfl rfl rfl (WL.mv rfl rfl (WL.known (oj := _) rfl rfl rfl rfl ?_)))))))))
  refine WL.buildSlice (E := 3) (cs := [_]) (vs := [(0, _)]) ⟨OV.p rfl, trivial⟩ rfl (bT _) rfl (fun Vo => ?_)
  refine WL.known (oj := _) rfl rfl rfl rfl ?_
  refine WL.call (vs := [_, _]) Tryz.call34 ⟨OV.p rfl, OV.p rfl, trivial⟩ (oF (xs := [1]) (ys := [1]) _ _ (by repeat (first | exact aU.seq rfl | apply Seq.up)) (Seq.all rfl) (by decide)) rfl ?_
  rintro _ H0 ⟨rfl, h0⟩
  subst H0
  refine WL.val (V.aJ (OV.p rfl) (OV.p rfl)) rfl (WL.mv rfl rfl (WL.known (oj := _) rfl rfl rfl rfl (WL.mv rfl rfl (WL.known (oj := _) rfl rfl rfl rfl (WL.val (V.eql (OV.p rfl) (OV.p rfl)) rfl (WL.val (V.aJ (OV.p rfl) (OV.p rfl)) rfl (WL.mv rfl rfl (WL.known (oj := _) rfl rfl rfl rfl (WL.mv rfl rfl (WL.known (oj := _) rfl rfl rfl rfl (WL.val (V.len (t := 24) Tryz.runUnderlying24 (OV.p rfl)) rfl (WL.known (oj := _) rfl rfl rfl rfl (WL.val (V.eql (OV.p rfl) (OV.p rfl)) rfl (WL.val (V.aJ (OV.p rfl) (OV.p rfl)) rfl (WL.mv rfl rfl (WL.known (oj := _) rfl rfl rfl rfl (WL.mv rfl rfl (WL.known (oj := _) rfl rfl rfl rfl (WL.val (V.eql (OV.p rfl) (OV.p rfl)) rfl (WL.val (V.aJ (OV.p rfl) (OV.p rfl)) rfl (WL.mv rfl rfl (WL.known (oj := _) rfl rfl rfl rfl (WL.mv rfl rfl (WL.known (oj := _) rfl rfl rfl rfl (WL.val (V.eql (OV.p rfl) (OV.p rfl)) rfl (WL.val (V.aJ (OV.p rfl) (OV.p rfl)) rfl (WL.sg rfl rfl (WL.nil (WC.ret ?_)))))))))))))))))))))))))))))
  exact au.ret (H' := F) (aO.tmp rfl rfl) (fun w h => h.sel 4 [] rfl) ⟨rfl, rfl⟩
theorem zD (S : ah) (T : St) (limit : Int) (l : List Int) (n : Nat) (hl : ∀ j, j < n → l.getD j 0 = (G8 S T j : Int)) : ∀ k, k ≤ n → cK (lZ S T limit k) = fP l limit k
  | 0, _ => rfl
  | k + 1, hk => by
    have ih := zD S T limit l n hl k (by omega)
    rw [fP, ← ih, hl k (by omega)]
    unfold lZ cK
    rw [List.range_succ, List.filter_append, List.map_append]
    by_cases h : limit ≤ (G8 S T k : Int)
    · rw [if_pos h, List.filter_cons_of_pos (by rw [decide_eq_true h])]; rfl
    · rw [if_neg h, List.filter_cons_of_neg (by rw [decide_eq_false h]; decide)]
      rw [List.filter_nil, List.map_nil, List.append_nil]
theorem vw {g : Geo} {ss : List ByteArray} {q : Nat} (h : xV g ss q = true) : (1 ≤ ss.length ∧ ss.length < 12) ∧ g.aD ∧ g.cap ≤ 1000000 ∧ q ≤ 30 := by
  unfold xV at h
  simp only [Bool.and_eq_true, decide_eq_true_eq, List.all_eq_true] at h
  obtain ⟨⟨⟨⟨⟨⟨⟨hv, h32⟩, h12⟩, Rx⟩, hm1⟩, hm2⟩, hq⟩, hsz⟩ := h
  have Iw := Geo.mE hv
  have hcb := Geo.nT Iw
  exact ⟨by omega, Iw, by omega, by omega⟩
section
variable {K : World} {F : List ak} {g : Geo} {A B : Option Addr} {m cap q cap' : Nat} {ss : List ByteArray} {ws : List Wg}
theorem wm (limit : Int) (hs : Seq K F A m 1 (strs ss)) (hl : ss.length = m) (hw : Seq K F B q 4 (ws.map Wg.cells).flatten) (hwl : ws.length = q) :
    aL Tryz.prog 4 #[g.v, .slice A m cap, .slice B q cap', .int .i64 limit] K F (.bool true) := by
  refine Does.enter Tryz.func4 rfl Tryz.ntmps4 rfl ?_
  simp only [aI, Nat.reduceAdd]
  refine WC.sr ?_
  refine WL.box (cs := [_, _, _, _, _]) (OV.p rfl) rfl rfl (fun b4 => ?_)
  refine WL.sg rfl rfl (WL.nil (WC.seq (WC.sr ?_)))
  refine WL.val (V.bB (vs := [_, _, _, _, _]) ⟨Tryz.isAgg23, Tryz.sizeOf23⟩ (OV.p rfl) rfl (fun _ => by repeat (first | exact bD.gets ⟨rfl, rfl, rfl, rfl, rfl, trivial⟩ | apply bD.up))) rfl ?_
  refine WL.mv rfl rfl (WL.mv rfl rfl (WL.call (vs := [_, _, _]) Tryz.call29 ⟨OV.p rfl, OV.p rfl, OV.p rfl, trivial⟩ (nA g hs.up hl) rfl ?_))
  rintro _ H0 ⟨rfl, h0⟩
  subst H0
  refine WL.val (V.not (OV.p rfl)) rfl (WL.mv rfl rfl (WL.av (oj := _) rfl rfl rfl GC.f (V.move (OV.p rfl)) rfl (WL.av (oj := _) rfl rfl rfl GC.f (V.lss (OV.g rfl id) (OV.p rfl)) rfl (WL.val (V.bH (OV.p rfl) (OV.g rfl id)) rfl (WL.nil ?_)))))
  refine WC.cond rfl (fun hc0 => ?_) (fun hc0 => ?_)
  ·simp only [Bool.or_eq_true, Bool.or_eq_false_iff, decide_eq_true_eq, decide_eq_false_iff_not, Bool.not_eq_true', Bool.not_eq_false'] at hc0
   refine WC.sr (WL.sg rfl rfl (WL.nil (WC.ret ?_)))
   exact au.ret (H' := F) (aO.tmp rfl rfl) (fun w h => h.drop 1) ⟨rfl, rfl⟩
  ·simp only [Bool.or_eq_true, Bool.or_eq_false_iff, decide_eq_true_eq, decide_eq_false_iff_not, Bool.not_eq_true', Bool.not_eq_false'] at hc0
   obtain ⟨hmay, hlim⟩ := hc0
   obtain ⟨DF, Iw, hcp, NU⟩ := vw hmay
   rw [hl] at DF
   refine WC.skip (WC.sr ?_)
   refine WL.val (V.bB (vs := [_, _, _, _, _]) ⟨Tryz.isAgg23, Tryz.sizeOf23⟩ (OV.p rfl) rfl (fun _ => by repeat (first | exact bD.gets ⟨rfl, rfl, rfl, rfl, rfl, trivial⟩ | apply bD.up))) rfl ?_
   refine WL.mv rfl rfl (WL.mv rfl rfl (WL.call (vs := [_, _, _]) Tryz.call30 ⟨OV.p rfl, OV.p rfl, OV.p rfl, trivial⟩ (lH (ss := ss) (ws := ws) hs.up hl hw.up hwl hmay) rfl ?_))
   rintro _ _ ⟨bc, bd, bs, C, T, hC, hg, hT, hH, hl0, rfl, rfl⟩
   have hlen : T.stands.length ≤ 1000 := by
     have : T.sem.stands.length = m := hH.len
     have : T.stands.length = m := this
     omega
   have hF := qA ss m
   have hwn := hH.gX hF (show 1 ≤ limit by omega)
   obtain ⟨ls, hls⟩ : ∃ ls, ls = lZ C.sem T.sem limit m := ⟨_, rfl⟩
   rw [← hls] at hwn
   have hlm : ∀ i ∈ ls, i < m := fun i hi => by
     rw [hls] at hi
     exact List.mem_range.1 (List.mem_filter.1 hi).1
   have hll : (cK ls).length = ls.length := List.length_map _
   have O7 : ls.length ≤ m := by
     rw [hls]; unfold lZ
     exact Nat.le_trans (List.length_filter_le _ _) (by rw [List.length_range]; exact Nat.le_refl _)
   obtain ⟨k1, k2, k3, k4⟩ := hH.Jy hF (by omega) hl0 (show 1 ≤ limit by omega) hls
   have hcan : ∀ k, k < (cK ls).length → (bW (cK ls) C.sem T.sem k).2.2 = 0 → qH (bW (cK ls) C.sem T.sem k).1 (bW (cK ls) C.sem T.sem k).2.1 ((cK ls).getD k 0) := fun k hk _ => by
     rw [hll] at hk
     obtain ⟨_, _, e3, e4, _⟩ := hH.all hF (by omega) hl0 hlm O7 k (by omega)
     obtain ⟨i0, hi0⟩ : ∃ i0, ls[k]? = some i0 := ⟨_, List.getElem?_eq_getElem (by omega)⟩
     rw [show (cK ls).getD k 0 = (i0 : Int) by simp [cK, List.getD, hi0]]
     exact e4.K7 hF (by omega) (by rw [e3, show C.sem.g = g from hg]; exact hcp) (hlm i0 (List.mem_of_getElem? hi0))
   refine WL.mv rfl rfl (WL.xt rfl rfl rfl (WL.xt rfl rfl rfl (WL.xt rfl rfl rfl (WL.sg rfl rfl (WL.sg rfl rfl (WL.sg rfl rfl (WL.nil (WC.seq (WC.sr (WL.mv rfl rfl (WL.val (V.lQ Tryz.underlying33 (OV.p rfl) (OV.p rfl)) rfl (WL.nil ?_))))))))))))
   refine WC.aQ rfl (by first | rfl | (simp; done) | (simp; omega)) ?_
   refine WC.skip (WC.sr (WL.mv rfl rfl (WL.mv rfl rfl (WL.call (vs := [_, _]) Tryz.call31 ⟨OV.p rfl, OV.p rfl, trivial⟩ (iW hC hg hT hlen limit) rfl ?_))))
   rintro _ _ ⟨A5, c5, T5, PZ, t5, rfl, rfl⟩
   rw [hwn] at t5 ⊢
   dsimp only at t5 ⊢
   refine WL.mv rfl rfl (WL.xt rfl rfl rfl (WL.xt rfl rfl rfl (WL.sg rfl rfl (WL.sg rfl rfl (WL.nil (WC.sr (WL.mv rfl rfl (WL.mv rfl rfl ?_))))))))
   refine WL.sub (Sub.refl _) (fun w h => h.sel 4 [1, 2, 3, 0] rfl) ?_
   refine WL.call (vs := [_, _]) Tryz.call32 ⟨OV.p rfl, OV.p rfl, trivial⟩ (xk hC hg PZ (by show T5.sem.stands.length ≤ 1000; rw [t5]; exact hlen) limit (T1 := T.sem) (l := cK ls) (by rw [t5]; exact hwn) hcan) rfl ?_
   rintro _ _ ⟨A6, c6, n6, C6, T6, Rj, g6, SB, s6, t6, SN, Ii, rfl, rfl⟩
   rw [hll] at s6 t6 Ii ⊢
   rw [← s6, ← t6] at k3 k4
   obtain rfl : n6 = ls.length := Ii k1
   rw [k1]
   have Qi := k3.gX hF (show 1 ≤ limit by omega)
   rw [k4] at Qi
   refine WL.mv rfl rfl (WL.xt rfl rfl rfl (WL.xt rfl rfl rfl (WL.sg rfl rfl (WL.sg rfl rfl (WL.nil (WC.sr (WL.mv rfl rfl (WL.mv rfl rfl ?_))))))))
   refine WL.sub (Sub.refl _) (fun w h => h.sel 5 [1, 2, 3, 0, 4] rfl) ?_
   refine WL.call (vs := [_, _]) Tryz.call31 ⟨OV.p rfl, OV.p rfl, trivial⟩ (iW Rj g6 SB (by have : T6.sem.stands.length = m := k3.len; show T6.sem.stands.length ≤ 1000; omega) limit) rfl ?_
   rintro _ _ ⟨A7, c7, T7, Rz, t7, rfl, rfl⟩
   rw [Qi] at t7 ⊢
   dsimp only at t7 ⊢
   refine WL.mv rfl rfl (WL.xt rfl rfl rfl (WL.xt rfl rfl rfl (WL.sg rfl rfl (WL.sg rfl rfl (WL.nil (WC.seq ?_))))))
   refine WC.sub (H' := C6.A bc :: bK bd bc g :: T7.A bs bd g :: aU (.slice A6 ls.length c6) 3 1 ls.length (ints .i64 ((cK ls).take ls.length)) :: aU (.slice A5 ls.length c5) 3 1 ls.length (ints .i64 (cK ls)) :: F) (Sub.refl _) (fun w h => h.sel 7 [1, 2, 3, 4, 5] rfl) ?_
   refine WC.region (WL.call (vs := []) Tryz.call33 trivial (jf _ _) rfl ?_)
   rintro _ H0 ⟨rfl, h0⟩
   subst H0
   refine WL.mv rfl rfl (WL.known (oj := _) rfl rfl rfl rfl (WL.mv rfl rfl (WL.known (oj := _) rfl rfl rfl rfl (WL.val (V.eql (OV.p rfl) (OV.p rfl)) rfl (WL.val (V.aJ (OV.p rfl) (OV.p rfl)) rfl (WL.mv rfl rfl (WL.known (oj := _) rfl rfl rfl rfl (WL.mv rfl rfl (WL.known (oj := _) rfl rfl rfl rfl (WL.mv rfl rfl (WL.known (oj := _) rfl rfl rfl rfl (WL.val (V.eql (OV.p rfl) (OV.p rfl)) rfl (WL.val (V.aJ (OV.p rfl) (OV.p rfl)) rfl (WL.mv rfl rfl (WL.known (oj := _) rfl rfl rfl rfl (WL.mv rfl rfl (WL.known (oj := _) rfl rfl rfl rfl (WL.mv rfl rfl (WL.known (oj := _) rfl rfl rfl rfl (WL.val (V.eql (OV.p rfl) (OV.p rfl)) rfl (WL.val (V.aJ (OV.p rfl) (OV.p rfl)) rfl (WL.mv rfl rfl (WL.known (oj := _) rfl rfl rfl rfl (WL.mv rfl rfl (WL.known (oj := _) rfl rfl rfl rfl (WL.mv rfl rfl (WL.known (oj := _) rfl rfl rfl rfl ?_)))))))))))))))))))))))))))
   refine WL.call (vs := [_, _]) Tryz.call34 ⟨OV.p rfl, OV.p rfl, trivial⟩ (aL.eq (oF (xs := cK ls) (ys := (cK ls).take ls.length) _ _ (by repeat (first | exact aU.seq (by rw [aG, hll, Nat.mul_one]) | apply Seq.up)) (by repeat (first | exact aU.seq (by rw [aG, List.length_take, hll, Nat.min_self, Nat.mul_one]) | apply Seq.up)) (by omega)) (v' := .bool true) (by rw [← hll, List.take_length]; simp)) rfl ?_
   rintro _ H0 ⟨rfl, h0⟩
   subst H0
   refine WL.val (V.aJ (OV.p rfl) (OV.p rfl)) rfl (WL.mv rfl rfl (WL.known (oj := _) rfl rfl rfl rfl (WL.mv rfl rfl (WL.known (oj := _) rfl rfl rfl rfl (WL.val (V.len (t := 24) Tryz.runUnderlying24 (OV.p rfl)) rfl (WL.known (oj := _) rfl rfl rfl rfl (WL.val (V.eql (OV.p rfl) (OV.p rfl)) rfl (WL.val (V.aJ (OV.p rfl) (OV.p rfl)) rfl (WL.mv rfl rfl (WL.known (oj := _) rfl rfl rfl rfl (WL.mv rfl rfl (WL.known (oj := _) rfl rfl rfl rfl (WL.mv rfl rfl (WL.known (oj := _) rfl rfl rfl rfl ?_))))))))))))))
   refine WL.call (vs := [_, _]) Tryz.call35 ⟨OV.p rfl, OV.p rfl, trivial⟩ (wN (ss := ss) (n := m + m) Rj g6 Rz (by repeat (first | exact hs | apply Seq.up)) hl (by rw [t7]; exact k3)) rfl ?_
   rintro _ _ ⟨rfl, T8, U7, t8, rfl⟩
   refine WL.val (V.aJ (OV.p rfl) (OV.p rfl)) rfl (WL.sg rfl rfl (WL.nil (WC.ret ?_)))
   exact au.ret (H' := F) (aO.tmp rfl rfl) (fun w h => h.sel 5 [] rfl) ⟨rfl, rfl⟩
theorem bS.QF {aj n : Nat} {S : ah} {T : St} {mm : Lm} (h : bS aj n S T mm) : ∀ l ∈ T.stale, l.length ≤ 256 + n := fun l hl => by
  obtain ⟨st, hI⟩ := h.si
  exact hI.long l hl
theorem LD {aj n : Nat} {S : ah} {T : St} {mm : Lm} (h : bS aj n S T mm) {aB : Int} (hin : ¬ (0 ≤ aB ∧ aB < (aj : Int))) : kE S T aB = (S, T, 1) ∧ qH S T aB := by
  obtain ⟨st, hI⟩ := h.si
  have hr : T.ready aB = 1 := by
    unfold St.ready
    rw [hI.dead, if_neg Bool.false_ne_true, hI.len, if_pos (by omega)]
  have hrd : bN S T aB = (⟨1, [], 0⟩, T) := by
    unfold bN
    rw [hr, if_pos (by decide)]
  refine ⟨?_, fun he => ?_⟩
  · unfold kE
    rw [hrd, if_pos (show (1 : Int) ≠ 0 by decide)]
  · rw [hrd] at he; exact absurd he (by show ¬ (1 : Int) = 0; decide)
set_option maxHeartbeats 1000000 in
theorem xg (aB : Int) (hs : Seq K F A m 1 (strs ss)) (hl : ss.length = m) :
    aL Tryz.prog 7 #[g.v, .slice A m cap, .int .i64 aB] K F (.bool true) := by
  by_cases hin : 0 ≤ aB ∧ aB < (m : Int)
  rotate_left
  · skip
    refine Does.enter Tryz.func7 rfl Tryz.ntmps7 rfl ?_
    simp only [aI, Nat.reduceAdd]
    refine WC.sr ?_
    refine WL.box (cs := [_, _, _, _, _]) (OV.p rfl) rfl rfl (fun b3 => ?_)
    refine WL.sg rfl rfl (WL.nil (WC.seq (WC.sr ?_)))
    refine WL.val (V.bB (vs := [_, _, _, _, _]) ⟨Tryz.isAgg23, Tryz.sizeOf23⟩ (OV.p rfl) rfl (fun _ => by repeat (first | exact bD.gets ⟨rfl, rfl, rfl, rfl, rfl, trivial⟩ | apply bD.up))) rfl ?_
    refine WL.mv rfl rfl (WL.call (vs := [_, _, _]) Tryz.call29 ⟨OV.p rfl, OV.p rfl, OV.p rfl, trivial⟩ (nA g hs.up hl) rfl ?_)
    rintro _ H0 ⟨rfl, h0⟩
    subst H0
    refine WL.val (V.not (OV.p rfl)) rfl (WL.nil ?_)
    refine WC.cond rfl (fun hc0 => ?_) (fun hc0 => ?_)
    ·simp only [Bool.not_eq_true', Bool.not_eq_false'] at hc0
     refine WC.sr (WL.sg rfl rfl (WL.nil (WC.ret ?_)))
     exact au.ret (H' := F) (aO.tmp rfl rfl) (fun w h => h.drop 1) ⟨rfl, rfl⟩
    ·simp only [Bool.not_eq_true', Bool.not_eq_false'] at hc0
     have hmay := hc0
     obtain ⟨DF, Iw, hcp, NU⟩ := vw hmay
     rw [hl] at DF
     refine WC.skip (WC.sr ?_)
     refine WL.val (V.bB (vs := [_, _, _, _, _]) ⟨Tryz.isAgg23, Tryz.sizeOf23⟩ (OV.p rfl) rfl (fun _ => by repeat (first | exact bD.gets ⟨rfl, rfl, rfl, rfl, rfl, trivial⟩ | apply bD.up))) rfl ?_
     refine WL.mv rfl rfl (WL.call (vs := [_, _, _]) Tryz.call30 ⟨OV.p rfl, OV.p rfl, OV.p rfl, trivial⟩ (lH (ss := ss) (ws := []) hs.up hl (Seq.nil : Seq _ _ none 0 4 []) rfl hmay) rfl ?_)
     rintro _ _ ⟨bc, bd, bs, C, T, hC, hg, hT, hH, hl0, rfl, rfl⟩
     obtain ⟨hmv, hcn⟩ := LD hH hin
     refine WL.mv rfl rfl (WL.xt rfl rfl rfl (WL.xt rfl rfl rfl (WL.xt rfl rfl rfl (WL.sg rfl rfl (WL.sg rfl rfl (WL.sg rfl rfl (WL.nil (WC.seq (WC.sr (WL.mv rfl rfl (WL.val (V.lQ Tryz.underlying33 (OV.p rfl) (OV.p rfl)) rfl (WL.nil ?_))))))))))))
     refine WC.aQ rfl (by first | rfl | (simp; done) | (simp; omega)) ?_
     refine WC.skip (WC.sr (WL.mv rfl rfl (WL.mv rfl rfl (WL.call (vs := [_, _]) Tryz.call42 ⟨OV.p rfl, OV.p rfl, trivial⟩ (nN hC hg hT aB hcn) rfl ?_))))
     rintro _ _ ⟨C2, T2, hC2, g2, nM, s2, t2, rfl, rfl⟩
     rw [hmv]
     refine WL.sg rfl rfl (WL.nil (WC.seq (WC.sr (WL.mv rfl rfl (WL.val (V.lss (OV.p rfl) (OV.p rfl)) rfl (WL.mv rfl rfl (WL.av (oj := _) rfl rfl rfl GC.f (V.move (OV.p rfl)) rfl (WL.av (oj := _) rfl rfl rfl GC.f (V.move (OV.p rfl)) rfl (WL.av (oj := _) rfl rfl rfl GC.f (V.len (t := 38) Tryz.runUnderlying38 (OV.g rfl id)) rfl (WL.av (oj := _) rfl rfl rfl GC.f (V.geq (OV.g rfl id) (OV.g rfl id)) rfl (WL.val (V.bH (OV.p rfl) (OV.g rfl id)) rfl (WL.nil ?_))))))))))))
     refine WC.dV rfl ((by simp; omega)) ?_
     refine WC.sr (WL.call (vs := []) Tryz.call33 trivial (jf _ _) rfl ?_)
     rintro _ H0 ⟨rfl, h0⟩
     subst H0
     refine WL.mv rfl rfl (WL.av (oj := _) rfl rfl rfl GC.t (V.move (OV.p rfl)) rfl (WL.av (oj := _) rfl rfl rfl GC.t (V.eql (OV.g rfl id) (OV.p rfl)) rfl (WL.val (V.aJ (OV.p rfl) (OV.g rfl id)) rfl (WL.mv rfl rfl (WL.av (oj := _) rfl rfl rfl GC.t (V.move (OV.p rfl)) rfl ?_)))))
     refine WL.oV (oj := _) (vs := [_, _]) rfl rfl rfl GC.t Tryz.call42 ⟨OV.p rfl, OV.g rfl id, trivial⟩ (fun hg => BH aB) rfl ?_
     refine WL.av (oj := _) rfl rfl rfl GC.t (V.eql (OV.g rfl id) (OV.p rfl)) rfl (WL.val (V.aJ (OV.p rfl) (OV.g rfl id)) rfl (WL.sg rfl rfl (WL.nil (WC.ret ?_))))
     exact au.ret (H' := F) (aO.tmp rfl rfl) (fun w h => h.sel 4 [] rfl) ⟨rfl, rfl⟩
  · skip
    refine Does.enter Tryz.func7 rfl Tryz.ntmps7 rfl ?_
    simp only [aI, Nat.reduceAdd]
    refine WC.sr ?_
    refine WL.box (cs := [_, _, _, _, _]) (OV.p rfl) rfl rfl (fun b3 => ?_)
    refine WL.sg rfl rfl (WL.nil (WC.seq (WC.sr ?_)))
    refine WL.val (V.bB (vs := [_, _, _, _, _]) ⟨Tryz.isAgg23, Tryz.sizeOf23⟩ (OV.p rfl) rfl (fun _ => by repeat (first | exact bD.gets ⟨rfl, rfl, rfl, rfl, rfl, trivial⟩ | apply bD.up))) rfl ?_
    refine WL.mv rfl rfl (WL.call (vs := [_, _, _]) Tryz.call29 ⟨OV.p rfl, OV.p rfl, OV.p rfl, trivial⟩ (nA g hs.up hl) rfl ?_)
    rintro _ H0 ⟨rfl, h0⟩
    subst H0
    refine WL.val (V.not (OV.p rfl)) rfl (WL.nil ?_)
    refine WC.cond rfl (fun hc0 => ?_) (fun hc0 => ?_)
    ·simp only [Bool.not_eq_true', Bool.not_eq_false'] at hc0
     refine WC.sr (WL.sg rfl rfl (WL.nil (WC.ret ?_)))
     exact au.ret (H' := F) (aO.tmp rfl rfl) (fun w h => h.drop 1) ⟨rfl, rfl⟩
    ·simp only [Bool.not_eq_true', Bool.not_eq_false'] at hc0
     have hmay := hc0
     obtain ⟨DF, Iw, hcp, NU⟩ := vw hmay
     rw [hl] at DF
     obtain ⟨i0, rfl⟩ : ∃ i0 : Nat, aB = (i0 : Int) := ⟨aB.toNat, by omega⟩
     have hi0 : i0 < m := by omega
     refine WC.skip (WC.sr ?_)
     refine WL.val (V.bB (vs := [_, _, _, _, _]) ⟨Tryz.isAgg23, Tryz.sizeOf23⟩ (OV.p rfl) rfl (fun _ => by repeat (first | exact bD.gets ⟨rfl, rfl, rfl, rfl, rfl, trivial⟩ | apply bD.up))) rfl ?_
     refine WL.mv rfl rfl (WL.call (vs := [_, _, _]) Tryz.call30 ⟨OV.p rfl, OV.p rfl, OV.p rfl, trivial⟩ (lH (ss := ss) (ws := []) hs.up hl (Seq.nil : Seq _ _ none 0 4 []) rfl hmay) rfl ?_)
     rintro _ _ ⟨bc, bd, bs, C, T, hC, hg, hT, hH, hl0, rfl, rfl⟩
     have hF := qA ss m
     have hcn := hH.K7 hF (by omega) (by rw [show C.sem.g = g from hg]; exact hcp) hi0
     have hmv := hH.move hF hi0
     obtain ⟨_, _, h8, hlc⟩ := hH.read hi0 (hF i0 hi0)
     obtain ⟨c1, c2, c3⟩ := hH.change (by omega) hi0 h8 hlc
     obtain ⟨c4, c5⟩ := c2 hl0
     have hH2 : bS m (m + 1) (kE C.sem T.sem (i0 : Int)).1 (kE C.sem T.sem (i0 : Int)).2.1 (su ss m) := by
       rw [hmv]
       rcases c3 with ⟨_, h, _⟩ | ⟨h, _⟩
       · rw [Lm.vo (hF i0 hi0)] at h; exact h
       · rw [c5] at h; exact absurd h (by decide)
     rw [← hmv] at c4 c5
     refine WL.mv rfl rfl (WL.xt rfl rfl rfl (WL.xt rfl rfl rfl (WL.xt rfl rfl rfl (WL.sg rfl rfl (WL.sg rfl rfl (WL.sg rfl rfl (WL.nil (WC.seq (WC.sr (WL.mv rfl rfl (WL.val (V.lQ Tryz.underlying33 (OV.p rfl) (OV.p rfl)) rfl (WL.nil ?_))))))))))))
     refine WC.aQ rfl (by first | rfl | (simp; done) | (simp; omega)) ?_
     refine WC.skip (WC.sr (WL.mv rfl rfl (WL.mv rfl rfl (WL.call (vs := [_, _]) Tryz.call42 ⟨OV.p rfl, OV.p rfl, trivial⟩ (nN hC hg hT (i0 : Int) hcn) rfl ?_))))
     rintro _ _ ⟨C2, T2, hC2, g2, nM, s2, t2, rfl, rfl⟩
     rw [← s2, ← t2] at hH2
     rw [← s2] at c4
     rw [c5]
     have hlong := hH2.QF
     refine WL.sg rfl rfl (WL.nil (WC.seq (WC.sr (WL.mv rfl rfl (WL.val (V.lss (OV.p rfl) (OV.p rfl)) rfl (WL.mv rfl rfl (WL.av (oj := _) rfl rfl rfl GC.f (V.move (OV.p rfl)) rfl (WL.av (oj := _) rfl rfl rfl GC.f (V.move (OV.p rfl)) rfl (WL.av (oj := _) rfl rfl rfl GC.f (V.len (t := 38) Tryz.runUnderlying38 (OV.g rfl id)) rfl (WL.av (oj := _) rfl rfl rfl GC.f (V.geq (OV.g rfl id) (OV.g rfl id)) rfl (WL.val (V.bH (OV.p rfl) (OV.g rfl id)) rfl (WL.nil ?_))))))))))))
     refine WC.aQ rfl ((by simp; omega)) ?_
     refine WC.skip (WC.seq (WC.sr (WL.mv rfl rfl (WL.val (V.neq (OV.p rfl) (OV.p rfl)) rfl (WL.mv rfl rfl (WL.known (oj := _) rfl rfl rfl rfl (WL.mv rfl rfl (WL.known (oj := _) rfl rfl rfl rfl (WL.mv rfl rfl (WL.known (oj := _) rfl rfl rfl rfl ?_))))))))))
     refine WL.call (vs := [_, _]) Tryz.call35 ⟨OV.p rfl, OV.p rfl, trivial⟩ (wN (ss := ss) (n := m + 1) hC2 g2 nM (by repeat (first | exact hs | apply Seq.up)) hl hH2) rfl ?_
     rintro _ _ ⟨rfl, T3, jO, t3, rfl⟩
     rw [← t3] at hH2 hlong
     obtain ⟨st2, Sm⟩ := hH2.si
     obtain ⟨r1, r2, r3, r4, r5, r6, r7⟩ := ah.HV Sm hH2.up hi0
     have hun : (dh C2.sem T3.sem (i0 : Int)).2.2 = 0 ∧ bN (dh C2.sem T3.sem (i0 : Int)).1 (dh C2.sem T3.sem (i0 : Int)).2.1 (i0 : Int) = (⟨5, [], 0⟩, (dh C2.sem T3.sem (i0 : Int)).2.1) := by
       rcases r7 with ⟨q1, q2, st', q3⟩ | ⟨q1, _⟩
       · exact ⟨q1, (q3.Jj hi0 (show (if i0 = i0 then none else _) = none from if_pos rfl)).1⟩
       · exact absurd q1 (r4 c4).2
     refine WL.known (oj := _) rfl rfl rfl rfl (WL.val (V.not (OV.p rfl)) rfl (WL.val (V.bH (OV.p rfl) (OV.p rfl)) rfl (WL.mv rfl rfl (WL.known (oj := _) rfl rfl rfl rfl (WL.mv rfl rfl (WL.known (oj := _) rfl rfl rfl rfl (WL.mv rfl rfl (WL.known (oj := _) rfl rfl rfl rfl ?_))))))))
     refine WL.call (vs := [_, _]) Tryz.call22 ⟨OV.p rfl, OV.p rfl, trivial⟩ (EH hC2 g2 jO (i0 : Int) (fun l hl => Nat.le_trans (hlong l hl) (by omega))) rfl ?_
     rintro _ _ ⟨C4, T4, M6, g4, PY, s4, t4, rfl, rfl⟩
     rw [hun.1]
     have hrd := hun.2
     rw [← s4, ← t4] at hrd
     have Sg : (kE C4.sem T4.sem (i0 : Int)).2.2 = 5 := by
       unfold kE
       rw [hrd, if_pos (show (5 : Int) ≠ 0 by decide)]
     have Si : qH C4.sem T4.sem (i0 : Int) := fun he => by rw [hrd] at he; exact absurd he (by show ¬ (5 : Int) = 0; decide)
     refine WL.known (oj := _) rfl rfl rfl rfl (WL.val (V.neq (OV.p rfl) (OV.p rfl)) rfl (WL.val (V.bH (OV.p rfl) (OV.p rfl)) rfl (WL.nil ?_)))
     refine WC.aQ rfl (by first | rfl | (simp; done) | (simp; omega)) ?_
     refine WC.skip (WC.sr (WL.call (vs := []) Tryz.call33 trivial (jf _ _) rfl ?_))
     rintro _ H0 ⟨rfl, h0⟩
     subst H0
     refine WL.mv rfl rfl (WL.known (oj := _) rfl rfl rfl rfl (WL.mv rfl rfl (WL.known (oj := _) rfl rfl rfl rfl (WL.mv rfl rfl (WL.known (oj := _) rfl rfl rfl rfl (WL.call (vs := [_, _]) Tryz.call42 ⟨OV.p rfl, OV.p rfl, trivial⟩ (nN M6 g4 PY (i0 : Int) Si) rfl ?_))))))
     rintro _ _ ⟨C5, T5, Vf, g5, PZ, s5, t5, rfl, rfl⟩
     rw [Sg]
     refine WL.known (oj := _) rfl rfl rfl rfl (WL.val (V.eql (OV.p rfl) (OV.p rfl)) rfl (WL.val (V.aJ (OV.p rfl) (OV.p rfl)) rfl (WL.sg rfl rfl (WL.nil (WC.ret ?_)))))
     exact au.ret (H' := F) (aO.tmp rfl rfl) (fun w h => h.sel 4 [] rfl) ⟨rfl, rfl⟩
end
end Go.Proofs.YtcmojpiokjhmhaaGreat
