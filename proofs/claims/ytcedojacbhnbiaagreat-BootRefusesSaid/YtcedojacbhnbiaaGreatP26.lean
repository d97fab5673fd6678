import Derived.Test.YtcedojacbhnbiaaGreatP25
namespace Go.Proofs.YtcedojacbhnbiaaGreat
open Go.Sl Go.RowKit
set_option linter.unusedVariables false
set_option linter.unusedSimpArgs false
set_option maxRecDepth 20000
section
variable {bs bd bc : Nat} {g : Geo} {T : bI} {C : Cw} {K : World} {F : List au}
set_option maxHeartbeats 1000000 in
theorem Ci (hC : C.Ok) (hg : C.g = g) (hT : T.Ok g) {aI : Int} {A : Option Addr} {m cap : Nat} {d : List Nat} (hd : Seq K F A m 1 (aB .u8 d)) (h8 : Small 256 d) (hmc : m ≤ cap) (hm : m ≤ 1000000) (hlong : ∀ l ∈ T.sem.stale, l.length ≤ 1000000) :
    Does Tryz.prog 16 #[ptr bs 0, .int .i64 aI, .slice A m cap] K (C.A bc :: bQ bd bc g :: T.A bs bd g :: F)
    (fun v H' => ∃ (C' : Cw) (T' : bI), C'.Ok ∧ C'.g = g ∧ T'.Ok g ∧ C'.sem = (aX C.sem T.sem aI d).1 ∧ T'.sem = (aX C.sem T.sem aI d).2.1 ∧ v = .int .i64 (aX C.sem T.sem aI d).2.2 ∧ H' = C'.A bc :: bQ bd bc g :: T'.A bs bd g :: F) := by
  have hgm : g.aF := by rw [← hg]; exact hC.aF
  have hgs : C.sem.g = g := hg
  have hgb := hgm
  unfold Geo.aF at hgb
  have hdl : d.length = m := by simpa [aB] using hd.len
  have hcb := Geo.rC hgm
  obtain ⟨n, hn⟩ : ∃ n : Nat, g.bl = (n : Int) := ⟨g.bl.toNat, by omega⟩
  have hnn : g.bl.toNat = n := by omega
  obtain ⟨R, hR⟩ : ∃ R, R = aX C.sem T.sem aI d := ⟨_, rfl⟩
  rw [← hR]
  unfold aX at hR
  rw [hgs, hdl] at hR
  obtain ⟨L, hL⟩ : ∃ L, L = gq aI d (ig C.sem.good T.sem.stands T.sem.at_ g.bl g.bl.toNat 0) C.sem T.sem := ⟨_, rfl⟩
  rw [← hL] at hR
  have hin : T.sem.ready aI = 0 → 0 ≤ aI ∧ aI < T.stands.length := fun h => by
    unfold St.ready bI.sem at h
    dsimp only at h
    split at h
    · cases h
    · split at h
      · cases h
      · omega
  refine Does.KQ Tryz.func16 rfl Tryz.ntmps16 rfl ?_
  simp only [aJ, Nat.reduceAdd]
  refine WC.sr ?_
  refine WL.box (cs := [_]) (OV.p rfl) rfl rfl (fun b3 => ?_)
  refine WL.box (cs := [_]) (OV.p rfl) rfl rfl (fun b4 => ?_)
  refine WL.box (cs := [_]) (OV.p rfl) rfl rfl (fun b5 => ?_)
  refine WL.alloc (cs := [(.int .i64 0)]) Tryz.zeroValue32 rfl rfl (fun b6 => ?_)
  refine WL.nil (WC.seq (WC.seq ?_))
  refine WC.sub (H' := T.A bs bd g :: C.A bc :: bQ bd bc g :: Cells b6 32 [.int .i64 0] :: Cells b5 34 [.slice A m cap] :: Cells b4 3 [.int .i64 aI] :: Cells b3 28 [ptr bs 0] :: F) (Sub.refl _) (fun w h => h.sel 7 [6, 4, 5, 0, 1, 2, 3] rfl) ?_
  refine WC.region (WL.ld Tryz.isAgg28 rfl rfl ?_)
  refine WL.ld Tryz.isAgg3 rfl rfl ?_
  refine WL.call (vs := [_, _]) Tryz.call61 ⟨OV.p rfl, OV.p rfl, trivial⟩ (nX aI) rfl ?_
  rintro _ H0 ⟨rfl, h0⟩
  subst H0
  refine WL.sg rfl rfl (WL.nil (WC.sr (WL.mv rfl rfl (WL.val (V.neq (OV.p rfl) (OV.p rfl)) rfl (WL.nil ?_)))))
  refine WC.cond rfl (fun hc0 => ?_) (fun hc0 => ?_)
  ·simp only [Bool.not_eq_true', Bool.not_eq_false', decide_eq_true_eq, decide_eq_false_iff_not] at hc0
   have h0 := hc0
   rw [if_pos h0] at hR
   refine WC.sr (WL.mv rfl rfl ?_)
   refine WL.store (cs := [_]) Tryz.sizeOf32 (OV.p rfl) (OV.p rfl) rfl rfl rfl (by repeat (first | exact aQ.here (cs' := [_]) rfl rfl | apply aQ.up)) ?_
   refine WL.nil (WC.ret ?_)
   subst hR
   exact je.ret (H' := C.A bc :: bQ bd bc g :: T.A bs bd g :: F) (aL.one rfl (R1.cell1 rfl Tryz.isAgg32 (by repeat (first | exact Rd.here rfl | apply Rd.up)))) (fun w h => h.sel 7 [1, 2, 0] rfl) ⟨C, T, hC, hg, hT, rfl, rfl, rfl, rfl⟩
  ·simp only [Bool.not_eq_true', Bool.not_eq_false', decide_eq_true_eq, decide_eq_false_iff_not] at hc0
   have h0 := hc0
   have hr0 : T.sem.ready aI = 0 := by omega
   rw [if_neg (fun h => h hr0)] at hR
   have hinl := hin hr0
   refine WC.skip (WC.seq (WC.block (WC.seq ?_)))
   refine WC.fK (by kernel_rfl) (by kernel_rfl) ?_
   refine WQ.val (V.load Tryz.isAgg34 (OV.p rfl) (fun _ => by repeat (first | exact Rd.here rfl | apply Rd.up))) rfl ?_
   refine WQ.val (V.len (t := 34) Tryz.runUnderlying34 (OV.p rfl)) rfl ?_
   refine WQ.val (V.load Tryz.isAgg28 (OV.p rfl) (fun _ => by repeat (first | exact Rd.here rfl | apply Rd.up))) rfl ?_
   refine WQ.call (vs := [_]) Tryz.call50 ⟨OV.p rfl, trivial⟩ (I7 hgm) rfl (WQ.val (V.gtr (OV.p rfl) (OV.p rfl)) rfl (WQ.val (V.assign (OV.p rfl)) rfl (WQ.nil ?_)))
   refine WC.cond rfl (fun hc1 => ?_) (fun hc1 => ?_)
   ·simp only [Bool.not_eq_true', Bool.not_eq_false', decide_eq_true_eq, decide_eq_false_iff_not] at hc1
    have h1 := hc1
    rw [if_pos (by omega)] at hR
    refine WC.sr ?_
    refine WL.store (cs := [_]) Tryz.sizeOf32 (OV.p rfl) (OV.p rfl) rfl rfl rfl (by repeat (first | exact aQ.here (cs' := [_]) rfl rfl | apply aQ.up)) ?_
    refine WL.nil (WC.ret ?_)
    subst hR
    exact je.ret (H' := C.A bc :: bQ bd bc g :: T.A bs bd g :: F) (aL.one rfl (R1.cell1 rfl Tryz.isAgg32 (by repeat (first | exact Rd.here rfl | apply Rd.up)))) (fun w h => h.sel 7 [1, 2, 0] rfl) ⟨C, T, hC, hg, hT, rfl, rfl, rfl, rfl⟩
   ·simp only [Bool.not_eq_true', Bool.not_eq_false', decide_eq_true_eq, decide_eq_false_iff_not] at hc1
    have h1 := hc1
    rw [if_neg (by omega)] at hR
    refine WC.sr (WL.ld Tryz.isAgg28 rfl rfl ?_)
    refine WL.nc rfl rfl (WL.val (V.fieldAddr iG (OV.p rfl)) rfl ?_)
    refine WL.val (V.load Tryz.isAgg3 (OV.p rfl) (fun _ => bI.sJ 8 _ rfl)) rfl ?_
    refine WL.val (V.gtr (OV.p rfl) (OV.p rfl)) rfl (WL.sg rfl rfl (WL.nil ?_))
    refine WC.cond rfl (fun hc2 => ?_) (fun hc2 => ?_)
    ·simp only [Bool.not_eq_true', Bool.not_eq_false', decide_eq_true_eq, decide_eq_false_iff_not] at hc2
     have h2 := hc2
     rw [if_pos (show 1000000000 < T.sem.next from by show 1000000000 < T.next; omega)] at hR
     refine WC.sr ?_
     refine WL.store (cs := [_]) Tryz.sizeOf32 (OV.p rfl) (OV.p rfl) rfl rfl rfl (by repeat (first | exact aQ.here (cs' := [_]) rfl rfl | apply aQ.up)) ?_
     refine WL.nil (WC.ret ?_)
     subst hR
     exact je.ret (H' := C.A bc :: bQ bd bc g :: T.A bs bd g :: F) (aL.one rfl (R1.cell1 rfl Tryz.isAgg32 (by repeat (first | exact Rd.here rfl | apply Rd.up)))) (fun w h => h.sel 7 [1, 2, 0] rfl) ⟨C, T, hC, hg, hT, rfl, rfl, rfl, rfl⟩
    ·simp only [Bool.not_eq_true', Bool.not_eq_false', decide_eq_true_eq, decide_eq_false_iff_not] at hc2
     have h2 := hc2
     rw [if_neg (show ¬ 1000000000 < T.sem.next from by show ¬ 1000000000 < T.next; omega)] at hR
     refine WC.skip (WC.seq (WC.sr (WL.ld Tryz.isAgg28 rfl rfl ?_)))
     refine WL.call (vs := [_]) Tryz.call62 ⟨OV.p rfl, trivial⟩ (Ii) rfl ?_
     rintro _ _ ⟨qR, rfl, rfl⟩
     refine WL.nil (WC.block ?_)
     obtain ⟨I, hI⟩ : ∃ I : Nat → Cw → bI → Prop, I = fun j C' T' => C'.Ok ∧ C'.g = g ∧ T'.Ok g ∧ T'.stands = T.stands ∧ T'.at_ = T.at_ ∧ T'.next ≤ 1000000000 ∧ (∀ l ∈ T'.sem.stale, l.length ≤ 1000000) ∧ gq aI d (ig C.sem.good T.stands T.at_ g.bl n j) C'.sem T'.sem = L := ⟨_, rfl⟩
     refine WC.sub (H' := C.A bc :: bQ bd bc g :: T.A bs bd g :: Cells qR 28 [ptr bs 0] :: Cells b6 32 [.int .i64 0] :: Cells b5 34 [.slice A m cap] :: Cells b4 3 [.int .i64 aI] :: Cells b3 28 [ptr bs 0] :: F) (Sub.refl _) (fun w h => h.sel 8 [2, 3, 1, 0, 4, 5, 6, 7] rfl) ?_
     refine WC.range (gf := 117) (lb := [ptr qR 0]) (Done := fun H1 => ∃ X C' T', I n C' T' ∧ H1 = X :: C'.A bc :: bQ bd bc g :: T'.A bs bd g :: Cells qR 28 [ptr bs 0] :: Cells b6 32 [.int .i64 0] :: Cells b5 34 [.slice A m cap] :: Cells b4 3 [.int .i64 aI] :: Cells b3 28 [ptr bs 0] :: F) (X := fun c H1 => ∃ (X : au) (C' : Cw) (T' : bI) (e : Int), c = .ret ∧ C'.Ok ∧ C'.g = g ∧ T'.Ok g ∧ L = (C'.sem, T'.sem, some e) ∧ H1 = X :: C'.A bc :: bQ bd bc g :: T'.A bs bd g :: Cells qR 28 [ptr bs 0] :: Cells b6 32 [.int .i64 e] :: Cells b5 34 [.slice A m cap] :: Cells b4 3 [.int .i64 aI] :: Cells b3 28 [ptr bs 0] :: F) rfl Tryz.call117 (fun r l e1 e2 e3 hA => ?_) (fun D H1 hd => ?_) (fun D c H1 hx => by
       obtain ⟨X, C', T', e, rfl, hC', hg', hT', Q9, rfl⟩ := hx
       rw [Q9] at hR
       dsimp only at hR
       subst hR
       refine WC.ret ?_
       exact je.N7 (H' := C'.A bc :: bQ bd bc g :: T'.A bs bd g :: F) (X :: C'.A bc :: bQ bd bc g :: T'.A bs bd g :: Cells qR 28 [ptr bs 0] :: Cells b6 32 [.int .i64 e] :: Cells b5 34 [.slice A m cap] :: Cells b4 3 [.int .i64 aI] :: Cells b3 28 [ptr bs 0] :: F) (fun w h => h) (aL.one rfl (R1.cell1 rfl Tryz.isAgg32 (by repeat (first | exact Rd.here rfl | apply Rd.up)))) (fun w h => h.sel 9 [1, 2, 3] rfl) ⟨C', T', hC', hg', hT', rfl, rfl, rfl, rfl⟩)
     have hIe : ∀ j C' T', I j C' T' → C'.Ok ∧ C'.g = g ∧ T'.Ok g ∧ T'.stands = T.stands ∧ T'.at_ = T.at_ := fun j C' T' h => by rw [hI] at h; exact ⟨h.1, h.2.1, h.2.2.1, h.2.2.2.1, h.2.2.2.2.1⟩
     have hI0 : I 0 C T := by
       rw [hI]
       refine ⟨hC, hg, hT, rfl, rfl, by omega, hlong, ?_⟩
       rw [hL, hnn]; rfl
     suffices rO : ∀ j C' T' X, j < n → ((T.at_ + (j : Int)) % g.bl ∈ C.sem.good ∧ ¬ (T.at_ + (j : Int)) % g.bl ∈ T.stands) → I j C' T' → eF Tryz.prog K none l #[.int .i64 ((T.at_ + (j : Int)) % g.bl)] (r.A l .ready none :: dU r.D :: X :: C'.A bc :: bQ bd bc g :: T'.A bs bd g :: Cells qR 28 [ptr bs 0] :: Cells b6 32 [.int .i64 0] :: Cells b5 34 [.slice A m cap] :: Cells b4 3 [.int .i64 aI] :: Cells b3 28 [ptr bs 0] :: F)
         (fun b H' => (b = true ∧ ∃ C2 T2, I (j + 1) C2 T2 ∧ H' = r.A l .ready none :: dU r.D :: X :: C2.A bc :: bQ bd bc g :: T2.A bs bd g :: Cells qR 28 [ptr bs 0] :: Cells b6 32 [.int .i64 0] :: Cells b5 34 [.slice A m cap] :: Cells b4 3 [.int .i64 aI] :: Cells b3 28 [ptr bs 0] :: F) ∨
           (b = false ∧ ∃ (C2 : Cw) (T2 : bI) (e : Int), C2.Ok ∧ C2.g = g ∧ T2.Ok g ∧ L = (C2.sem, T2.sem, some e) ∧ H' = r.A l .done (some .ret) :: dU r.D :: X :: C2.A bc :: bQ bd bc g :: T2.A bs bd g :: Cells qR 28 [ptr bs 0] :: Cells b6 32 [.int .i64 e] :: Cells b5 34 [.slice A m cap] :: Cells b4 3 [.int .i64 aI] :: Cells b3 28 [ptr bs 0] :: F)) from by
       have h1 := Jb (b1 := qR) (Y1 := r.A l .ready none) (Y2 := dU r.D) hn hgm hT.at_ I (fun X H' => ∃ (C2 : Cw) (T2 : bI) (e : Int), C2.Ok ∧ C2.g = g ∧ T2.Ok g ∧ L = (C2.sem, T2.sem, some e) ∧ H' = r.A l .done (some .ret) :: dU r.D :: X :: C2.A bc :: bQ bd bc g :: T2.A bs bd g :: Cells qR 28 [ptr bs 0] :: Cells b6 32 [.int .i64 e] :: Cells b5 34 [.slice A m cap] :: Cells b4 3 [.int .i64 aI] :: Cells b3 28 [ptr bs 0] :: F) hIe
         (fun j C' T' hj hno h => by
           rw [hI] at h ⊢
           exact ⟨h.1, h.2.1, h.2.2.1, h.2.2.2.1, h.2.2.2.2.1, h.2.2.2.2.2.1, h.2.2.2.2.2.2.1, by rw [← Ia hj hno]; exact h.2.2.2.2.2.2.2⟩) rO rfl hI0
       exact h1.mono fun v H' ⟨X, h⟩ => by
         rcases h with ⟨C', T', hI2, e⟩ | ⟨C', T', e, k1, k2, k3, k4, eH⟩
         · exact ⟨none, _, e, X, C', T', hI2, rfl⟩
         · exact ⟨some .ret, _, eH, X, C', T', e, rfl, k1, k2, k3, k4, rfl⟩
     rintro j C' T' X hj M6 hIj
     obtain ⟨b, hb⟩ : ∃ b, b = (T.at_ + (j : Int)) % g.bl := ⟨_, rfl⟩
     rw [← hb] at M6 ⊢
     refine eF.mono (ug (n := 115) (args := [.int .i64 b]) (post := fun jj H1 => (jj = none ∧ ∃ C2 T2, I (j + 1) C2 T2 ∧ H1 = dU r.D :: X :: C2.A bc :: bQ bd bc g :: T2.A bs bd g :: Cells qR 28 [ptr bs 0] :: Cells b6 32 [.int .i64 0] :: Cells b5 34 [.slice A m cap] :: Cells b4 3 [.int .i64 aI] :: Cells b3 28 [ptr bs 0] :: F) ∨
         (jj = some .ret ∧ ∃ (C2 : Cw) (T2 : bI) (e : Int), C2.Ok ∧ C2.g = g ∧ T2.Ok g ∧ L = (C2.sem, T2.sem, some e) ∧ H1 = dU r.D :: X :: C2.A bc :: bQ bd bc g :: T2.A bs bd g :: Cells qR 28 [ptr bs 0] :: Cells b6 32 [.int .i64 e] :: Cells b5 34 [.slice A m cap] :: Cells b4 3 [.int .i64 aI] :: Cells b3 28 [ptr bs 0] :: F)) (by rw [e1]; rfl) (by rw [e1]; simp) hA ?_) (fun b2 H' ⟨jj, H1, hb2, hj2, eH⟩ => by
       rcases hj2 with ⟨rfl, C2, T2, hI2, rfl⟩ | ⟨rfl, C2, T2, e, k1, k2, k3, k4, rfl⟩
       · exact .inl ⟨hb2, C2, T2, hI2, eH⟩
       · exact .inr ⟨hb2, C2, T2, e, k1, k2, k3, k4, eH⟩)
     rw [e1, e2]
     rw [hI] at hIj
     obtain ⟨hC', hg', hT', hst', hat', Px, OD, hch⟩ := hIj
     rw [Gb hj (by rw [← hb]; exact M6), ← hb] at hch
     have hbb : 0 ≤ b ∧ b < g.bl := by
       rw [hb]
       exact ⟨Int.emod_nonneg _ (by omega), Int.emod_lt_of_pos _ (by omega)⟩
     refine WC.sub (E := (31, _) :: _) (Sub.refl _) (fun w h => h) ?_
     ·skip
      refine WC.region (WL.sg rfl rfl (WL.nil ?_))
      refine ⟨_, fun w h => h, ?_⟩
      rw [e3]
      refine WC.block (WC.sr (WL.ld Tryz.isAgg28 rfl rfl ?_))
      refine WL.mv rfl rfl ?_
      refine WL.sub (Sub.refl _) (fun w h => h.sel 6 [5, 0, 1, 2, 3, 4] rfl) ?_
      refine WL.call (vs := [_, _]) Tryz.call63 ⟨OV.p rfl, OV.p rfl, trivial⟩ (Cc hT' b) rfl ?_
      rintro v34 _ ⟨T1, hT1, hs1, rfl⟩
      have hnx1 : T1.next = T'.next := congrArg St.next hs1
      have KD : T1.stands = T.stands := (congrArg St.stands hs1).trans hst'
      have Qh : T1.at_ = T.at_ := (congrArg St.at_ hs1).trans hat'
      have hnb := hT'.next
      have hlo1 : ∀ l ∈ T1.sem.stale, l.length ≤ 1000000 := fun l hl => by
        rw [hs1] at hl
        obtain ⟨l', hl', rfl⟩ := List.mem_map.1 hl
        exact Nat.le_trans (List.length_filter_le _ _) (OD l' hl')
      have hlb := hT.av
      have hmay : Hd.may g ⟨aI, (d.length : Nat), T1.next⟩ = true := by
        unfold Hd.may Geo.fits
        simp only [Bool.and_eq_true, decide_eq_true_eq]
        rw [hdl, hnx1]
        exact ⟨⟨⟨⟨⟨by omega, by omega⟩, by omega⟩, by omega⟩, by omega⟩, by omega⟩
      refine WL.nil (WC.sr (WL.ld Tryz.isAgg28 rfl rfl ?_))
      refine WL.mv rfl rfl (WL.ld Tryz.isAgg3 rfl rfl ?_)
      refine WL.ld Tryz.isAgg34 rfl rfl ?_
      refine WL.sub (Sub.refl _) (fun w h => h.sel 6 [4, 5, 0, 1, 2, 3] rfl) ?_
      refine WL.call (vs := [_, _, _, _]) Tryz.call64 ⟨OV.p rfl, OV.p rfl, OV.p rfl, OV.p rfl, trivial⟩ (Dz (d := d) hC' hg' hT1 (by repeat (first | exact hd | apply Seq.up)) h8 hmc hm hinl.1 hmay) rfl ?_
      rintro _ _ ⟨C2, hC2, hg2, hs2, rfl, rfl⟩
      obtain ⟨W, hW⟩ : ∃ W, W = bL C'.sem T1.next b aI d := ⟨_, rfl⟩
      rw [← hW] at hs2 ⊢
      have hc1 : zI aI d C'.sem T'.sem b = if W.2 = 72 then (W.1, { T1.sem with next := min (T1.next + 1) 1000000001 }, if 1000000000 < min (T1.next + 1) 1000000001 then some 6 else none) else if W.2 ≠ 0 then (W.1, T1.sem.told W.2, some W.2) else (W.1, (T1.sem.mark aI).done aI b g.bl, some 0) := by
        unfold zI
        rw [show C'.sem.g = g from hg', show T'.sem.next = T1.next from hnx1.symm, ← hW, ← hs1]
      rw [gq, hc1] at hch
      refine WL.sg rfl rfl (WL.nil (WC.seq (WC.sr (WL.mv rfl rfl (WL.val (V.eql (OV.p rfl) (OV.p rfl)) rfl (WL.nil ?_))))))
      refine WC.cond rfl (fun hc3 => ?_) (fun hc3 => ?_)
      ·simp only [decide_eq_true_eq, decide_eq_false_iff_not] at hc3
       have h3 := hc3
       rw [if_pos h3] at hch
       dsimp only at hch
       refine WC.seq ?_
       refine WC.sub (H' := T1.A bs bd g :: C2.A bc :: bQ bd bc g :: r.A l .busy none :: dU r.D :: X :: Cells qR 28 [ptr bs 0] :: Cells b6 32 [.int .i64 0] :: Cells b5 34 [.slice A m cap] :: Cells b4 3 [.int .i64 aI] :: Cells b3 28 [ptr bs 0] :: F) (Sub.refl _) (fun w h => h.sel 3 [2, 0, 1] rfl) ?_
       refine WC.jN (C2.A bc :: bQ bd bc g :: r.A l .busy none :: dU r.D :: X :: Cells qR 28 [ptr bs 0] :: Cells b6 32 [.int .i64 0] :: Cells b5 34 [.slice A m cap] :: Cells b4 3 [.int .i64 aI] :: Cells b3 28 [ptr bs 0] :: F) (by kernel_rfl) ?_
       refine WA.t 0 rfl (V.load Tryz.isAgg28 (OV.p rfl) (fun _ => by repeat (first | exact Rd.here rfl | apply Rd.up))) ?_
       refine WA.t 1 rfl (V.load Tryz.isAgg28 (OV.p rfl) (fun _ => by repeat (first | exact Rd.here rfl | apply Rd.up))) ?_
       refine WA.t 2 rfl (V.nilCheck (OV.p rfl)) (WA.t 3 rfl (V.fieldAddr iG (OV.p rfl)) (WA.o 4 rfl ?_))
       refine WL.val (V.load Tryz.isAgg3 (OV.p rfl) (fun _ => bI.sJ 8 _ rfl)) rfl ?_
       refine WL.nil ?_
       refine WA.t 5 rfl (V.jO (OV.p rfl) (OV.p rfl) (fun hc => by first | omega | (simp at hc; omega))) ?_
       refine WA.t 6 rfl (V.min (OV.p rfl) (OV.p rfl)) (WA.t 7 rfl (V.nilCheck (OV.p rfl)) (WA.t 8 rfl (V.fieldAddr iG (OV.p rfl)) (WA.o 9 rfl (WL.store (cs := [_]) Tryz.sizeOf3 (OV.p rfl) (OV.p rfl) rfl rfl rfl (bI.LJ T1 (min (T1.next + 1) 1000000001)) (WL.nil (WA.fin (WC.seq (WC.sr (WL.ld Tryz.isAgg28 rfl rfl ?_)))))))))
       refine WL.nc rfl rfl (WL.val (V.fieldAddr iG (OV.p rfl)) rfl ?_)
       refine WL.val (V.load Tryz.isAgg3 (OV.p rfl) (fun _ => bI.sJ 8 _ rfl)) rfl ?_
       refine WL.val (V.gtr (OV.p rfl) (OV.p rfl)) rfl (WL.nil ?_)
       refine WC.cond rfl (fun hc4 => ?_) (fun hc4 => ?_)
       ·simp only [decide_eq_true_eq, decide_eq_false_iff_not] at hc4
        have h4 : 1000000000 < min (T1.next + 1) 1000000001 ∨ ¬ 1000000000 < min (T1.next + 1) 1000000001 := Decidable.em _
        have h4 : 1000000000 < min (T1.next + 1) 1000000001 := by have := hc4; exact this
        rw [if_pos h4, if_neg (fun h => by cases h)] at hch
        have Fg : bI.Ok g { T1 with next := min (T1.next + 1) 1000000001 } := ⟨hT1.len, hT1.av, by show 1 ≤ min (T1.next + 1) 1000000001 ∧ min (T1.next + 1) 1000000001 ≤ 1000000001; omega, hT1.at_, hT1.std⟩
        refine WC.sr ?_
        refine WL.store (cs := [_]) Tryz.sizeOf32 (OV.p rfl) (OV.p rfl) rfl rfl rfl (by repeat (first | exact aQ.here rfl rfl | apply aQ.up)) ?_
        refine WL.nil (WC.ret ?_)
        exact ⟨_, fun w h => h.sel 6 [3, 4, 5, 1, 2, 0] rfl, .inr ⟨rfl, C2, _, 6, hC2, hg2, Fg, by rw [← hch, hs2]; rfl, rfl⟩⟩
       ·simp only [decide_eq_true_eq, decide_eq_false_iff_not] at hc4
        have h4 : 1000000000 < min (T1.next + 1) 1000000001 ∨ ¬ 1000000000 < min (T1.next + 1) 1000000001 := Decidable.em _
        have h4 : ¬ 1000000000 < min (T1.next + 1) 1000000001 := by have := hc4; exact this
        rw [if_neg h4, if_pos rfl] at hch
        have Fg : bI.Ok g { T1 with next := min (T1.next + 1) 1000000001 } := ⟨hT1.len, hT1.av, by show 1 ≤ min (T1.next + 1) 1000000001 ∧ min (T1.next + 1) 1000000001 ≤ 1000000001; omega, hT1.at_, hT1.std⟩
        refine WC.skip (WC.exit ?_)
        refine ⟨_, fun w h => h.sel 6 [3, 4, 5, 1, 2, 0] rfl, .inl ⟨rfl, C2, _, ?_, rfl⟩⟩
        rw [hI]
        exact ⟨hC2, hg2, Fg, KD, Qh, by show min (T1.next + 1) 1000000001 ≤ 1000000000; omega, hlo1, by rw [hs2]; exact hch⟩
      ·simp only [decide_eq_true_eq, decide_eq_false_iff_not] at hc3
       have h3 := hc3
       rw [if_neg h3] at hch
       refine WC.skip (WC.seq (WC.sr (WL.mv rfl rfl (WL.val (V.neq (OV.p rfl) (OV.p rfl)) rfl (WL.nil ?_)))))
       refine WC.cond rfl (fun pI => ?_) (fun pI => ?_)
       ·simp only [Bool.not_eq_true', Bool.not_eq_false', decide_eq_true_eq, decide_eq_false_iff_not] at pI
        have h5 := pI
        rw [if_pos h5, if_neg (fun h => by cases h)] at hch
        refine WC.sr (WL.ld Tryz.isAgg28 rfl rfl ?_)
        refine WL.mv rfl rfl ?_
        refine WL.sub (Sub.refl _) (fun w h => h.sel 3 [2, 0, 1] rfl) ?_
        refine WL.call (vs := [_, _]) Tryz.call65 ⟨OV.p rfl, OV.p rfl, trivial⟩ (nD W.2) rfl ?_
        rintro _ _ ⟨rfl, rfl⟩
        refine WL.store (cs := [_]) Tryz.sizeOf32 (OV.p rfl) (OV.p rfl) rfl rfl rfl (by repeat (first | exact aQ.here rfl rfl | apply aQ.up)) ?_
        refine WL.nil (WC.ret ?_)
        exact ⟨_, fun w h => h.sel 6 [3, 4, 5, 1, 2, 0] rfl, .inr ⟨rfl, C2, _, W.2, hC2, hg2, hT1.told _, by rw [← hch, hs2]; rfl, rfl⟩⟩
       ·simp only [Bool.not_eq_true', Bool.not_eq_false', decide_eq_true_eq, decide_eq_false_iff_not] at pI
        have h5 := pI
        rw [if_neg (show ¬ (W.2 ≠ 0) from fun h => h (by omega)), if_neg (fun h => by cases h)] at hch
        refine WC.skip (WC.seq (WC.seq ?_))
        have hin1 : 0 ≤ aI ∧ aI < T1.stands.length := by rw [KD]; exact hinl
        refine WC.Dp (by kernel_rfl) (by kernel_rfl) ?_
        refine WQ.val (V.load Tryz.isAgg28 (OV.p rfl) (fun _ => by repeat (first | exact Rd.here rfl | apply Rd.up))) rfl ?_
        refine WQ.val (V.nilCheck (OV.p rfl)) rfl (WQ.val (V.fieldAddr jA (OV.p rfl)) rfl ?_)
        refine WQ.val (V.load Tryz.isAgg124 (OV.p rfl) (fun _ => by repeat (first | exact bI.sJ 6 _ rfl | apply Rd.up))) rfl ?_
        refine WQ.val (V.load Tryz.isAgg3 (OV.p rfl) (fun _ => by repeat (first | exact Rd.here rfl | apply Rd.up))) rfl ?_
        refine WQ.val (V.fu bO (OV.p rfl) (OV.p rfl) (fun _ => hin1) (fun _ => by repeat (first | exact bI.OW hin1 | apply Rd.up))) rfl ?_
        refine WQ.val (V.load Tryz.isAgg3 (OV.p rfl) (fun _ => by repeat (first | exact bI.OW hin1 | apply Rd.up))) rfl ?_
        refine WQ.val (V.assign (OV.p rfl)) rfl (WQ.nil (WC.sr (WL.mv rfl rfl (WL.val (V.geq (OV.p rfl) (OV.p rfl)) rfl (WL.nil ?_)))))
        refine WC.cond rfl (fun hc6 => ?_) (fun hc6 => ?_)
        ·simp only [ge_iff_le, decide_eq_true_eq, decide_eq_false_iff_not] at hc6
         have h6 := hc6
         have hmk : T1.sem.mark aI = { T1.sem with stale := T1.sem.stale.set aI.toNat (T1.sem.stale.getD aI.toNat [] ++ [T1.sem.at' aI]) } := by unfold St.mark; rw [if_pos (by omega)]
         have hil := hT1.len
         obtain ⟨q, hq⟩ : ∃ q, q = T1.dD[aI.toNat]'(by omega) := ⟨_, rfl⟩
         have hqg : T1.dD[aI.toNat]? = some q := by rw [hq]; exact List.getElem?_eq_getElem (by omega)
         have Ox : (T1.dD.map bg.v)[0 + aI.toNat * 1]? = some q.v := by rw [show 0 + aI.toNat * 1 = aI.toNat by omega, List.getElem?_map, hqg]; rfl
         have Rm : q.l.length ≤ 1000000 := hlo1 _ (List.mem_map.2 ⟨q, by rw [hq]; exact List.getElem_mem _, rfl⟩)
         have JI : (T1.dD.map bg.row)[aI.toNat]'(by rw [List.length_map]; omega) = q.row := by rw [List.getElem_map, hq]
         refine WC.sub (H' := bC (.slice q.A q.l.length q.c) 3 1 q.l.length (ints .i64 q.l) :: Cells T1.b8 124 (T1.dD.map bg.v) :: bH ((T1.dD.map bg.row).eraseIdx aI.toNat) :: Cells bs 127 (T1.cells bd g) :: T1.sl :: C2.A bc :: bQ bd bc g :: r.A l .busy none :: dU r.D :: X :: Cells qR 28 [ptr bs 0] :: Cells b6 32 [.int .i64 0] :: Cells b5 34 [.slice A m cap] :: Cells b4 3 [.int .i64 aI] :: Cells b3 28 [ptr bs 0] :: F) (Sub.refl _) (fun w h => by
           have h9 : Sat K w (bI.parts bs bd g T1 ++ (C2.A bc :: bQ bd bc g :: r.A l .busy none :: dU r.D :: X :: Cells qR 28 [ptr bs 0] :: Cells b6 32 [.int .i64 0] :: Cells b5 34 [.slice A m cap] :: Cells b4 3 [.int .i64 aI] :: Cells b3 28 [ptr bs 0] :: F)) := (h.sel 3 [2, 0, 1] rfl).vX
           have h10 := Sat.takeA (k := aI.toNat) (by rw [List.length_map]; omega) (h9.sel 4 [3, 2, 0, 1] rfl)
           rw [JI] at h10
           exact h10.sel 5 [0, 2, 1, 3, 4] rfl) ?_
         refine WC.jN (bH ((T1.dD.map bg.row).eraseIdx aI.toNat) :: Cells bs 127 (T1.cells bd g) :: T1.sl :: C2.A bc :: bQ bd bc g :: r.A l .busy none :: dU r.D :: X :: Cells qR 28 [ptr bs 0] :: Cells b6 32 [.int .i64 0] :: Cells b5 34 [.slice A m cap] :: Cells b4 3 [.int .i64 aI] :: Cells b3 28 [ptr bs 0] :: F) (by kernel_rfl) ?_
         refine WA.t 0 rfl (V.load Tryz.isAgg28 (OV.p rfl) (fun _ => by repeat (first | exact Rd.here rfl | apply Rd.up))) ?_
         refine WA.t 1 rfl (V.nilCheck (OV.p rfl)) (WA.t 2 rfl (V.fieldAddr uh (OV.p rfl)) ?_)
         refine WA.t 3 rfl (V.load Tryz.isAgg125 (OV.p rfl) (fun _ => by repeat (first | exact Rd.here rfl | apply Rd.up))) ?_
         refine WA.t 4 rfl (V.load Tryz.isAgg3 (OV.p rfl) (fun _ => by repeat (first | exact Rd.here rfl | apply Rd.up))) ?_
         refine WA.t 5 rfl (V.load Tryz.isAgg28 (OV.p rfl) (fun _ => by repeat (first | exact Rd.here rfl | apply Rd.up))) ?_
         refine WA.t 6 rfl (V.nilCheck (OV.p rfl)) (WA.t 7 rfl (V.fieldAddr uh (OV.p rfl)) ?_)
         refine WA.t 8 rfl (V.load Tryz.isAgg125 (OV.p rfl) (fun _ => by repeat (first | exact Rd.here rfl | apply Rd.up))) ?_
         refine WA.t 9 rfl (V.load Tryz.isAgg3 (OV.p rfl) (fun _ => by repeat (first | exact Rd.here rfl | apply Rd.up))) ?_
         refine WA.t 10 rfl (V.bP sQ (OV.p rfl) (OV.p rfl) (fun hc => by omega)) ?_
         refine WA.t 12 rfl (V.move (OV.p rfl)) ?_
         refine WA.two (i := 11) (j := 13) (fun w h => by repeat (first | exact h | replace h := h.tail)) (by kernel_rfl) rfl rfl ?_ ?_
         ·refine WL.val (V.load Tryz.isAgg124 (OV.p rfl) (fun _ => by repeat (first | exact Rd.here Ox | apply Rd.up))) rfl ?_
          refine WL.nil (WA.o 13 rfl ?_)
          refine WL.buildSlice (E := 3) (cs := [_]) (vs := [(0, _)]) ⟨OV.p rfl, trivial⟩ rfl (cZ _) rfl (fun Rw => ?_)
          refine WL.nil (WA.o 14 rfl ?_)
          refine WL.sub (Sub.refl _) (fun w h => h.p1) ?_
          refine WL.append (m := q.l.length) (q := 1) (news := [.int .i64 (T1.sem.at' aI)]) Tryz.underlying124 el3 (OV.p rfl) (OV.p rfl) (Seq.all rfl) (by intro u hu; rw [List.mem_singleton.1 hu]; rfl) (by omega) rfl rfl (fun A5 c5 KM pI => ?_)
          refine WL.nil ?_
          refine WA.t 15 rfl (V.bP sQ (OV.p rfl) (OV.p rfl) (fun hc => by omega)) ?_
          refine WA.o 16 rfl ?_
          refine WL.store (cs := [_]) Tryz.sizeOf124 (OV.p rfl) (OV.p rfl) rfl rfl rfl (aQ.up (aQ.up (aQ.at_ (by rw [List.length_map]; omega)))) ?_
          refine WL.nil (WA.fin (WC.seq ?_))
          first
            | (obtain ⟨T3, rE⟩ : ∃ T3 : bI, T3 = { T1 with dD := T1.dD.set aI.toNat ⟨A5, c5, q.l ++ [T1.sem.at' aI]⟩ } := ⟨_, rfl⟩
               have mH : T3.Ok g := by
                 rw [rE]
                 exact ⟨by show (T1.dD.set _ _).length = _; rw [List.length_set]; exact hT1.len, hT1.av, hT1.next, hT1.at_, hT1.std⟩
               have hs3 : T3.sem = T1.sem.mark aI := by
                 rw [hmk, rE]
                 unfold bI.sem
                 dsimp only
                 rw [List.map_set]
                 have e1 : (T1.dD.map bg.l).getD aI.toNat [] = q.l := by
                   simp only [List.getD, List.getElem?_map, hqg, Option.map_some, Option.getD_some]
                 rw [e1]
               have hd3 : T3.stands = T1.stands := by rw [rE]
               refine WC.sub (H' := T3.A bs bd g :: C2.A bc :: bQ bd bc g :: r.A l .busy none :: dU r.D :: X :: Cells qR 28 [ptr bs 0] :: Cells b6 32 [.int .i64 0] :: Cells b5 34 [.slice A m cap] :: Cells b4 3 [.int .i64 aI] :: Cells b3 28 [ptr bs 0] :: F) (Sub.refl _) (fun w h => by
                 have h5 := h.sel 6 [0, 3, 2, 4, 5] rfl
                 have e1 : bC (.slice A5 (q.l.length + 1) c5) 3 1 (q.l.length + 1) (ints .i64 q.l ++ [.int .i64 (T1.sem.at' aI)]) = bg.row ⟨A5, c5, q.l ++ [T1.sem.at' aI]⟩ := by
                   unfold bg.row
                   rw [bY, List.length_append]; rfl
                 rw [e1] at h5
                 have h6 := Sat.zR (l := T1.dD.map bg.row) (k := aI.toNat) (by rw [List.length_map]; omega) h5
                 have e2 : (T1.dD.map bg.v).set (0 + aI.toNat * 1) (.slice A5 (q.l.length + 1) c5) = (T1.dD.set aI.toNat ⟨A5, c5, q.l ++ [T1.sem.at' aI]⟩).map bg.v := by
                   rw [show 0 + aI.toNat * 1 = aI.toNat by omega, List.map_set]
                   show _ = (T1.dD.map bg.v).set aI.toNat (.slice A5 (q.l ++ [T1.sem.at' aI]).length c5)
                   rw [List.length_append]; rfl
                 rw [e2, ← List.map_set] at h6
                 have h7 := Sat.all (l := bI.parts bs bd g T3) (H := C2.A bc :: bQ bd bc g :: r.A l .busy none :: dU r.D :: X :: Cells qR 28 [ptr bs 0] :: Cells b6 32 [.int .i64 0] :: Cells b5 34 [.slice A m cap] :: Cells b4 3 [.int .i64 aI] :: Cells b3 28 [ptr bs 0] :: F) (K := K) (w := w) (by
                   unfold bI.parts bI.cells bI.sl
                   rw [rE]
                   dsimp only
                   rw [List.length_set]
                   exact h6.sel 4 [2, 3, 1, 0] rfl)
                 exact h7) ?_)
            | (obtain ⟨T3, rE⟩ : ∃ T3 : bI, T3 = T1 := ⟨_, rfl⟩
               have mH : T3.Ok g := by rw [rE]; exact hT1
               have hs3 : T3.sem = T1.sem.mark aI := by rw [hmk, rE]
               have hd3 : T3.stands = T1.stands := by rw [rE]
               rw [← rE]
               refine WC.sub (H' := T3.A bs bd g :: C2.A bc :: bQ bd bc g :: r.A l .busy none :: dU r.D :: X :: Cells qR 28 [ptr bs 0] :: Cells b6 32 [.int .i64 0] :: Cells b5 34 [.slice A m cap] :: Cells b4 3 [.int .i64 aI] :: Cells b3 28 [ptr bs 0] :: F) (Sub.refl _) (fun w h => h.sel 3 [2, 0, 1] rfl) ?_)
          rw [← hs3] at hch
          have Oq : 0 ≤ aI ∧ aI < T3.stands.length := by rw [hd3, KD]; exact hinl
          refine WC.have_ (p := ∃ g1, T3.sA = some ⟨g1, 0, none⟩) (fun w h => bI.K4 (by omega) h) (fun ⟨g1, hA3⟩ => ?_)
          refine WC.jN (C2.A bc :: bQ bd bc g :: r.A l .busy none :: dU r.D :: X :: Cells qR 28 [ptr bs 0] :: Cells b6 32 [.int .i64 0] :: Cells b5 34 [.slice A m cap] :: Cells b4 3 [.int .i64 aI] :: Cells b3 28 [ptr bs 0] :: F) (by kernel_rfl) ?_
          refine WA.t 0 rfl (V.load Tryz.isAgg28 (OV.p rfl) (fun _ => by repeat (first | exact Rd.here rfl | apply Rd.up))) ?_
          refine WA.t 1 rfl (V.nilCheck (OV.p rfl)) (WA.t 2 rfl (V.fieldAddr jA (OV.p rfl)) ?_)
          refine WA.t 4 rfl (V.load Tryz.isAgg3 (OV.p rfl) (fun _ => by repeat (first | exact Rd.here rfl | apply Rd.up))) ?_
          refine WA.t 5 rfl (V.move (OV.p rfl)) (WA.o 3 rfl ?_)
          refine WL.val (V.aA (v' := .slice (some ⟨g1, 0, none⟩) T3.stands.length T3.sc) (V.load Tryz.isAgg124 (OV.p rfl) (fun _ => bI.sJ 6 _ rfl)) (fun _ => by rw [hA3])) rfl ?_
          refine WL.nil ?_
          refine WA.t 6 rfl (V.bP bO (OV.p rfl) (OV.p rfl) (fun hc => by omega)) ?_
          refine WA.o 7 rfl ?_
          refine WL.store (cs := [_]) Tryz.sizeOf3 (OV.p rfl) (OV.p rfl) rfl rfl rfl (bI.Ns hA3 (by omega) b) ?_
          refine WL.nil (WA.fin (WC.sr (WL.ld Tryz.isAgg28 rfl rfl ?_)))
          refine WL.nc rfl rfl (WL.val (V.fieldAddr iG (OV.p rfl)) rfl ?_)
          refine WL.val (V.load Tryz.isAgg3 (OV.p rfl) (fun _ => bI.sJ 8 _ rfl)) rfl ?_
          have JD := mH.next
          refine WL.val (V.jO (OV.p rfl) (OV.p rfl) (fun _ => by dsimp only; omega)) rfl ?_
          refine WL.nc rfl rfl (WL.val (V.fieldAddr iG (OV.p rfl)) rfl (WL.store (cs := [_]) Tryz.sizeOf3 (OV.p rfl) (OV.p rfl) rfl rfl rfl (bI.LJ _ _) (WL.nil (WC.seq ?_))))
          refine WC.jN (C2.A bc :: bQ bd bc g :: r.A l .busy none :: dU r.D :: X :: Cells qR 28 [ptr bs 0] :: Cells b6 32 [.int .i64 0] :: Cells b5 34 [.slice A m cap] :: Cells b4 3 [.int .i64 aI] :: Cells b3 28 [ptr bs 0] :: F) (by kernel_rfl) ?_
          refine WA.t 0 rfl (V.load Tryz.isAgg28 (OV.p rfl) (fun _ => by repeat (first | exact Rd.here rfl | apply Rd.up))) ?_
          refine WA.t 1 rfl (V.move (OV.p rfl)) ?_
          refine WA.t 2 rfl (V.jO (OV.p rfl) (OV.p rfl) (fun hc => by first | omega | (simp at hc; omega))) ?_
          refine WA.t 3 rfl (V.load Tryz.isAgg28 (OV.p rfl) (fun _ => by repeat (first | exact Rd.here rfl | apply Rd.up))) ?_
          refine WA.t 4 rfl (V.nilCheck (OV.p rfl)) (WA.t 5 rfl (V.fieldAddr jw (OV.p rfl)) (WA.t 6 rfl (V.fieldAddr jk (OV.p rfl)) (WA.o 7 rfl ?_)))
          refine WL.val (V.load Tryz.isAgg3 (OV.p rfl) (fun _ => bI.sJ 1 _ rfl)) rfl ?_
          refine WL.nil ?_
          refine WA.t 8 rfl (V.qH (OV.p rfl) (OV.p rfl) (fun _ => by omega)) ?_
          refine WA.t 9 rfl (V.nilCheck (OV.p rfl)) (WA.t 10 rfl (V.fieldAddr xw (OV.p rfl)) (WA.o 11 rfl (WL.store (cs := [_]) Tryz.sizeOf3 (OV.p rfl) (OV.p rfl) rfl rfl rfl (bI.NM _ _) (WL.nil (WA.fin (WC.sr ?_))))))
          refine WL.store (cs := [_]) Tryz.sizeOf32 (OV.p rfl) (OV.p rfl) rfl rfl rfl (by repeat (first | exact aQ.here rfl rfl | apply aQ.up)) ?_
          refine WL.nil (WC.ret ?_)
          refine ⟨_, fun w h => h.sel 6 [3, 4, 5, 1, 2, 0] rfl, .inr ⟨rfl, C2, _, 0, hC2, hg2, ?_, ?_, rfl⟩⟩
          · have JD := mH.next
            have LQ : T3.next ≤ 1000000000 := by
              have e1 : T3.sem.next = T1.sem.next := by rw [hs3]; unfold St.mark; split <;> rfl
              have e2 : T3.next = T1.next := e1
              omega
            have hrm : 0 ≤ (b + 1) % g.bl ∧ (b + 1) % g.bl < g.bl := ⟨Int.emod_nonneg _ (by omega), Int.emod_lt_of_pos _ (by omega)⟩
            refine ⟨by show T3.dD.length = (T3.stands.set _ _).length; rw [List.length_set]; exact mH.len, by show 1 ≤ (T3.stands.set _ _).length ∧ _; rw [List.length_set]; exact mH.av, by show 1 ≤ T3.next + 1 ∧ T3.next + 1 ≤ 1000000001; omega, hrm, fun x hx => ?_⟩
            rcases List.mem_or_eq_of_mem_set hx with hx | rfl
            · exact mH.std x hx
            · omega
          · rw [← hch, hs2]
            unfold St.done bI.sem
            dsimp only
            rw [show 0 + aI.toNat * 1 = aI.toNat by omega]
         ·refine WL.buildSlice (E := 3) (cs := [_]) (vs := [(0, _)]) ⟨OV.p rfl, trivial⟩ rfl (cZ _) rfl (fun Rw => ?_)
          refine WL.nil (WA.o 11 rfl ?_)
          refine WL.val (V.load Tryz.isAgg124 (OV.p rfl) (fun _ => by repeat (first | exact Rd.here Ox | apply Rd.up))) rfl ?_
          refine WL.nil (WA.o 14 rfl ?_)
          refine WL.sub (Sub.refl _) (fun w h => h.p1) ?_
          refine WL.append (m := q.l.length) (q := 1) (news := [.int .i64 (T1.sem.at' aI)]) Tryz.underlying124 el3 (OV.p rfl) (OV.p rfl) (Seq.all rfl) (by intro u hu; rw [List.mem_singleton.1 hu]; rfl) (by omega) rfl rfl (fun A5 c5 KM pI => ?_)
          refine WL.nil ?_
          refine WA.t 15 rfl (V.bP sQ (OV.p rfl) (OV.p rfl) (fun hc => by omega)) ?_
          refine WA.o 16 rfl ?_
          refine WL.store (cs := [_]) Tryz.sizeOf124 (OV.p rfl) (OV.p rfl) rfl rfl rfl (aQ.up (aQ.up (aQ.at_ (by rw [List.length_map]; omega)))) ?_
          refine WL.nil (WA.fin (WC.seq ?_))
          first
            | (obtain ⟨T3, rE⟩ : ∃ T3 : bI, T3 = { T1 with dD := T1.dD.set aI.toNat ⟨A5, c5, q.l ++ [T1.sem.at' aI]⟩ } := ⟨_, rfl⟩
               have mH : T3.Ok g := by
                 rw [rE]
                 exact ⟨by show (T1.dD.set _ _).length = _; rw [List.length_set]; exact hT1.len, hT1.av, hT1.next, hT1.at_, hT1.std⟩
               have hs3 : T3.sem = T1.sem.mark aI := by
                 rw [hmk, rE]
                 unfold bI.sem
                 dsimp only
                 rw [List.map_set]
                 have e1 : (T1.dD.map bg.l).getD aI.toNat [] = q.l := by
                   simp only [List.getD, List.getElem?_map, hqg, Option.map_some, Option.getD_some]
                 rw [e1]
               have hd3 : T3.stands = T1.stands := by rw [rE]
               refine WC.sub (H' := T3.A bs bd g :: C2.A bc :: bQ bd bc g :: r.A l .busy none :: dU r.D :: X :: Cells qR 28 [ptr bs 0] :: Cells b6 32 [.int .i64 0] :: Cells b5 34 [.slice A m cap] :: Cells b4 3 [.int .i64 aI] :: Cells b3 28 [ptr bs 0] :: F) (Sub.refl _) (fun w h => by
                 have h5 := h.sel 6 [0, 3, 2, 4, 5] rfl
                 have e1 : bC (.slice A5 (q.l.length + 1) c5) 3 1 (q.l.length + 1) (ints .i64 q.l ++ [.int .i64 (T1.sem.at' aI)]) = bg.row ⟨A5, c5, q.l ++ [T1.sem.at' aI]⟩ := by
                   unfold bg.row
                   rw [bY, List.length_append]; rfl
                 rw [e1] at h5
                 have h6 := Sat.zR (l := T1.dD.map bg.row) (k := aI.toNat) (by rw [List.length_map]; omega) h5
                 have e2 : (T1.dD.map bg.v).set (0 + aI.toNat * 1) (.slice A5 (q.l.length + 1) c5) = (T1.dD.set aI.toNat ⟨A5, c5, q.l ++ [T1.sem.at' aI]⟩).map bg.v := by
                   rw [show 0 + aI.toNat * 1 = aI.toNat by omega, List.map_set]
                   show _ = (T1.dD.map bg.v).set aI.toNat (.slice A5 (q.l ++ [T1.sem.at' aI]).length c5)
                   rw [List.length_append]; rfl
                 rw [e2, ← List.map_set] at h6
                 have h7 := Sat.all (l := bI.parts bs bd g T3) (H := C2.A bc :: bQ bd bc g :: r.A l .busy none :: dU r.D :: X :: Cells qR 28 [ptr bs 0] :: Cells b6 32 [.int .i64 0] :: Cells b5 34 [.slice A m cap] :: Cells b4 3 [.int .i64 aI] :: Cells b3 28 [ptr bs 0] :: F) (K := K) (w := w) (by
                   unfold bI.parts bI.cells bI.sl
                   rw [rE]
                   dsimp only
                   rw [List.length_set]
                   exact h6.sel 4 [2, 3, 1, 0] rfl)
                 exact h7) ?_)
            | (obtain ⟨T3, rE⟩ : ∃ T3 : bI, T3 = T1 := ⟨_, rfl⟩
               have mH : T3.Ok g := by rw [rE]; exact hT1
               have hs3 : T3.sem = T1.sem.mark aI := by rw [hmk, rE]
               have hd3 : T3.stands = T1.stands := by rw [rE]
               rw [← rE]
               refine WC.sub (H' := T3.A bs bd g :: C2.A bc :: bQ bd bc g :: r.A l .busy none :: dU r.D :: X :: Cells qR 28 [ptr bs 0] :: Cells b6 32 [.int .i64 0] :: Cells b5 34 [.slice A m cap] :: Cells b4 3 [.int .i64 aI] :: Cells b3 28 [ptr bs 0] :: F) (Sub.refl _) (fun w h => h.sel 3 [2, 0, 1] rfl) ?_)
          rw [← hs3] at hch
          have Oq : 0 ≤ aI ∧ aI < T3.stands.length := by rw [hd3, KD]; exact hinl
          refine WC.have_ (p := ∃ g1, T3.sA = some ⟨g1, 0, none⟩) (fun w h => bI.K4 (by omega) h) (fun ⟨g1, hA3⟩ => ?_)
          refine WC.jN (C2.A bc :: bQ bd bc g :: r.A l .busy none :: dU r.D :: X :: Cells qR 28 [ptr bs 0] :: Cells b6 32 [.int .i64 0] :: Cells b5 34 [.slice A m cap] :: Cells b4 3 [.int .i64 aI] :: Cells b3 28 [ptr bs 0] :: F) (by kernel_rfl) ?_
          refine WA.t 0 rfl (V.load Tryz.isAgg28 (OV.p rfl) (fun _ => by repeat (first | exact Rd.here rfl | apply Rd.up))) ?_
          refine WA.t 1 rfl (V.nilCheck (OV.p rfl)) (WA.t 2 rfl (V.fieldAddr jA (OV.p rfl)) ?_)
          refine WA.t 4 rfl (V.load Tryz.isAgg3 (OV.p rfl) (fun _ => by repeat (first | exact Rd.here rfl | apply Rd.up))) ?_
          refine WA.t 5 rfl (V.move (OV.p rfl)) (WA.o 3 rfl ?_)
          refine WL.val (V.aA (v' := .slice (some ⟨g1, 0, none⟩) T3.stands.length T3.sc) (V.load Tryz.isAgg124 (OV.p rfl) (fun _ => bI.sJ 6 _ rfl)) (fun _ => by rw [hA3])) rfl ?_
          refine WL.nil ?_
          refine WA.t 6 rfl (V.bP bO (OV.p rfl) (OV.p rfl) (fun hc => by omega)) ?_
          refine WA.o 7 rfl ?_
          refine WL.store (cs := [_]) Tryz.sizeOf3 (OV.p rfl) (OV.p rfl) rfl rfl rfl (bI.Ns hA3 (by omega) b) ?_
          refine WL.nil (WA.fin (WC.sr (WL.ld Tryz.isAgg28 rfl rfl ?_)))
          refine WL.nc rfl rfl (WL.val (V.fieldAddr iG (OV.p rfl)) rfl ?_)
          refine WL.val (V.load Tryz.isAgg3 (OV.p rfl) (fun _ => bI.sJ 8 _ rfl)) rfl ?_
          have JD := mH.next
          refine WL.val (V.jO (OV.p rfl) (OV.p rfl) (fun _ => by dsimp only; omega)) rfl ?_
          refine WL.nc rfl rfl (WL.val (V.fieldAddr iG (OV.p rfl)) rfl (WL.store (cs := [_]) Tryz.sizeOf3 (OV.p rfl) (OV.p rfl) rfl rfl rfl (bI.LJ _ _) (WL.nil (WC.seq ?_))))
          refine WC.jN (C2.A bc :: bQ bd bc g :: r.A l .busy none :: dU r.D :: X :: Cells qR 28 [ptr bs 0] :: Cells b6 32 [.int .i64 0] :: Cells b5 34 [.slice A m cap] :: Cells b4 3 [.int .i64 aI] :: Cells b3 28 [ptr bs 0] :: F) (by kernel_rfl) ?_
          refine WA.t 0 rfl (V.load Tryz.isAgg28 (OV.p rfl) (fun _ => by repeat (first | exact Rd.here rfl | apply Rd.up))) ?_
          refine WA.t 1 rfl (V.move (OV.p rfl)) ?_
          refine WA.t 2 rfl (V.jO (OV.p rfl) (OV.p rfl) (fun hc => by first | omega | (simp at hc; omega))) ?_
          refine WA.t 3 rfl (V.load Tryz.isAgg28 (OV.p rfl) (fun _ => by repeat (first | exact Rd.here rfl | apply Rd.up))) ?_
          refine WA.t 4 rfl (V.nilCheck (OV.p rfl)) (WA.t 5 rfl (V.fieldAddr jw (OV.p rfl)) (WA.t 6 rfl (V.fieldAddr jk (OV.p rfl)) (WA.o 7 rfl ?_)))
          refine WL.val (V.load Tryz.isAgg3 (OV.p rfl) (fun _ => bI.sJ 1 _ rfl)) rfl ?_
          refine WL.nil ?_
          refine WA.t 8 rfl (V.qH (OV.p rfl) (OV.p rfl) (fun _ => by omega)) ?_
          refine WA.t 9 rfl (V.nilCheck (OV.p rfl)) (WA.t 10 rfl (V.fieldAddr xw (OV.p rfl)) (WA.o 11 rfl (WL.store (cs := [_]) Tryz.sizeOf3 (OV.p rfl) (OV.p rfl) rfl rfl rfl (bI.NM _ _) (WL.nil (WA.fin (WC.sr ?_))))))
          refine WL.store (cs := [_]) Tryz.sizeOf32 (OV.p rfl) (OV.p rfl) rfl rfl rfl (by repeat (first | exact aQ.here rfl rfl | apply aQ.up)) ?_
          refine WL.nil (WC.ret ?_)
          refine ⟨_, fun w h => h.sel 6 [3, 4, 5, 1, 2, 0] rfl, .inr ⟨rfl, C2, _, 0, hC2, hg2, ?_, ?_, rfl⟩⟩
          · have JD := mH.next
            have LQ : T3.next ≤ 1000000000 := by
              have e1 : T3.sem.next = T1.sem.next := by rw [hs3]; unfold St.mark; split <;> rfl
              have e2 : T3.next = T1.next := e1
              omega
            have hrm : 0 ≤ (b + 1) % g.bl ∧ (b + 1) % g.bl < g.bl := ⟨Int.emod_nonneg _ (by omega), Int.emod_lt_of_pos _ (by omega)⟩
            refine ⟨by show T3.dD.length = (T3.stands.set _ _).length; rw [List.length_set]; exact mH.len, by show 1 ≤ (T3.stands.set _ _).length ∧ _; rw [List.length_set]; exact mH.av, by show 1 ≤ T3.next + 1 ∧ T3.next + 1 ≤ 1000000001; omega, hrm, fun x hx => ?_⟩
            rcases List.mem_or_eq_of_mem_set hx with hx | rfl
            · exact mH.std x hx
            · omega
          · rw [← hch, hs2]
            unfold St.done bI.sem
            dsimp only
            rw [show 0 + aI.toNat * 1 = aI.toNat by omega]
        ·simp only [ge_iff_le, decide_eq_true_eq, decide_eq_false_iff_not] at hc6
         have h6 := hc6
         have hmk : T1.sem.mark aI = T1.sem := by unfold St.mark; rw [if_neg (by omega)]
         refine WC.skip (WC.seq ?_)
         first
           | (obtain ⟨T3, rE⟩ : ∃ T3 : bI, T3 = { T1 with dD := T1.dD.set aI.toNat ⟨A5, c5, q.l ++ [T1.sem.at' aI]⟩ } := ⟨_, rfl⟩
              have mH : T3.Ok g := by
                rw [rE]
                exact ⟨by show (T1.dD.set _ _).length = _; rw [List.length_set]; exact hT1.len, hT1.av, hT1.next, hT1.at_, hT1.std⟩
              have hs3 : T3.sem = T1.sem.mark aI := by
                rw [hmk, rE]
                unfold bI.sem
                dsimp only
                rw [List.map_set]
                have e1 : (T1.dD.map bg.l).getD aI.toNat [] = q.l := by
                  simp only [List.getD, List.getElem?_map, hqg, Option.map_some, Option.getD_some]
                rw [e1]
              have hd3 : T3.stands = T1.stands := by rw [rE]
              refine WC.sub (H' := T3.A bs bd g :: C2.A bc :: bQ bd bc g :: r.A l .busy none :: dU r.D :: X :: Cells qR 28 [ptr bs 0] :: Cells b6 32 [.int .i64 0] :: Cells b5 34 [.slice A m cap] :: Cells b4 3 [.int .i64 aI] :: Cells b3 28 [ptr bs 0] :: F) (Sub.refl _) (fun w h => by
                have h5 := h.sel 6 [0, 3, 2, 4, 5] rfl
                have e1 : bC (.slice A5 (q.l.length + 1) c5) 3 1 (q.l.length + 1) (ints .i64 q.l ++ [.int .i64 (T1.sem.at' aI)]) = bg.row ⟨A5, c5, q.l ++ [T1.sem.at' aI]⟩ := by
                  unfold bg.row
                  rw [bY, List.length_append]; rfl
                rw [e1] at h5
                have h6 := Sat.zR (l := T1.dD.map bg.row) (k := aI.toNat) (by rw [List.length_map]; omega) h5
                have e2 : (T1.dD.map bg.v).set (0 + aI.toNat * 1) (.slice A5 (q.l.length + 1) c5) = (T1.dD.set aI.toNat ⟨A5, c5, q.l ++ [T1.sem.at' aI]⟩).map bg.v := by
                  rw [show 0 + aI.toNat * 1 = aI.toNat by omega, List.map_set]
                  show _ = (T1.dD.map bg.v).set aI.toNat (.slice A5 (q.l ++ [T1.sem.at' aI]).length c5)
                  rw [List.length_append]; rfl
                rw [e2, ← List.map_set] at h6
                have h7 := Sat.all (l := bI.parts bs bd g T3) (H := C2.A bc :: bQ bd bc g :: r.A l .busy none :: dU r.D :: X :: Cells qR 28 [ptr bs 0] :: Cells b6 32 [.int .i64 0] :: Cells b5 34 [.slice A m cap] :: Cells b4 3 [.int .i64 aI] :: Cells b3 28 [ptr bs 0] :: F) (K := K) (w := w) (by
                  unfold bI.parts bI.cells bI.sl
                  rw [rE]
                  dsimp only
                  rw [List.length_set]
                  exact h6.sel 4 [2, 3, 1, 0] rfl)
                exact h7) ?_)
           | (obtain ⟨T3, rE⟩ : ∃ T3 : bI, T3 = T1 := ⟨_, rfl⟩
              have mH : T3.Ok g := by rw [rE]; exact hT1
              have hs3 : T3.sem = T1.sem.mark aI := by rw [hmk, rE]
              have hd3 : T3.stands = T1.stands := by rw [rE]
              rw [← rE]
              refine WC.sub (H' := T3.A bs bd g :: C2.A bc :: bQ bd bc g :: r.A l .busy none :: dU r.D :: X :: Cells qR 28 [ptr bs 0] :: Cells b6 32 [.int .i64 0] :: Cells b5 34 [.slice A m cap] :: Cells b4 3 [.int .i64 aI] :: Cells b3 28 [ptr bs 0] :: F) (Sub.refl _) (fun w h => h.sel 3 [2, 0, 1] rfl) ?_)
         rw [← hs3] at hch
         have Oq : 0 ≤ aI ∧ aI < T3.stands.length := by rw [hd3, KD]; exact hinl
         refine WC.have_ (p := ∃ g1, T3.sA = some ⟨g1, 0, none⟩) (fun w h => bI.K4 (by omega) h) (fun ⟨g1, hA3⟩ => ?_)
         refine WC.jN (C2.A bc :: bQ bd bc g :: r.A l .busy none :: dU r.D :: X :: Cells qR 28 [ptr bs 0] :: Cells b6 32 [.int .i64 0] :: Cells b5 34 [.slice A m cap] :: Cells b4 3 [.int .i64 aI] :: Cells b3 28 [ptr bs 0] :: F) (by kernel_rfl) ?_
         refine WA.t 0 rfl (V.load Tryz.isAgg28 (OV.p rfl) (fun _ => by repeat (first | exact Rd.here rfl | apply Rd.up))) ?_
         refine WA.t 1 rfl (V.nilCheck (OV.p rfl)) (WA.t 2 rfl (V.fieldAddr jA (OV.p rfl)) ?_)
         refine WA.t 4 rfl (V.load Tryz.isAgg3 (OV.p rfl) (fun _ => by repeat (first | exact Rd.here rfl | apply Rd.up))) ?_
         refine WA.t 5 rfl (V.move (OV.p rfl)) (WA.o 3 rfl ?_)
         refine WL.val (V.aA (v' := .slice (some ⟨g1, 0, none⟩) T3.stands.length T3.sc) (V.load Tryz.isAgg124 (OV.p rfl) (fun _ => bI.sJ 6 _ rfl)) (fun _ => by rw [hA3])) rfl ?_
         refine WL.nil ?_
         refine WA.t 6 rfl (V.bP bO (OV.p rfl) (OV.p rfl) (fun hc => by omega)) ?_
         refine WA.o 7 rfl ?_
         refine WL.store (cs := [_]) Tryz.sizeOf3 (OV.p rfl) (OV.p rfl) rfl rfl rfl (bI.Ns hA3 (by omega) b) ?_
         refine WL.nil (WA.fin (WC.sr (WL.ld Tryz.isAgg28 rfl rfl ?_)))
         refine WL.nc rfl rfl (WL.val (V.fieldAddr iG (OV.p rfl)) rfl ?_)
         refine WL.val (V.load Tryz.isAgg3 (OV.p rfl) (fun _ => bI.sJ 8 _ rfl)) rfl ?_
         have JD := mH.next
         refine WL.val (V.jO (OV.p rfl) (OV.p rfl) (fun _ => by dsimp only; omega)) rfl ?_
         refine WL.nc rfl rfl (WL.val (V.fieldAddr iG (OV.p rfl)) rfl (WL.store (cs := [_]) Tryz.sizeOf3 (OV.p rfl) (OV.p rfl) rfl rfl rfl (bI.LJ _ _) (WL.nil (WC.seq ?_))))
         refine WC.jN (C2.A bc :: bQ bd bc g :: r.A l .busy none :: dU r.D :: X :: Cells qR 28 [ptr bs 0] :: Cells b6 32 [.int .i64 0] :: Cells b5 34 [.slice A m cap] :: Cells b4 3 [.int .i64 aI] :: Cells b3 28 [ptr bs 0] :: F) (by kernel_rfl) ?_
         refine WA.t 0 rfl (V.load Tryz.isAgg28 (OV.p rfl) (fun _ => by repeat (first | exact Rd.here rfl | apply Rd.up))) ?_
         refine WA.t 1 rfl (V.move (OV.p rfl)) ?_
         refine WA.t 2 rfl (V.jO (OV.p rfl) (OV.p rfl) (fun hc => by first | omega | (simp at hc; omega))) ?_
         refine WA.t 3 rfl (V.load Tryz.isAgg28 (OV.p rfl) (fun _ => by repeat (first | exact Rd.here rfl | apply Rd.up))) ?_
         refine WA.t 4 rfl (V.nilCheck (OV.p rfl)) (WA.t 5 rfl (V.fieldAddr jw (OV.p rfl)) (WA.t 6 rfl (V.fieldAddr jk (OV.p rfl)) (WA.o 7 rfl ?_)))
         refine WL.val (V.load Tryz.isAgg3 (OV.p rfl) (fun _ => bI.sJ 1 _ rfl)) rfl ?_
         refine WL.nil ?_
         refine WA.t 8 rfl (V.qH (OV.p rfl) (OV.p rfl) (fun _ => by omega)) ?_
         refine WA.t 9 rfl (V.nilCheck (OV.p rfl)) (WA.t 10 rfl (V.fieldAddr xw (OV.p rfl)) (WA.o 11 rfl (WL.store (cs := [_]) Tryz.sizeOf3 (OV.p rfl) (OV.p rfl) rfl rfl rfl (bI.NM _ _) (WL.nil (WA.fin (WC.sr ?_))))))
         refine WL.store (cs := [_]) Tryz.sizeOf32 (OV.p rfl) (OV.p rfl) rfl rfl rfl (by repeat (first | exact aQ.here rfl rfl | apply aQ.up)) ?_
         refine WL.nil (WC.ret ?_)
         refine ⟨_, fun w h => h.sel 6 [3, 4, 5, 1, 2, 0] rfl, .inr ⟨rfl, C2, _, 0, hC2, hg2, ?_, ?_, rfl⟩⟩
         · have JD := mH.next
           have LQ : T3.next ≤ 1000000000 := by
             have e1 : T3.sem.next = T1.sem.next := by rw [hs3]; unfold St.mark; split <;> rfl
             have e2 : T3.next = T1.next := e1
             omega
           have hrm : 0 ≤ (b + 1) % g.bl ∧ (b + 1) % g.bl < g.bl := ⟨Int.emod_nonneg _ (by omega), Int.emod_lt_of_pos _ (by omega)⟩
           refine ⟨by show T3.dD.length = (T3.stands.set _ _).length; rw [List.length_set]; exact mH.len, by show 1 ≤ (T3.stands.set _ _).length ∧ _; rw [List.length_set]; exact mH.av, by show 1 ≤ T3.next + 1 ∧ T3.next + 1 ≤ 1000000001; omega, hrm, fun x hx => ?_⟩
           rcases List.mem_or_eq_of_mem_set hx with hx | rfl
           · exact mH.std x hx
           · omega
         · rw [← hch, hs2]
           unfold St.done bI.sem
           dsimp only
           rw [show 0 + aI.toNat * 1 = aI.toNat by omega]
     ·skip
      obtain ⟨X, C', T', hIe, rfl⟩ := hd
      rw [hI] at hIe
      obtain ⟨hC', hg', hT', hst', hat', Px, OD, hch⟩ := hIe
      rw [Gq, gq] at hch
      rw [← hch] at hR
      dsimp only at hR
      refine WC.seq ?_
      refine WC.sub (H' := C'.A bc :: bQ bd bc g :: T'.A bs bd g :: Cells b6 32 [.int .i64 0] :: dU D :: Cells b5 34 [.slice A m cap] :: Cells b4 3 [.int .i64 aI] :: Cells b3 28 [ptr bs 0] :: F) (Sub.refl _) (fun w h => h.sel 7 [2, 3, 4, 6, 0] rfl) ?_
      refine WC.dY (dU D :: Cells b5 34 [.slice A m cap] :: Cells b4 3 [.int .i64 aI] :: Cells b3 28 [ptr bs 0] :: F) (by kernel_rfl) ?_
      refine WA.t 0 rfl (V.load Tryz.isAgg28 (OV.p rfl) (fun _ => by repeat (first | exact Rd.here rfl | apply Rd.up))) ?_
      refine WA.t 1 rfl (V.load Tryz.isAgg28 (OV.p rfl) (fun _ => by repeat (first | exact Rd.here rfl | apply Rd.up))) ?_
      refine WA.o 2 rfl (WL.call (vs := [_]) Tryz.call66 ⟨OV.p rfl, trivial⟩ (Fz hC' hg') rfl ?_)
      rintro _ H0 ⟨rfl, h0⟩
      subst H0
      refine WL.nil (WA.o 3 rfl ?_)
      refine WL.sub (Sub.refl _) (fun w h => h.sel 3 [2, 0, 1] rfl) ?_
      refine WL.call (vs := [_, _]) Tryz.call65 ⟨OV.p rfl, OV.p rfl, trivial⟩ (nD (if C'.sem.jF = 70 then 70 else 6)) rfl ?_
      rintro _ _ ⟨rfl, rfl⟩
      refine WL.nil (WA.o 4 rfl (WL.store (cs := [_]) Tryz.sizeOf32 (OV.p rfl) (OV.p rfl) rfl rfl rfl (aQ.up (aQ.up (aQ.up (aQ.here rfl rfl)))) (WL.nil (WA.fin (WC.ret ?_)))))
      subst hR
      exact je.N7 (H' := C'.A bc :: bQ bd bc g :: (T'.told (if C'.sem.jF = 70 then 70 else 6)).A bs bd g :: F) ((T'.told (if C'.sem.jF = 70 then 70 else 6)).A bs bd g :: C'.A bc :: bQ bd bc g :: Cells b6 32 [.int .i64 (if C'.sem.jF = 70 then 70 else 6)] :: Cells b5 34 [.slice A m cap] :: Cells b4 3 [.int .i64 aI] :: Cells b3 28 [ptr bs 0] :: F) (fun w h => h.sel 5 [4, 0, 1, 2, 3] rfl) (aL.one rfl (R1.cell1 rfl Tryz.isAgg32 (by repeat (first | exact Rd.here rfl | apply Rd.up)))) (fun w h => h.sel 7 [1, 2, 0] rfl) ⟨C', T'.told (if C'.sem.jF = 70 then 70 else 6), hC', hg', hT'.told _, rfl, rfl, rfl, rfl⟩
end
end Go.Proofs.YtcedojacbhnbiaaGreat
