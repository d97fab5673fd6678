import Derived.Test.YtohkefolnmcjnaaGreatP24
namespace Go.Proofs.YtohkefolnmcjnaaGreat
open Go.Sl Go.RowKit
set_option linter.unusedVariables false
set_option linter.unusedSimpArgs false
set_option maxRecDepth 20000
section
variable {bs bd bc : Nat} {g : Geo} {T : Stw} {C : Cw} {K : World} {F : List Assn}
set_option maxHeartbeats 1000000 in
theorem store_Change (hC : C.Ok) (hg : C.g = g) (hT : T.Ok g) {leb : Int} {A : Option Addr} {m cap : Nat} {d : List Nat} (hd : Seq K F A m 1 (nats .u8 d)) (h8 : Small 256 d) (hmc : m ≤ cap) (hm : m ≤ 1000000) (hlong : ∀ l ∈ T.sem.stale, l.length ≤ 1000000) :
    Does Tryz.prog 31 #[ptr bs 0, .int .i64 leb, .slice A m cap] K (C.A bc :: DvA bd bc g :: T.A bs bd g :: F)
    (fun v H' => ∃ (C' : Cw) (T' : Stw), C'.Ok ∧ C'.g = g ∧ T'.Ok g ∧ C'.sem = (sChange C.sem T.sem leb d).1 ∧ T'.sem = (sChange C.sem T.sem leb d).2.1 ∧ v = .int .i64 (sChange C.sem T.sem leb d).2.2 ∧ H' = C'.A bc :: DvA bd bc g :: T'.A bs bd g :: F) := by
  have hgm : g.mays := by rw [← hg]; exact hC.mays
  have hgs : C.sem.g = g := hg
  have hgb := hgm
  unfold Geo.mays at hgb
  have hdl : d.length = m := by simpa [nats] using hd.len
  have hcb := Geo.cap_bd hgm
  obtain ⟨n, hn⟩ : ∃ n : Nat, g.bl = (n : Int) := ⟨g.bl.toNat, by omega⟩
  have hnn : g.bl.toNat = n := by omega
  obtain ⟨R, hR⟩ : ∃ R, R = sChange C.sem T.sem leb d := ⟨_, rfl⟩
  rw [← hR]
  unfold sChange at hR
  rw [hgs, hdl] at hR
  obtain ⟨L, hL⟩ : ∃ L, L = chgL leb d (candsF C.sem.good T.sem.stands T.sem.at_ g.bl g.bl.toNat 0) C.sem T.sem := ⟨_, rfl⟩
  rw [← hL] at hR
  have hin : T.sem.ready leb = 0 → 0 ≤ leb ∧ leb < T.stands.length := fun h => by
    unfold St.ready Stw.sem at h
    dsimp only at h
    split at h
    · cases h
    · split at h
      · cases h
      · omega
  refine Does.enterM Tryz.func31 rfl Tryz.ntmps31 rfl ?_
  simp only [env0, Nat.reduceAdd]
  refine WC.sr ?_
  refine WL.box (cs := [_]) (OV.p rfl) rfl rfl (fun b3 => ?_)
  refine WL.box (cs := [_]) (OV.p rfl) rfl rfl (fun b4 => ?_)
  refine WL.box (cs := [_]) (OV.p rfl) rfl rfl (fun b5 => ?_)
  refine WL.alloc (cs := [(.int .i64 0)]) Tryz.zeroValue28 rfl rfl (fun b6 => ?_)
  refine WL.nil ?_
  refine WC.seq ?_
  refine WC.seq ?_
  refine WC.sub (H' := T.A bs bd g :: C.A bc :: DvA bd bc g :: Cells b6 28 [.int .i64 0] :: Cells b5 38 [.slice A m cap] :: Cells b4 3 [.int .i64 leb] :: Cells b3 56 [ptr bs 0] :: F) (Sub.refl _) (fun w h => h.sel 7 [6, 4, 5, 0, 1, 2, 3] rfl) ?_
  refine WC.region ?_
  refine WL.ld Tryz.isAgg56 rfl rfl ?_
  refine WL.ld Tryz.isAgg3 rfl rfl ?_
  refine WL.call (vs := [_, _]) Tryz.call88 ⟨OV.p rfl, OV.p rfl, trivial⟩ (store_ready leb) rfl ?_
  rintro _ H0 ⟨rfl, h0⟩
  subst H0
  refine WL.sg rfl rfl ?_
  refine WL.nil ?_
  refine WC.sr ?_
  refine WL.mv rfl rfl ?_
  refine WL.val (V.neq (OV.p rfl) (OV.p rfl)) rfl ?_
  refine WL.nil ?_
  refine WC.cond rfl (fun hc0 => ?_) (fun hc0 => ?_)
  ·simp only [Bool.not_eq_true', Bool.not_eq_false', decide_eq_true_eq, decide_eq_false_iff_not] at hc0
   have h0 := hc0
   rw [if_pos h0] at hR
   refine WC.sr ?_
   refine WL.mv rfl rfl ?_
   refine WL.store (cs := [_]) Tryz.sizeOf28 (OV.p rfl) (OV.p rfl) rfl rfl rfl (by repeat (first | exact Upd.here (cs' := [_]) rfl rfl | apply Upd.up)) ?_
   refine WL.nil ?_
   refine WC.ret ?_
   subst hR
   exact BodyQM.ret (H' := C.A bc :: DvA bd bc g :: T.A bs bd g :: F) (Res.one rfl (R1.cell1 rfl Tryz.isAgg28 (by repeat (first | exact Rd.here rfl | apply Rd.up)))) (fun w h => h.sel 7 [1, 2, 0] rfl) ⟨C, T, hC, hg, hT, rfl, rfl, rfl, rfl⟩
  ·simp only [Bool.not_eq_true', Bool.not_eq_false', decide_eq_true_eq, decide_eq_false_iff_not] at hc0
   have h0 := hc0
   have hr0 : T.sem.ready leb = 0 := by omega
   rw [if_neg (fun h => h hr0)] at hR
   have hinl := hin hr0
   refine WC.skip ?_
   refine WC.seq ?_
   refine WC.block ?_
   refine WC.seq ?_
   refine WC.regionQ (by kernel_rfl) (by kernel_rfl) ?_
   refine WQ.val (V.load Tryz.isAgg38 (OV.p rfl) (fun _ => by repeat (first | exact Rd.here rfl | apply Rd.up))) rfl ?_
   refine WQ.val (V.len (t := 38) Tryz.runUnderlying38 (OV.p rfl)) rfl ?_
   refine WQ.val (V.load Tryz.isAgg56 (OV.p rfl) (fun _ => by repeat (first | exact Rd.here rfl | apply Rd.up))) rfl ?_
   refine WQ.call (vs := [_]) Tryz.call34 ⟨OV.p rfl, trivial⟩ (store_Cap hgm) rfl ?_
   refine WQ.val (V.gtr (OV.p rfl) (OV.p rfl)) rfl ?_
   refine WQ.val (V.assign (OV.p rfl)) rfl ?_
   refine WQ.nil ?_
   refine WC.cond rfl (fun hc1 => ?_) (fun hc1 => ?_)
   ·simp only [Bool.not_eq_true', Bool.not_eq_false', decide_eq_true_eq, decide_eq_false_iff_not] at hc1
    have h1 := hc1
    rw [if_pos (by omega)] at hR
    refine WC.sr ?_
    refine WL.store (cs := [_]) Tryz.sizeOf28 (OV.p rfl) (OV.p rfl) rfl rfl rfl (by repeat (first | exact Upd.here (cs' := [_]) rfl rfl | apply Upd.up)) ?_
    refine WL.nil ?_
    refine WC.ret ?_
    subst hR
    exact BodyQM.ret (H' := C.A bc :: DvA bd bc g :: T.A bs bd g :: F) (Res.one rfl (R1.cell1 rfl Tryz.isAgg28 (by repeat (first | exact Rd.here rfl | apply Rd.up)))) (fun w h => h.sel 7 [1, 2, 0] rfl) ⟨C, T, hC, hg, hT, rfl, rfl, rfl, rfl⟩
   ·simp only [Bool.not_eq_true', Bool.not_eq_false', decide_eq_true_eq, decide_eq_false_iff_not] at hc1
    have h1 := hc1
    rw [if_neg (by omega)] at hR
    refine WC.sr ?_
    refine WL.ld Tryz.isAgg56 rfl rfl ?_
    refine WL.nc rfl rfl ?_
    refine WL.val (V.fieldAddr fo126_4 (OV.p rfl)) rfl ?_
    refine WL.val (V.load Tryz.isAgg3 (OV.p rfl) (fun _ => Stw.rds 8 _ rfl)) rfl ?_
    refine WL.val (V.gtr (OV.p rfl) (OV.p rfl)) rfl ?_
    refine WL.sg rfl rfl ?_
    refine WL.nil ?_
    refine WC.cond rfl (fun hc2 => ?_) (fun hc2 => ?_)
    ·simp only [Bool.not_eq_true', Bool.not_eq_false', decide_eq_true_eq, decide_eq_false_iff_not] at hc2
     have h2 := hc2
     rw [if_pos (show 1000000000 < T.sem.next from by show 1000000000 < T.next; omega)] at hR
     refine WC.sr ?_
     refine WL.store (cs := [_]) Tryz.sizeOf28 (OV.p rfl) (OV.p rfl) rfl rfl rfl (by repeat (first | exact Upd.here (cs' := [_]) rfl rfl | apply Upd.up)) ?_
     refine WL.nil ?_
     refine WC.ret ?_
     subst hR
     exact BodyQM.ret (H' := C.A bc :: DvA bd bc g :: T.A bs bd g :: F) (Res.one rfl (R1.cell1 rfl Tryz.isAgg28 (by repeat (first | exact Rd.here rfl | apply Rd.up)))) (fun w h => h.sel 7 [1, 2, 0] rfl) ⟨C, T, hC, hg, hT, rfl, rfl, rfl, rfl⟩
    ·simp only [Bool.not_eq_true', Bool.not_eq_false', decide_eq_true_eq, decide_eq_false_iff_not] at hc2
     have h2 := hc2
     rw [if_neg (show ¬ 1000000000 < T.sem.next from by show ¬ 1000000000 < T.next; omega)] at hR
     refine WC.skip ?_
     refine WC.seq ?_
     refine WC.sr ?_
     refine WL.ld Tryz.isAgg56 rfl rfl ?_
     refine WL.call (vs := [_]) Tryz.call96 ⟨OV.p rfl, trivial⟩ (free_make) rfl ?_
     rintro _ _ ⟨b30, rfl, rfl⟩
     refine WL.nil ?_
     refine WC.block ?_
     obtain ⟨I, hI⟩ : ∃ I : Nat → Cw → Stw → Prop, I = fun j C' T' => C'.Ok ∧ C'.g = g ∧ T'.Ok g ∧ T'.stands = T.stands ∧ T'.at_ = T.at_ ∧ T'.next ≤ 1000000000 ∧ (∀ l ∈ T'.sem.stale, l.length ≤ 1000000) ∧ chgL leb d (candsF C.sem.good T.stands T.at_ g.bl n j) C'.sem T'.sem = L := ⟨_, rfl⟩
     refine WC.sub (H' := C.A bc :: DvA bd bc g :: T.A bs bd g :: Cells b30 56 [ptr bs 0] :: Cells b6 28 [.int .i64 0] :: Cells b5 38 [.slice A m cap] :: Cells b4 3 [.int .i64 leb] :: Cells b3 56 [ptr bs 0] :: F) (Sub.refl _) (fun w h => h.sel 8 [2, 3, 1, 0, 4, 5, 6, 7] rfl) ?_
     refine WC.range (gf := 136) (lb := [ptr b30 0]) (Done := fun H1 => ∃ X C' T', I n C' T' ∧ H1 = X :: C'.A bc :: DvA bd bc g :: T'.A bs bd g :: Cells b30 56 [ptr bs 0] :: Cells b6 28 [.int .i64 0] :: Cells b5 38 [.slice A m cap] :: Cells b4 3 [.int .i64 leb] :: Cells b3 56 [ptr bs 0] :: F) (X := fun c H1 => ∃ (X : Assn) (C' : Cw) (T' : Stw) (e : Int), c = .ret ∧ C'.Ok ∧ C'.g = g ∧ T'.Ok g ∧ L = (C'.sem, T'.sem, some e) ∧ H1 = X :: C'.A bc :: DvA bd bc g :: T'.A bs bd g :: Cells b30 56 [ptr bs 0] :: Cells b6 28 [.int .i64 e] :: Cells b5 38 [.slice A m cap] :: Cells b4 3 [.int .i64 leb] :: Cells b3 56 [ptr bs 0] :: F) rfl Tryz.call136 (fun r l e1 e2 e3 hA => ?_) (fun D H1 hd => ?_) (fun D c H1 hx => by
       obtain ⟨X, C', T', e, rfl, hC', hg', hT', hLe, rfl⟩ := hx
       rw [hLe] at hR
       dsimp only at hR
       subst hR
       refine WC.ret ?_
       exact BodyQM.retD (H' := C'.A bc :: DvA bd bc g :: T'.A bs bd g :: F) (X :: C'.A bc :: DvA bd bc g :: T'.A bs bd g :: Cells b30 56 [ptr bs 0] :: Cells b6 28 [.int .i64 e] :: Cells b5 38 [.slice A m cap] :: Cells b4 3 [.int .i64 leb] :: Cells b3 56 [ptr bs 0] :: F) (fun w h => h) (Res.one rfl (R1.cell1 rfl Tryz.isAgg28 (by repeat (first | exact Rd.here rfl | apply Rd.up)))) (fun w h => h.sel 9 [1, 2, 3] rfl) ⟨C', T', hC', hg', hT', rfl, rfl, rfl, rfl⟩)
     have hIe : ∀ j C' T', I j C' T' → C'.Ok ∧ C'.g = g ∧ T'.Ok g ∧ T'.stands = T.stands ∧ T'.at_ = T.at_ := fun j C' T' h => by rw [hI] at h; exact ⟨h.1, h.2.1, h.2.2.1, h.2.2.2.1, h.2.2.2.2.1⟩
     have hI0 : I 0 C T := by
       rw [hI]
       refine ⟨hC, hg, hT, rfl, rfl, by omega, hlong, ?_⟩
       rw [hL, hnn]; rfl
     suffices hround : ∀ j C' T' X, j < n → ((T.at_ + (j : Int)) % g.bl ∈ C.sem.good ∧ ¬ (T.at_ + (j : Int)) % g.bl ∈ T.stands) → I j C' T' → YieldsTo Tryz.prog K none l #[.int .i64 ((T.at_ + (j : Int)) % g.bl)] (r.A l .ready none :: DefA r.D :: X :: C'.A bc :: DvA bd bc g :: T'.A bs bd g :: Cells b30 56 [ptr bs 0] :: Cells b6 28 [.int .i64 0] :: Cells b5 38 [.slice A m cap] :: Cells b4 3 [.int .i64 leb] :: Cells b3 56 [ptr bs 0] :: F)
         (fun b H' => (b = true ∧ ∃ C2 T2, I (j + 1) C2 T2 ∧ H' = r.A l .ready none :: DefA r.D :: X :: C2.A bc :: DvA bd bc g :: T2.A bs bd g :: Cells b30 56 [ptr bs 0] :: Cells b6 28 [.int .i64 0] :: Cells b5 38 [.slice A m cap] :: Cells b4 3 [.int .i64 leb] :: Cells b3 56 [ptr bs 0] :: F) ∨
           (b = false ∧ ∃ (C2 : Cw) (T2 : Stw) (e : Int), C2.Ok ∧ C2.g = g ∧ T2.Ok g ∧ L = (C2.sem, T2.sem, some e) ∧ H' = r.A l .done (some .ret) :: DefA r.D :: X :: C2.A bc :: DvA bd bc g :: T2.A bs bd g :: Cells b30 56 [ptr bs 0] :: Cells b6 28 [.int .i64 e] :: Cells b5 38 [.slice A m cap] :: Cells b4 3 [.int .i64 leb] :: Cells b3 56 [ptr bs 0] :: F)) from by
       have h1 := free_does (b1 := b30) (Y1 := r.A l .ready none) (Y2 := DefA r.D) hn hgm hT.at_ I (fun X H' => ∃ (C2 : Cw) (T2 : Stw) (e : Int), C2.Ok ∧ C2.g = g ∧ T2.Ok g ∧ L = (C2.sem, T2.sem, some e) ∧ H' = r.A l .done (some .ret) :: DefA r.D :: X :: C2.A bc :: DvA bd bc g :: T2.A bs bd g :: Cells b30 56 [ptr bs 0] :: Cells b6 28 [.int .i64 e] :: Cells b5 38 [.slice A m cap] :: Cells b4 3 [.int .i64 leb] :: Cells b3 56 [ptr bs 0] :: F) hIe
         (fun j C' T' hj hno h => by
           rw [hI] at h ⊢
           exact ⟨h.1, h.2.1, h.2.2.1, h.2.2.2.1, h.2.2.2.2.1, h.2.2.2.2.2.1, h.2.2.2.2.2.2.1, by rw [← candsF_no hj hno]; exact h.2.2.2.2.2.2.2⟩) hround rfl hI0
       exact h1.mono fun v H' ⟨X, h⟩ => by
         rcases h with ⟨C', T', hI2, e⟩ | ⟨C', T', e, k1, k2, k3, k4, eH⟩
         · exact ⟨none, _, e, X, C', T', hI2, rfl⟩
         · exact ⟨some .ret, _, eH, X, C', T', e, rfl, k1, k2, k3, k4, rfl⟩
     rintro j C' T' X hj hcand hIj
     obtain ⟨b, hb⟩ : ∃ b, b = (T.at_ + (j : Int)) % g.bl := ⟨_, rfl⟩
     rw [← hb] at hcand ⊢
     refine YieldsTo.mono (yields_round (n := 115) (args := [.int .i64 b]) (post := fun jj H1 => (jj = none ∧ ∃ C2 T2, I (j + 1) C2 T2 ∧ H1 = DefA r.D :: X :: C2.A bc :: DvA bd bc g :: T2.A bs bd g :: Cells b30 56 [ptr bs 0] :: Cells b6 28 [.int .i64 0] :: Cells b5 38 [.slice A m cap] :: Cells b4 3 [.int .i64 leb] :: Cells b3 56 [ptr bs 0] :: F) ∨
         (jj = some .ret ∧ ∃ (C2 : Cw) (T2 : Stw) (e : Int), C2.Ok ∧ C2.g = g ∧ T2.Ok g ∧ L = (C2.sem, T2.sem, some e) ∧ H1 = DefA r.D :: X :: C2.A bc :: DvA bd bc g :: T2.A bs bd g :: Cells b30 56 [ptr bs 0] :: Cells b6 28 [.int .i64 e] :: Cells b5 38 [.slice A m cap] :: Cells b4 3 [.int .i64 leb] :: Cells b3 56 [ptr bs 0] :: F)) (by rw [e1]; rfl) (by rw [e1]; simp) hA ?_) (fun b2 H' ⟨jj, H1, hb2, hj2, eH⟩ => by
       rcases hj2 with ⟨rfl, C2, T2, hI2, rfl⟩ | ⟨rfl, C2, T2, e, k1, k2, k3, k4, rfl⟩
       · exact .inl ⟨hb2, C2, T2, hI2, eH⟩
       · exact .inr ⟨hb2, C2, T2, e, k1, k2, k3, k4, eH⟩)
     rw [e1, e2]
     rw [hI] at hIj
     obtain ⟨hC', hg', hT', hst', hat', hnx', hlo', hch⟩ := hIj
     rw [candsF_yes hj (by rw [← hb]; exact hcand), ← hb] at hch
     have hbb : 0 ≤ b ∧ b < g.bl := by
       rw [hb]
       exact ⟨Int.emod_nonneg _ (by omega), Int.emod_lt_of_pos _ (by omega)⟩
     refine WC.sub (E := (31, _) :: _) (Sub.refl _) (fun w h => h) ?_
     ·skip
      refine WC.region ?_
      refine WL.sg rfl rfl ?_
      refine WL.nil ?_
      refine ⟨_, fun w h => h, ?_⟩
      rw [e3]
      refine WC.block ?_
      refine WC.sr ?_
      refine WL.ld Tryz.isAgg56 rfl rfl ?_
      refine WL.mv rfl rfl ?_
      refine WL.sub (Sub.refl _) (fun w h => h.sel 6 [5, 0, 1, 2, 3, 4] rfl) ?_
      refine WL.call (vs := [_, _]) Tryz.call97 ⟨OV.p rfl, OV.p rfl, trivial⟩ (store_forget hT' b) rfl ?_
      rintro v34 _ ⟨T1, hT1, hs1, rfl⟩
      have hnx1 : T1.next = T'.next := congrArg St.next hs1
      have hst1 : T1.stands = T.stands := (congrArg St.stands hs1).trans hst'
      have hat1 : T1.at_ = T.at_ := (congrArg St.at_ hs1).trans hat'
      have hnb := hT'.next
      have hlo1 : ∀ l ∈ T1.sem.stale, l.length ≤ 1000000 := fun l hl => by
        rw [hs1] at hl
        obtain ⟨l', hl', rfl⟩ := List.mem_map.1 hl
        exact Nat.le_trans (List.length_filter_le _ _) (hlo' l' hl')
      have hlb := hT.lebs
      have hmay : Hd.may g ⟨leb, (d.length : Nat), T1.next⟩ = true := by
        unfold Hd.may Geo.fits
        simp only [Bool.and_eq_true, decide_eq_true_eq]
        rw [hdl, hnx1]
        exact ⟨⟨⟨⟨⟨by omega, by omega⟩, by omega⟩, by omega⟩, by omega⟩, by omega⟩
      refine WL.nil ?_
      refine WC.sr ?_
      refine WL.ld Tryz.isAgg56 rfl rfl ?_
      refine WL.mv rfl rfl ?_
      refine WL.ld Tryz.isAgg3 rfl rfl ?_
      refine WL.ld Tryz.isAgg38 rfl rfl ?_
      refine WL.sub (Sub.refl _) (fun w h => h.sel 6 [4, 5, 0, 1, 2, 3] rfl) ?_
      refine WL.call (vs := [_, _, _, _]) Tryz.call98 ⟨OV.p rfl, OV.p rfl, OV.p rfl, OV.p rfl, trivial⟩ (store_write (d := d) hC' hg' hT1 (by repeat (first | exact hd | apply Seq.up)) h8 hmc hm hinl.1 hmay) rfl ?_
      rintro _ _ ⟨C2, hC2, hg2, hs2, rfl, rfl⟩
      obtain ⟨W, hW⟩ : ∃ W, W = sWrite C'.sem T1.next b leb d := ⟨_, rfl⟩
      rw [← hW] at hs2 ⊢
      have hc1 : chg1 leb d C'.sem T'.sem b = if W.2 = 72 then (W.1, { T1.sem with next := min (T1.next + 1) 1000000001 }, if 1000000000 < min (T1.next + 1) 1000000001 then some 6 else none) else if W.2 ≠ 0 then (W.1, T1.sem.told W.2, some W.2) else (W.1, (T1.sem.mark leb).done leb b g.bl, some 0) := by
        unfold chg1
        rw [show C'.sem.g = g from hg', show T'.sem.next = T1.next from hnx1.symm, ← hW, ← hs1]
      rw [chgL, hc1] at hch
      refine WL.sg rfl rfl ?_
      refine WL.nil ?_
      refine WC.seq ?_
      refine WC.sr ?_
      refine WL.mv rfl rfl ?_
      refine WL.val (V.eql (OV.p rfl) (OV.p rfl)) rfl ?_
      refine WL.nil ?_
      refine WC.cond rfl (fun hc3 => ?_) (fun hc3 => ?_)
      ·simp only [decide_eq_true_eq, decide_eq_false_iff_not] at hc3
       have h3 := hc3
       rw [if_pos h3] at hch
       dsimp only at hch
       refine WC.seq ?_
       refine WC.sub (H' := T1.A bs bd g :: C2.A bc :: DvA bd bc g :: r.A l .busy none :: DefA r.D :: X :: Cells b30 56 [ptr bs 0] :: Cells b6 28 [.int .i64 0] :: Cells b5 38 [.slice A m cap] :: Cells b4 3 [.int .i64 leb] :: Cells b3 56 [ptr bs 0] :: F) (Sub.refl _) (fun w h => h.sel 3 [2, 0, 1] rfl) ?_
       refine WC.regionAR (C2.A bc :: DvA bd bc g :: r.A l .busy none :: DefA r.D :: X :: Cells b30 56 [ptr bs 0] :: Cells b6 28 [.int .i64 0] :: Cells b5 38 [.slice A m cap] :: Cells b4 3 [.int .i64 leb] :: Cells b3 56 [ptr bs 0] :: F) (by kernel_rfl) ?_
       refine WA.t 0 rfl (V.load Tryz.isAgg56 (OV.p rfl) (fun _ => by repeat (first | exact Rd.here rfl | apply Rd.up))) ?_
       refine WA.t 1 rfl (V.load Tryz.isAgg56 (OV.p rfl) (fun _ => by repeat (first | exact Rd.here rfl | apply Rd.up))) ?_
       refine WA.t 2 rfl (V.nilCheck (OV.p rfl)) ?_
       refine WA.t 3 rfl (V.fieldAddr fo126_4 (OV.p rfl)) ?_
       refine WA.o 4 rfl ?_
       refine WL.val (V.load Tryz.isAgg3 (OV.p rfl) (fun _ => Stw.rds 8 _ rfl)) rfl ?_
       refine WL.nil ?_
       refine WA.t 5 rfl (V.addI (OV.p rfl) (OV.p rfl) (fun hc => by first | omega | (simp at hc; omega))) ?_
       refine WA.t 6 rfl (V.min (OV.p rfl) (OV.p rfl)) ?_
       refine WA.t 7 rfl (V.nilCheck (OV.p rfl)) ?_
       refine WA.t 8 rfl (V.fieldAddr fo126_4 (OV.p rfl)) ?_
       refine WA.o 9 rfl ?_
       refine WL.store (cs := [_]) Tryz.sizeOf3 (OV.p rfl) (OV.p rfl) rfl rfl rfl (Stw.updN T1 (min (T1.next + 1) 1000000001)) ?_
       refine WL.nil ?_
       refine WA.fin ?_
       refine WC.seq ?_
       refine WC.sr ?_
       refine WL.ld Tryz.isAgg56 rfl rfl ?_
       refine WL.nc rfl rfl ?_
       refine WL.val (V.fieldAddr fo126_4 (OV.p rfl)) rfl ?_
       refine WL.val (V.load Tryz.isAgg3 (OV.p rfl) (fun _ => Stw.rds 8 _ rfl)) rfl ?_
       refine WL.val (V.gtr (OV.p rfl) (OV.p rfl)) rfl ?_
       refine WL.nil ?_
       refine WC.cond rfl (fun hc4 => ?_) (fun hc4 => ?_)
       ·simp only [decide_eq_true_eq, decide_eq_false_iff_not] at hc4
        have h4 : 1000000000 < min (T1.next + 1) 1000000001 ∨ ¬ 1000000000 < min (T1.next + 1) 1000000001 := Decidable.em _
        have h4 : 1000000000 < min (T1.next + 1) 1000000001 := by have := hc4; exact this
        rw [if_pos h4, if_neg (fun h => by cases h)] at hch
        have hT2 : Stw.Ok g { T1 with next := min (T1.next + 1) 1000000001 } := ⟨hT1.len, hT1.lebs, by show 1 ≤ min (T1.next + 1) 1000000001 ∧ min (T1.next + 1) 1000000001 ≤ 1000000001; omega, hT1.at_, hT1.std⟩
        refine WC.sr ?_
        refine WL.store (cs := [_]) Tryz.sizeOf28 (OV.p rfl) (OV.p rfl) rfl rfl rfl (by repeat (first | exact Upd.here rfl rfl | apply Upd.up)) ?_
        refine WL.nil ?_
        refine WC.ret ?_
        exact ⟨_, fun w h => h.sel 6 [3, 4, 5, 1, 2, 0] rfl, .inr ⟨rfl, C2, _, 6, hC2, hg2, hT2, by rw [← hch, hs2]; rfl, rfl⟩⟩
       ·simp only [decide_eq_true_eq, decide_eq_false_iff_not] at hc4
        have h4 : 1000000000 < min (T1.next + 1) 1000000001 ∨ ¬ 1000000000 < min (T1.next + 1) 1000000001 := Decidable.em _
        have h4 : ¬ 1000000000 < min (T1.next + 1) 1000000001 := by have := hc4; exact this
        rw [if_neg h4, if_pos rfl] at hch
        have hT2 : Stw.Ok g { T1 with next := min (T1.next + 1) 1000000001 } := ⟨hT1.len, hT1.lebs, by show 1 ≤ min (T1.next + 1) 1000000001 ∧ min (T1.next + 1) 1000000001 ≤ 1000000001; omega, hT1.at_, hT1.std⟩
        refine WC.skip ?_
        refine WC.exit ?_
        refine ⟨_, fun w h => h.sel 6 [3, 4, 5, 1, 2, 0] rfl, .inl ⟨rfl, C2, _, ?_, rfl⟩⟩
        rw [hI]
        exact ⟨hC2, hg2, hT2, hst1, hat1, by show min (T1.next + 1) 1000000001 ≤ 1000000000; omega, hlo1, by rw [hs2]; exact hch⟩
      ·simp only [decide_eq_true_eq, decide_eq_false_iff_not] at hc3
       have h3 := hc3
       rw [if_neg h3] at hch
       refine WC.skip ?_
       refine WC.seq ?_
       refine WC.sr ?_
       refine WL.mv rfl rfl ?_
       refine WL.val (V.neq (OV.p rfl) (OV.p rfl)) rfl ?_
       refine WL.nil ?_
       refine WC.cond rfl (fun hc5 => ?_) (fun hc5 => ?_)
       ·simp only [Bool.not_eq_true', Bool.not_eq_false', decide_eq_true_eq, decide_eq_false_iff_not] at hc5
        have h5 := hc5
        rw [if_pos h5, if_neg (fun h => by cases h)] at hch
        refine WC.sr ?_
        refine WL.ld Tryz.isAgg56 rfl rfl ?_
        refine WL.mv rfl rfl ?_
        refine WL.sub (Sub.refl _) (fun w h => h.sel 3 [2, 0, 1] rfl) ?_
        refine WL.call (vs := [_, _]) Tryz.call89 ⟨OV.p rfl, OV.p rfl, trivial⟩ (store_told W.2) rfl ?_
        rintro _ _ ⟨rfl, rfl⟩
        refine WL.store (cs := [_]) Tryz.sizeOf28 (OV.p rfl) (OV.p rfl) rfl rfl rfl (by repeat (first | exact Upd.here rfl rfl | apply Upd.up)) ?_
        refine WL.nil ?_
        refine WC.ret ?_
        exact ⟨_, fun w h => h.sel 6 [3, 4, 5, 1, 2, 0] rfl, .inr ⟨rfl, C2, _, W.2, hC2, hg2, hT1.told _, by rw [← hch, hs2]; rfl, rfl⟩⟩
       ·simp only [Bool.not_eq_true', Bool.not_eq_false', decide_eq_true_eq, decide_eq_false_iff_not] at hc5
        have h5 := hc5
        rw [if_neg (show ¬ (W.2 ≠ 0) from fun h => h (by omega)), if_neg (fun h => by cases h)] at hch
        refine WC.skip ?_
        refine WC.seq ?_
        refine WC.seq ?_
        have hin1 : 0 ≤ leb ∧ leb < T1.stands.length := by rw [hst1]; exact hinl
        refine WC.regionQR (by kernel_rfl) (by kernel_rfl) ?_
        refine WQ.val (V.load Tryz.isAgg56 (OV.p rfl) (fun _ => by repeat (first | exact Rd.here rfl | apply Rd.up))) rfl ?_
        refine WQ.val (V.nilCheck (OV.p rfl)) rfl ?_
        refine WQ.val (V.fieldAddr fo126_2 (OV.p rfl)) rfl ?_
        refine WQ.val (V.load Tryz.isAgg42 (OV.p rfl) (fun _ => by repeat (first | exact Stw.rds 6 _ rfl | apply Rd.up))) rfl ?_
        refine WQ.val (V.load Tryz.isAgg3 (OV.p rfl) (fun _ => by repeat (first | exact Rd.here rfl | apply Rd.up))) rfl ?_
        refine WQ.val (V.idxS st42 (OV.p rfl) (OV.p rfl) (fun _ => hin1) (fun _ => by repeat (first | exact Stw.rdS hin1 | apply Rd.up))) rfl ?_
        refine WQ.val (V.load Tryz.isAgg3 (OV.p rfl) (fun _ => by repeat (first | exact Stw.rdS hin1 | apply Rd.up))) rfl ?_
        refine WQ.val (V.assign (OV.p rfl)) rfl ?_
        refine WQ.nil ?_
        refine WC.sr ?_
        refine WL.mv rfl rfl ?_
        refine WL.val (V.geq (OV.p rfl) (OV.p rfl)) rfl ?_
        refine WL.nil ?_
        refine WC.cond rfl (fun hc6 => ?_) (fun hc6 => ?_)
        ·simp only [ge_iff_le, decide_eq_true_eq, decide_eq_false_iff_not] at hc6
         have h6 := hc6
         have hmk : T1.sem.mark leb = { T1.sem with stale := T1.sem.stale.set leb.toNat (T1.sem.stale.getD leb.toNat [] ++ [T1.sem.at' leb]) } := by unfold St.mark; rw [if_pos (by omega)]
         have hil := hT1.len
         obtain ⟨q, hq⟩ : ∃ q, q = T1.irs[leb.toNat]'(by omega) := ⟨_, rfl⟩
         have hqg : T1.irs[leb.toNat]? = some q := by rw [hq]; exact List.getElem?_eq_getElem (by omega)
         have hqv : (T1.irs.map IRow.v)[0 + leb.toNat * 1]? = some q.v := by rw [show 0 + leb.toNat * 1 = leb.toNat by omega, List.getElem?_map, hqg]; rfl
         have hqb : q.l.length ≤ 1000000 := hlo1 _ (List.mem_map.2 ⟨q, by rw [hq]; exact List.getElem_mem _, rfl⟩)
         have hqrow : (T1.irs.map IRow.row)[leb.toNat]'(by rw [List.length_map]; omega) = q.row := by rw [List.getElem_map, hq]
         refine WC.sub (H' := SlA (.slice q.A q.l.length q.c) 3 1 q.l.length (ints .i64 q.l) :: Cells T1.b8 42 (T1.irs.map IRow.v) :: AllA ((T1.irs.map IRow.row).eraseIdx leb.toNat) :: Cells bs 126 (T1.cells bd g) :: T1.sl :: C2.A bc :: DvA bd bc g :: r.A l .busy none :: DefA r.D :: X :: Cells b30 56 [ptr bs 0] :: Cells b6 28 [.int .i64 0] :: Cells b5 38 [.slice A m cap] :: Cells b4 3 [.int .i64 leb] :: Cells b3 56 [ptr bs 0] :: F) (Sub.refl _) (fun w h => by
           have h9 : Sat K w (Stw.parts bs bd g T1 ++ (C2.A bc :: DvA bd bc g :: r.A l .busy none :: DefA r.D :: X :: Cells b30 56 [ptr bs 0] :: Cells b6 28 [.int .i64 0] :: Cells b5 38 [.slice A m cap] :: Cells b4 3 [.int .i64 leb] :: Cells b3 56 [ptr bs 0] :: F)) := (h.sel 3 [2, 0, 1] rfl).unall
           have h10 := Sat.takeA (k := leb.toNat) (by rw [List.length_map]; omega) (h9.sel 4 [3, 2, 0, 1] rfl)
           rw [hqrow] at h10
           exact h10.sel 5 [0, 2, 1, 3, 4] rfl) ?_
         refine WC.regionAR (AllA ((T1.irs.map IRow.row).eraseIdx leb.toNat) :: Cells bs 126 (T1.cells bd g) :: T1.sl :: C2.A bc :: DvA bd bc g :: r.A l .busy none :: DefA r.D :: X :: Cells b30 56 [ptr bs 0] :: Cells b6 28 [.int .i64 0] :: Cells b5 38 [.slice A m cap] :: Cells b4 3 [.int .i64 leb] :: Cells b3 56 [ptr bs 0] :: F) (by kernel_rfl) ?_
         refine WA.t 0 rfl (V.load Tryz.isAgg56 (OV.p rfl) (fun _ => by repeat (first | exact Rd.here rfl | apply Rd.up))) ?_
         refine WA.t 1 rfl (V.nilCheck (OV.p rfl)) ?_
         refine WA.t 2 rfl (V.fieldAddr fo126_3 (OV.p rfl)) ?_
         refine WA.t 3 rfl (V.load Tryz.isAgg124 (OV.p rfl) (fun _ => by repeat (first | exact Rd.here rfl | apply Rd.up))) ?_
         refine WA.t 4 rfl (V.load Tryz.isAgg3 (OV.p rfl) (fun _ => by repeat (first | exact Rd.here rfl | apply Rd.up))) ?_
         refine WA.t 5 rfl (V.load Tryz.isAgg56 (OV.p rfl) (fun _ => by repeat (first | exact Rd.here rfl | apply Rd.up))) ?_
         refine WA.t 6 rfl (V.nilCheck (OV.p rfl)) ?_
         refine WA.t 7 rfl (V.fieldAddr fo126_3 (OV.p rfl)) ?_
         refine WA.t 8 rfl (V.load Tryz.isAgg124 (OV.p rfl) (fun _ => by repeat (first | exact Rd.here rfl | apply Rd.up))) ?_
         refine WA.t 9 rfl (V.load Tryz.isAgg3 (OV.p rfl) (fun _ => by repeat (first | exact Rd.here rfl | apply Rd.up))) ?_
         refine WA.t 10 rfl (V.idxB st124 (OV.p rfl) (OV.p rfl) (fun hc => by omega)) ?_
         refine WA.t 12 rfl (V.move (OV.p rfl)) ?_
         refine WA.two (i := 11) (j := 13) (fun w h => by repeat (first | exact h | replace h := h.tail)) (by kernel_rfl) rfl rfl ?_ ?_
         ·refine WL.val (V.load Tryz.isAgg42 (OV.p rfl) (fun _ => by repeat (first | exact Rd.here hqv | apply Rd.up))) rfl ?_
          refine WL.nil ?_
          refine WA.o 13 rfl ?_
          refine WL.buildSlice (E := 3) (cs := [_]) (vs := [(0, _)]) ⟨OV.p rfl, trivial⟩ rfl (bsl42_1_0 _) rfl (fun b83 => ?_)
          refine WL.nil ?_
          refine WA.o 14 rfl ?_
          refine WL.sub (Sub.refl _) (fun w h => h.p1) ?_
          refine WL.append (m := q.l.length) (q := 1) (news := [.int .i64 (T1.sem.at' leb)]) Tryz.underlying42 el3 (OV.p rfl) (OV.p rfl) (Seq.all rfl) (by intro u hu; rw [List.mem_singleton.1 hu]; rfl) (by omega) rfl rfl (fun A5 c5 hA5 hc5 => ?_)
          refine WL.nil ?_
          refine WA.t 15 rfl (V.idxB st124 (OV.p rfl) (OV.p rfl) (fun hc => by omega)) ?_
          refine WA.o 16 rfl ?_
          refine WL.store (cs := [_]) Tryz.sizeOf42 (OV.p rfl) (OV.p rfl) rfl rfl rfl (Upd.up (Upd.up (Upd.at_ (by rw [List.length_map]; omega)))) ?_
          refine WL.nil ?_
          refine WA.fin ?_
          refine WC.seq ?_
          first
            | (obtain ⟨T3, hT3⟩ : ∃ T3 : Stw, T3 = { T1 with irs := T1.irs.set leb.toNat ⟨A5, c5, q.l ++ [T1.sem.at' leb]⟩ } := ⟨_, rfl⟩
               have hok3 : T3.Ok g := by
                 rw [hT3]
                 exact ⟨by show (T1.irs.set _ _).length = _; rw [List.length_set]; exact hT1.len, hT1.lebs, hT1.next, hT1.at_, hT1.std⟩
               have hs3 : T3.sem = T1.sem.mark leb := by
                 rw [hmk, hT3]
                 unfold Stw.sem
                 dsimp only
                 rw [List.map_set]
                 have e1 : (T1.irs.map IRow.l).getD leb.toNat [] = q.l := by
                   simp only [List.getD, List.getElem?_map, hqg, Option.map_some, Option.getD_some]
                 rw [e1]
               have hd3 : T3.stands = T1.stands := by rw [hT3]
               refine WC.sub (H' := T3.A bs bd g :: C2.A bc :: DvA bd bc g :: r.A l .busy none :: DefA r.D :: X :: Cells b30 56 [ptr bs 0] :: Cells b6 28 [.int .i64 0] :: Cells b5 38 [.slice A m cap] :: Cells b4 3 [.int .i64 leb] :: Cells b3 56 [ptr bs 0] :: F) (Sub.refl _) (fun w h => by
                 have h5 := h.sel 6 [0, 3, 2, 4, 5] rfl
                 have e1 : SlA (.slice A5 (q.l.length + 1) c5) 3 1 (q.l.length + 1) (ints .i64 q.l ++ [.int .i64 (T1.sem.at' leb)]) = IRow.row ⟨A5, c5, q.l ++ [T1.sem.at' leb]⟩ := by
                   unfold IRow.row
                   rw [ints_append, List.length_append]; rfl
                 rw [e1] at h5
                 have h6 := Sat.putA (l := T1.irs.map IRow.row) (k := leb.toNat) (by rw [List.length_map]; omega) h5
                 have e2 : (T1.irs.map IRow.v).set (0 + leb.toNat * 1) (.slice A5 (q.l.length + 1) c5) = (T1.irs.set leb.toNat ⟨A5, c5, q.l ++ [T1.sem.at' leb]⟩).map IRow.v := by
                   rw [show 0 + leb.toNat * 1 = leb.toNat by omega, List.map_set]
                   show _ = (T1.irs.map IRow.v).set leb.toNat (.slice A5 (q.l ++ [T1.sem.at' leb]).length c5)
                   rw [List.length_append]; rfl
                 rw [e2, ← List.map_set] at h6
                 have h7 := Sat.all (l := Stw.parts bs bd g T3) (H := C2.A bc :: DvA bd bc g :: r.A l .busy none :: DefA r.D :: X :: Cells b30 56 [ptr bs 0] :: Cells b6 28 [.int .i64 0] :: Cells b5 38 [.slice A m cap] :: Cells b4 3 [.int .i64 leb] :: Cells b3 56 [ptr bs 0] :: F) (K := K) (w := w) (by
                   unfold Stw.parts Stw.cells Stw.sl
                   rw [hT3]
                   dsimp only
                   rw [List.length_set]
                   exact h6.sel 4 [2, 3, 1, 0] rfl)
                 exact h7) ?_)
            | (obtain ⟨T3, hT3⟩ : ∃ T3 : Stw, T3 = T1 := ⟨_, rfl⟩
               have hok3 : T3.Ok g := by rw [hT3]; exact hT1
               have hs3 : T3.sem = T1.sem.mark leb := by rw [hmk, hT3]
               have hd3 : T3.stands = T1.stands := by rw [hT3]
               rw [← hT3]
               refine WC.sub (H' := T3.A bs bd g :: C2.A bc :: DvA bd bc g :: r.A l .busy none :: DefA r.D :: X :: Cells b30 56 [ptr bs 0] :: Cells b6 28 [.int .i64 0] :: Cells b5 38 [.slice A m cap] :: Cells b4 3 [.int .i64 leb] :: Cells b3 56 [ptr bs 0] :: F) (Sub.refl _) (fun w h => h.sel 3 [2, 0, 1] rfl) ?_)
          rw [← hs3] at hch
          have hin3 : 0 ≤ leb ∧ leb < T3.stands.length := by rw [hd3, hst1]; exact hinl
          refine WC.have_ (p := ∃ g1, T3.sA = some ⟨g1, 0, none⟩) (fun w h => Stw.someS (by omega) h) (fun ⟨g1, hA3⟩ => ?_)
          refine WC.regionAR (C2.A bc :: DvA bd bc g :: r.A l .busy none :: DefA r.D :: X :: Cells b30 56 [ptr bs 0] :: Cells b6 28 [.int .i64 0] :: Cells b5 38 [.slice A m cap] :: Cells b4 3 [.int .i64 leb] :: Cells b3 56 [ptr bs 0] :: F) (by kernel_rfl) ?_
          refine WA.t 0 rfl (V.load Tryz.isAgg56 (OV.p rfl) (fun _ => by repeat (first | exact Rd.here rfl | apply Rd.up))) ?_
          refine WA.t 1 rfl (V.nilCheck (OV.p rfl)) ?_
          refine WA.t 2 rfl (V.fieldAddr fo126_2 (OV.p rfl)) ?_
          refine WA.t 4 rfl (V.load Tryz.isAgg3 (OV.p rfl) (fun _ => by repeat (first | exact Rd.here rfl | apply Rd.up))) ?_
          refine WA.t 5 rfl (V.move (OV.p rfl)) ?_
          refine WA.o 3 rfl ?_
          refine WL.val (V.val_eq (v' := .slice (some ⟨g1, 0, none⟩) T3.stands.length T3.sc) (V.load Tryz.isAgg42 (OV.p rfl) (fun _ => Stw.rds 6 _ rfl)) (fun _ => by rw [hA3])) rfl ?_
          refine WL.nil ?_
          refine WA.t 6 rfl (V.idxB st42 (OV.p rfl) (OV.p rfl) (fun hc => by omega)) ?_
          refine WA.o 7 rfl ?_
          refine WL.store (cs := [_]) Tryz.sizeOf3 (OV.p rfl) (OV.p rfl) rfl rfl rfl (Stw.updS hA3 (by omega) b) ?_
          refine WL.nil ?_
          refine WA.fin ?_
          refine WC.sr ?_
          refine WL.ld Tryz.isAgg56 rfl rfl ?_
          refine WL.nc rfl rfl ?_
          refine WL.val (V.fieldAddr fo126_4 (OV.p rfl)) rfl ?_
          refine WL.val (V.load Tryz.isAgg3 (OV.p rfl) (fun _ => Stw.rds 8 _ rfl)) rfl ?_
          have hnx3 := hok3.next
          refine WL.val (V.addI (OV.p rfl) (OV.p rfl) (fun _ => by dsimp only; omega)) rfl ?_
          refine WL.nc rfl rfl ?_
          refine WL.val (V.fieldAddr fo126_4 (OV.p rfl)) rfl ?_
          refine WL.store (cs := [_]) Tryz.sizeOf3 (OV.p rfl) (OV.p rfl) rfl rfl rfl (Stw.updN _ _) ?_
          refine WL.nil ?_
          refine WC.seq ?_
          refine WC.regionAR (C2.A bc :: DvA bd bc g :: r.A l .busy none :: DefA r.D :: X :: Cells b30 56 [ptr bs 0] :: Cells b6 28 [.int .i64 0] :: Cells b5 38 [.slice A m cap] :: Cells b4 3 [.int .i64 leb] :: Cells b3 56 [ptr bs 0] :: F) (by kernel_rfl) ?_
          refine WA.t 0 rfl (V.load Tryz.isAgg56 (OV.p rfl) (fun _ => by repeat (first | exact Rd.here rfl | apply Rd.up))) ?_
          refine WA.t 1 rfl (V.move (OV.p rfl)) ?_
          refine WA.t 2 rfl (V.addI (OV.p rfl) (OV.p rfl) (fun hc => by first | omega | (simp at hc; omega))) ?_
          refine WA.t 3 rfl (V.load Tryz.isAgg56 (OV.p rfl) (fun _ => by repeat (first | exact Rd.here rfl | apply Rd.up))) ?_
          refine WA.t 4 rfl (V.nilCheck (OV.p rfl)) ?_
          refine WA.t 5 rfl (V.fieldAddr fo126_1 (OV.p rfl)) ?_
          refine WA.t 6 rfl (V.fieldAddr fo23_0 (OV.p rfl)) ?_
          refine WA.o 7 rfl ?_
          refine WL.val (V.load Tryz.isAgg3 (OV.p rfl) (fun _ => Stw.rds 1 _ rfl)) rfl ?_
          refine WL.nil ?_
          refine WA.t 8 rfl (V.remI (OV.p rfl) (OV.p rfl) (fun _ => by omega)) ?_
          refine WA.t 9 rfl (V.nilCheck (OV.p rfl)) ?_
          refine WA.t 10 rfl (V.fieldAddr fo126_5 (OV.p rfl)) ?_
          refine WA.o 11 rfl ?_
          refine WL.store (cs := [_]) Tryz.sizeOf3 (OV.p rfl) (OV.p rfl) rfl rfl rfl (Stw.updT _ _) ?_
          refine WL.nil ?_
          refine WA.fin ?_
          refine WC.sr ?_
          refine WL.store (cs := [_]) Tryz.sizeOf28 (OV.p rfl) (OV.p rfl) rfl rfl rfl (by repeat (first | exact Upd.here rfl rfl | apply Upd.up)) ?_
          refine WL.nil ?_
          refine WC.ret ?_
          refine ⟨_, fun w h => h.sel 6 [3, 4, 5, 1, 2, 0] rfl, .inr ⟨rfl, C2, _, 0, hC2, hg2, ?_, ?_, rfl⟩⟩
          · have hnx3 := hok3.next
            have hn3 : T3.next ≤ 1000000000 := by
              have e1 : T3.sem.next = T1.sem.next := by rw [hs3]; unfold St.mark; split <;> rfl
              have e2 : T3.next = T1.next := e1
              omega
            have hrm : 0 ≤ (b + 1) % g.bl ∧ (b + 1) % g.bl < g.bl := ⟨Int.emod_nonneg _ (by omega), Int.emod_lt_of_pos _ (by omega)⟩
            refine ⟨by show T3.irs.length = (T3.stands.set _ _).length; rw [List.length_set]; exact hok3.len, by show 1 ≤ (T3.stands.set _ _).length ∧ _; rw [List.length_set]; exact hok3.lebs, by show 1 ≤ T3.next + 1 ∧ T3.next + 1 ≤ 1000000001; omega, hrm, fun x hx => ?_⟩
            rcases List.mem_or_eq_of_mem_set hx with hx | rfl
            · exact hok3.std x hx
            · omega
          · rw [← hch, hs2]
            unfold St.done Stw.sem
            dsimp only
            rw [show 0 + leb.toNat * 1 = leb.toNat by omega]
         ·refine WL.buildSlice (E := 3) (cs := [_]) (vs := [(0, _)]) ⟨OV.p rfl, trivial⟩ rfl (bsl42_1_0 _) rfl (fun b83 => ?_)
          refine WL.nil ?_
          refine WA.o 11 rfl ?_
          refine WL.val (V.load Tryz.isAgg42 (OV.p rfl) (fun _ => by repeat (first | exact Rd.here hqv | apply Rd.up))) rfl ?_
          refine WL.nil ?_
          refine WA.o 14 rfl ?_
          refine WL.sub (Sub.refl _) (fun w h => h.p1) ?_
          refine WL.append (m := q.l.length) (q := 1) (news := [.int .i64 (T1.sem.at' leb)]) Tryz.underlying42 el3 (OV.p rfl) (OV.p rfl) (Seq.all rfl) (by intro u hu; rw [List.mem_singleton.1 hu]; rfl) (by omega) rfl rfl (fun A5 c5 hA5 hc5 => ?_)
          refine WL.nil ?_
          refine WA.t 15 rfl (V.idxB st124 (OV.p rfl) (OV.p rfl) (fun hc => by omega)) ?_
          refine WA.o 16 rfl ?_
          refine WL.store (cs := [_]) Tryz.sizeOf42 (OV.p rfl) (OV.p rfl) rfl rfl rfl (Upd.up (Upd.up (Upd.at_ (by rw [List.length_map]; omega)))) ?_
          refine WL.nil ?_
          refine WA.fin ?_
          refine WC.seq ?_
          first
            | (obtain ⟨T3, hT3⟩ : ∃ T3 : Stw, T3 = { T1 with irs := T1.irs.set leb.toNat ⟨A5, c5, q.l ++ [T1.sem.at' leb]⟩ } := ⟨_, rfl⟩
               have hok3 : T3.Ok g := by
                 rw [hT3]
                 exact ⟨by show (T1.irs.set _ _).length = _; rw [List.length_set]; exact hT1.len, hT1.lebs, hT1.next, hT1.at_, hT1.std⟩
               have hs3 : T3.sem = T1.sem.mark leb := by
                 rw [hmk, hT3]
                 unfold Stw.sem
                 dsimp only
                 rw [List.map_set]
                 have e1 : (T1.irs.map IRow.l).getD leb.toNat [] = q.l := by
                   simp only [List.getD, List.getElem?_map, hqg, Option.map_some, Option.getD_some]
                 rw [e1]
               have hd3 : T3.stands = T1.stands := by rw [hT3]
               refine WC.sub (H' := T3.A bs bd g :: C2.A bc :: DvA bd bc g :: r.A l .busy none :: DefA r.D :: X :: Cells b30 56 [ptr bs 0] :: Cells b6 28 [.int .i64 0] :: Cells b5 38 [.slice A m cap] :: Cells b4 3 [.int .i64 leb] :: Cells b3 56 [ptr bs 0] :: F) (Sub.refl _) (fun w h => by
                 have h5 := h.sel 6 [0, 3, 2, 4, 5] rfl
                 have e1 : SlA (.slice A5 (q.l.length + 1) c5) 3 1 (q.l.length + 1) (ints .i64 q.l ++ [.int .i64 (T1.sem.at' leb)]) = IRow.row ⟨A5, c5, q.l ++ [T1.sem.at' leb]⟩ := by
                   unfold IRow.row
                   rw [ints_append, List.length_append]; rfl
                 rw [e1] at h5
                 have h6 := Sat.putA (l := T1.irs.map IRow.row) (k := leb.toNat) (by rw [List.length_map]; omega) h5
                 have e2 : (T1.irs.map IRow.v).set (0 + leb.toNat * 1) (.slice A5 (q.l.length + 1) c5) = (T1.irs.set leb.toNat ⟨A5, c5, q.l ++ [T1.sem.at' leb]⟩).map IRow.v := by
                   rw [show 0 + leb.toNat * 1 = leb.toNat by omega, List.map_set]
                   show _ = (T1.irs.map IRow.v).set leb.toNat (.slice A5 (q.l ++ [T1.sem.at' leb]).length c5)
                   rw [List.length_append]; rfl
                 rw [e2, ← List.map_set] at h6
                 have h7 := Sat.all (l := Stw.parts bs bd g T3) (H := C2.A bc :: DvA bd bc g :: r.A l .busy none :: DefA r.D :: X :: Cells b30 56 [ptr bs 0] :: Cells b6 28 [.int .i64 0] :: Cells b5 38 [.slice A m cap] :: Cells b4 3 [.int .i64 leb] :: Cells b3 56 [ptr bs 0] :: F) (K := K) (w := w) (by
                   unfold Stw.parts Stw.cells Stw.sl
                   rw [hT3]
                   dsimp only
                   rw [List.length_set]
                   exact h6.sel 4 [2, 3, 1, 0] rfl)
                 exact h7) ?_)
            | (obtain ⟨T3, hT3⟩ : ∃ T3 : Stw, T3 = T1 := ⟨_, rfl⟩
               have hok3 : T3.Ok g := by rw [hT3]; exact hT1
               have hs3 : T3.sem = T1.sem.mark leb := by rw [hmk, hT3]
               have hd3 : T3.stands = T1.stands := by rw [hT3]
               rw [← hT3]
               refine WC.sub (H' := T3.A bs bd g :: C2.A bc :: DvA bd bc g :: r.A l .busy none :: DefA r.D :: X :: Cells b30 56 [ptr bs 0] :: Cells b6 28 [.int .i64 0] :: Cells b5 38 [.slice A m cap] :: Cells b4 3 [.int .i64 leb] :: Cells b3 56 [ptr bs 0] :: F) (Sub.refl _) (fun w h => h.sel 3 [2, 0, 1] rfl) ?_)
          rw [← hs3] at hch
          have hin3 : 0 ≤ leb ∧ leb < T3.stands.length := by rw [hd3, hst1]; exact hinl
          refine WC.have_ (p := ∃ g1, T3.sA = some ⟨g1, 0, none⟩) (fun w h => Stw.someS (by omega) h) (fun ⟨g1, hA3⟩ => ?_)
          refine WC.regionAR (C2.A bc :: DvA bd bc g :: r.A l .busy none :: DefA r.D :: X :: Cells b30 56 [ptr bs 0] :: Cells b6 28 [.int .i64 0] :: Cells b5 38 [.slice A m cap] :: Cells b4 3 [.int .i64 leb] :: Cells b3 56 [ptr bs 0] :: F) (by kernel_rfl) ?_
          refine WA.t 0 rfl (V.load Tryz.isAgg56 (OV.p rfl) (fun _ => by repeat (first | exact Rd.here rfl | apply Rd.up))) ?_
          refine WA.t 1 rfl (V.nilCheck (OV.p rfl)) ?_
          refine WA.t 2 rfl (V.fieldAddr fo126_2 (OV.p rfl)) ?_
          refine WA.t 4 rfl (V.load Tryz.isAgg3 (OV.p rfl) (fun _ => by repeat (first | exact Rd.here rfl | apply Rd.up))) ?_
          refine WA.t 5 rfl (V.move (OV.p rfl)) ?_
          refine WA.o 3 rfl ?_
          refine WL.val (V.val_eq (v' := .slice (some ⟨g1, 0, none⟩) T3.stands.length T3.sc) (V.load Tryz.isAgg42 (OV.p rfl) (fun _ => Stw.rds 6 _ rfl)) (fun _ => by rw [hA3])) rfl ?_
          refine WL.nil ?_
          refine WA.t 6 rfl (V.idxB st42 (OV.p rfl) (OV.p rfl) (fun hc => by omega)) ?_
          refine WA.o 7 rfl ?_
          refine WL.store (cs := [_]) Tryz.sizeOf3 (OV.p rfl) (OV.p rfl) rfl rfl rfl (Stw.updS hA3 (by omega) b) ?_
          refine WL.nil ?_
          refine WA.fin ?_
          refine WC.sr ?_
          refine WL.ld Tryz.isAgg56 rfl rfl ?_
          refine WL.nc rfl rfl ?_
          refine WL.val (V.fieldAddr fo126_4 (OV.p rfl)) rfl ?_
          refine WL.val (V.load Tryz.isAgg3 (OV.p rfl) (fun _ => Stw.rds 8 _ rfl)) rfl ?_
          have hnx3 := hok3.next
          refine WL.val (V.addI (OV.p rfl) (OV.p rfl) (fun _ => by dsimp only; omega)) rfl ?_
          refine WL.nc rfl rfl ?_
          refine WL.val (V.fieldAddr fo126_4 (OV.p rfl)) rfl ?_
          refine WL.store (cs := [_]) Tryz.sizeOf3 (OV.p rfl) (OV.p rfl) rfl rfl rfl (Stw.updN _ _) ?_
          refine WL.nil ?_
          refine WC.seq ?_
          refine WC.regionAR (C2.A bc :: DvA bd bc g :: r.A l .busy none :: DefA r.D :: X :: Cells b30 56 [ptr bs 0] :: Cells b6 28 [.int .i64 0] :: Cells b5 38 [.slice A m cap] :: Cells b4 3 [.int .i64 leb] :: Cells b3 56 [ptr bs 0] :: F) (by kernel_rfl) ?_
          refine WA.t 0 rfl (V.load Tryz.isAgg56 (OV.p rfl) (fun _ => by repeat (first | exact Rd.here rfl | apply Rd.up))) ?_
          refine WA.t 1 rfl (V.move (OV.p rfl)) ?_
          refine WA.t 2 rfl (V.addI (OV.p rfl) (OV.p rfl) (fun hc => by first | omega | (simp at hc; omega))) ?_
          refine WA.t 3 rfl (V.load Tryz.isAgg56 (OV.p rfl) (fun _ => by repeat (first | exact Rd.here rfl | apply Rd.up))) ?_
          refine WA.t 4 rfl (V.nilCheck (OV.p rfl)) ?_
          refine WA.t 5 rfl (V.fieldAddr fo126_1 (OV.p rfl)) ?_
          refine WA.t 6 rfl (V.fieldAddr fo23_0 (OV.p rfl)) ?_
          refine WA.o 7 rfl ?_
          refine WL.val (V.load Tryz.isAgg3 (OV.p rfl) (fun _ => Stw.rds 1 _ rfl)) rfl ?_
          refine WL.nil ?_
          refine WA.t 8 rfl (V.remI (OV.p rfl) (OV.p rfl) (fun _ => by omega)) ?_
          refine WA.t 9 rfl (V.nilCheck (OV.p rfl)) ?_
          refine WA.t 10 rfl (V.fieldAddr fo126_5 (OV.p rfl)) ?_
          refine WA.o 11 rfl ?_
          refine WL.store (cs := [_]) Tryz.sizeOf3 (OV.p rfl) (OV.p rfl) rfl rfl rfl (Stw.updT _ _) ?_
          refine WL.nil ?_
          refine WA.fin ?_
          refine WC.sr ?_
          refine WL.store (cs := [_]) Tryz.sizeOf28 (OV.p rfl) (OV.p rfl) rfl rfl rfl (by repeat (first | exact Upd.here rfl rfl | apply Upd.up)) ?_
          refine WL.nil ?_
          refine WC.ret ?_
          refine ⟨_, fun w h => h.sel 6 [3, 4, 5, 1, 2, 0] rfl, .inr ⟨rfl, C2, _, 0, hC2, hg2, ?_, ?_, rfl⟩⟩
          · have hnx3 := hok3.next
            have hn3 : T3.next ≤ 1000000000 := by
              have e1 : T3.sem.next = T1.sem.next := by rw [hs3]; unfold St.mark; split <;> rfl
              have e2 : T3.next = T1.next := e1
              omega
            have hrm : 0 ≤ (b + 1) % g.bl ∧ (b + 1) % g.bl < g.bl := ⟨Int.emod_nonneg _ (by omega), Int.emod_lt_of_pos _ (by omega)⟩
            refine ⟨by show T3.irs.length = (T3.stands.set _ _).length; rw [List.length_set]; exact hok3.len, by show 1 ≤ (T3.stands.set _ _).length ∧ _; rw [List.length_set]; exact hok3.lebs, by show 1 ≤ T3.next + 1 ∧ T3.next + 1 ≤ 1000000001; omega, hrm, fun x hx => ?_⟩
            rcases List.mem_or_eq_of_mem_set hx with hx | rfl
            · exact hok3.std x hx
            · omega
          · rw [← hch, hs2]
            unfold St.done Stw.sem
            dsimp only
            rw [show 0 + leb.toNat * 1 = leb.toNat by omega]
        ·simp only [ge_iff_le, decide_eq_true_eq, decide_eq_false_iff_not] at hc6
         have h6 := hc6
         have hmk : T1.sem.mark leb = T1.sem := by unfold St.mark; rw [if_neg (by omega)]
         refine WC.skip ?_
         refine WC.seq ?_
         first
           | (obtain ⟨T3, hT3⟩ : ∃ T3 : Stw, T3 = { T1 with irs := T1.irs.set leb.toNat ⟨A5, c5, q.l ++ [T1.sem.at' leb]⟩ } := ⟨_, rfl⟩
              have hok3 : T3.Ok g := by
                rw [hT3]
                exact ⟨by show (T1.irs.set _ _).length = _; rw [List.length_set]; exact hT1.len, hT1.lebs, hT1.next, hT1.at_, hT1.std⟩
              have hs3 : T3.sem = T1.sem.mark leb := by
                rw [hmk, hT3]
                unfold Stw.sem
                dsimp only
                rw [List.map_set]
                have e1 : (T1.irs.map IRow.l).getD leb.toNat [] = q.l := by
                  simp only [List.getD, List.getElem?_map, hqg, Option.map_some, Option.getD_some]
                rw [e1]
              have hd3 : T3.stands = T1.stands := by rw [hT3]
              refine WC.sub (H' := T3.A bs bd g :: C2.A bc :: DvA bd bc g :: r.A l .busy none :: DefA r.D :: X :: Cells b30 56 [ptr bs 0] :: Cells b6 28 [.int .i64 0] :: Cells b5 38 [.slice A m cap] :: Cells b4 3 [.int .i64 leb] :: Cells b3 56 [ptr bs 0] :: F) (Sub.refl _) (fun w h => by
                have h5 := h.sel 6 [0, 3, 2, 4, 5] rfl
                have e1 : SlA (.slice A5 (q.l.length + 1) c5) 3 1 (q.l.length + 1) (ints .i64 q.l ++ [.int .i64 (T1.sem.at' leb)]) = IRow.row ⟨A5, c5, q.l ++ [T1.sem.at' leb]⟩ := by
                  unfold IRow.row
                  rw [ints_append, List.length_append]; rfl
                rw [e1] at h5
                have h6 := Sat.putA (l := T1.irs.map IRow.row) (k := leb.toNat) (by rw [List.length_map]; omega) h5
                have e2 : (T1.irs.map IRow.v).set (0 + leb.toNat * 1) (.slice A5 (q.l.length + 1) c5) = (T1.irs.set leb.toNat ⟨A5, c5, q.l ++ [T1.sem.at' leb]⟩).map IRow.v := by
                  rw [show 0 + leb.toNat * 1 = leb.toNat by omega, List.map_set]
                  show _ = (T1.irs.map IRow.v).set leb.toNat (.slice A5 (q.l ++ [T1.sem.at' leb]).length c5)
                  rw [List.length_append]; rfl
                rw [e2, ← List.map_set] at h6
                have h7 := Sat.all (l := Stw.parts bs bd g T3) (H := C2.A bc :: DvA bd bc g :: r.A l .busy none :: DefA r.D :: X :: Cells b30 56 [ptr bs 0] :: Cells b6 28 [.int .i64 0] :: Cells b5 38 [.slice A m cap] :: Cells b4 3 [.int .i64 leb] :: Cells b3 56 [ptr bs 0] :: F) (K := K) (w := w) (by
                  unfold Stw.parts Stw.cells Stw.sl
                  rw [hT3]
                  dsimp only
                  rw [List.length_set]
                  exact h6.sel 4 [2, 3, 1, 0] rfl)
                exact h7) ?_)
           | (obtain ⟨T3, hT3⟩ : ∃ T3 : Stw, T3 = T1 := ⟨_, rfl⟩
              have hok3 : T3.Ok g := by rw [hT3]; exact hT1
              have hs3 : T3.sem = T1.sem.mark leb := by rw [hmk, hT3]
              have hd3 : T3.stands = T1.stands := by rw [hT3]
              rw [← hT3]
              refine WC.sub (H' := T3.A bs bd g :: C2.A bc :: DvA bd bc g :: r.A l .busy none :: DefA r.D :: X :: Cells b30 56 [ptr bs 0] :: Cells b6 28 [.int .i64 0] :: Cells b5 38 [.slice A m cap] :: Cells b4 3 [.int .i64 leb] :: Cells b3 56 [ptr bs 0] :: F) (Sub.refl _) (fun w h => h.sel 3 [2, 0, 1] rfl) ?_)
         rw [← hs3] at hch
         have hin3 : 0 ≤ leb ∧ leb < T3.stands.length := by rw [hd3, hst1]; exact hinl
         refine WC.have_ (p := ∃ g1, T3.sA = some ⟨g1, 0, none⟩) (fun w h => Stw.someS (by omega) h) (fun ⟨g1, hA3⟩ => ?_)
         refine WC.regionAR (C2.A bc :: DvA bd bc g :: r.A l .busy none :: DefA r.D :: X :: Cells b30 56 [ptr bs 0] :: Cells b6 28 [.int .i64 0] :: Cells b5 38 [.slice A m cap] :: Cells b4 3 [.int .i64 leb] :: Cells b3 56 [ptr bs 0] :: F) (by kernel_rfl) ?_
         refine WA.t 0 rfl (V.load Tryz.isAgg56 (OV.p rfl) (fun _ => by repeat (first | exact Rd.here rfl | apply Rd.up))) ?_
         refine WA.t 1 rfl (V.nilCheck (OV.p rfl)) ?_
         refine WA.t 2 rfl (V.fieldAddr fo126_2 (OV.p rfl)) ?_
         refine WA.t 4 rfl (V.load Tryz.isAgg3 (OV.p rfl) (fun _ => by repeat (first | exact Rd.here rfl | apply Rd.up))) ?_
         refine WA.t 5 rfl (V.move (OV.p rfl)) ?_
         refine WA.o 3 rfl ?_
         refine WL.val (V.val_eq (v' := .slice (some ⟨g1, 0, none⟩) T3.stands.length T3.sc) (V.load Tryz.isAgg42 (OV.p rfl) (fun _ => Stw.rds 6 _ rfl)) (fun _ => by rw [hA3])) rfl ?_
         refine WL.nil ?_
         refine WA.t 6 rfl (V.idxB st42 (OV.p rfl) (OV.p rfl) (fun hc => by omega)) ?_
         refine WA.o 7 rfl ?_
         refine WL.store (cs := [_]) Tryz.sizeOf3 (OV.p rfl) (OV.p rfl) rfl rfl rfl (Stw.updS hA3 (by omega) b) ?_
         refine WL.nil ?_
         refine WA.fin ?_
         refine WC.sr ?_
         refine WL.ld Tryz.isAgg56 rfl rfl ?_
         refine WL.nc rfl rfl ?_
         refine WL.val (V.fieldAddr fo126_4 (OV.p rfl)) rfl ?_
         refine WL.val (V.load Tryz.isAgg3 (OV.p rfl) (fun _ => Stw.rds 8 _ rfl)) rfl ?_
         have hnx3 := hok3.next
         refine WL.val (V.addI (OV.p rfl) (OV.p rfl) (fun _ => by dsimp only; omega)) rfl ?_
         refine WL.nc rfl rfl ?_
         refine WL.val (V.fieldAddr fo126_4 (OV.p rfl)) rfl ?_
         refine WL.store (cs := [_]) Tryz.sizeOf3 (OV.p rfl) (OV.p rfl) rfl rfl rfl (Stw.updN _ _) ?_
         refine WL.nil ?_
         refine WC.seq ?_
         refine WC.regionAR (C2.A bc :: DvA bd bc g :: r.A l .busy none :: DefA r.D :: X :: Cells b30 56 [ptr bs 0] :: Cells b6 28 [.int .i64 0] :: Cells b5 38 [.slice A m cap] :: Cells b4 3 [.int .i64 leb] :: Cells b3 56 [ptr bs 0] :: F) (by kernel_rfl) ?_
         refine WA.t 0 rfl (V.load Tryz.isAgg56 (OV.p rfl) (fun _ => by repeat (first | exact Rd.here rfl | apply Rd.up))) ?_
         refine WA.t 1 rfl (V.move (OV.p rfl)) ?_
         refine WA.t 2 rfl (V.addI (OV.p rfl) (OV.p rfl) (fun hc => by first | omega | (simp at hc; omega))) ?_
         refine WA.t 3 rfl (V.load Tryz.isAgg56 (OV.p rfl) (fun _ => by repeat (first | exact Rd.here rfl | apply Rd.up))) ?_
         refine WA.t 4 rfl (V.nilCheck (OV.p rfl)) ?_
         refine WA.t 5 rfl (V.fieldAddr fo126_1 (OV.p rfl)) ?_
         refine WA.t 6 rfl (V.fieldAddr fo23_0 (OV.p rfl)) ?_
         refine WA.o 7 rfl ?_
         refine WL.val (V.load Tryz.isAgg3 (OV.p rfl) (fun _ => Stw.rds 1 _ rfl)) rfl ?_
         refine WL.nil ?_
         refine WA.t 8 rfl (V.remI (OV.p rfl) (OV.p rfl) (fun _ => by omega)) ?_
         refine WA.t 9 rfl (V.nilCheck (OV.p rfl)) ?_
         refine WA.t 10 rfl (V.fieldAddr fo126_5 (OV.p rfl)) ?_
         refine WA.o 11 rfl ?_
         refine WL.store (cs := [_]) Tryz.sizeOf3 (OV.p rfl) (OV.p rfl) rfl rfl rfl (Stw.updT _ _) ?_
         refine WL.nil ?_
         refine WA.fin ?_
         refine WC.sr ?_
         refine WL.store (cs := [_]) Tryz.sizeOf28 (OV.p rfl) (OV.p rfl) rfl rfl rfl (by repeat (first | exact Upd.here rfl rfl | apply Upd.up)) ?_
         refine WL.nil ?_
         refine WC.ret ?_
         refine ⟨_, fun w h => h.sel 6 [3, 4, 5, 1, 2, 0] rfl, .inr ⟨rfl, C2, _, 0, hC2, hg2, ?_, ?_, rfl⟩⟩
         · have hnx3 := hok3.next
           have hn3 : T3.next ≤ 1000000000 := by
             have e1 : T3.sem.next = T1.sem.next := by rw [hs3]; unfold St.mark; split <;> rfl
             have e2 : T3.next = T1.next := e1
             omega
           have hrm : 0 ≤ (b + 1) % g.bl ∧ (b + 1) % g.bl < g.bl := ⟨Int.emod_nonneg _ (by omega), Int.emod_lt_of_pos _ (by omega)⟩
           refine ⟨by show T3.irs.length = (T3.stands.set _ _).length; rw [List.length_set]; exact hok3.len, by show 1 ≤ (T3.stands.set _ _).length ∧ _; rw [List.length_set]; exact hok3.lebs, by show 1 ≤ T3.next + 1 ∧ T3.next + 1 ≤ 1000000001; omega, hrm, fun x hx => ?_⟩
           rcases List.mem_or_eq_of_mem_set hx with hx | rfl
           · exact hok3.std x hx
           · omega
         · rw [← hch, hs2]
           unfold St.done Stw.sem
           dsimp only
           rw [show 0 + leb.toNat * 1 = leb.toNat by omega]
     ·skip
      obtain ⟨X, C', T', hIe, rfl⟩ := hd
      rw [hI] at hIe
      obtain ⟨hC', hg', hT', hst', hat', hnx', hlo', hch⟩ := hIe
      rw [candsF_end, chgL] at hch
      rw [← hch] at hR
      dsimp only at hR
      refine WC.seq ?_
      refine WC.sub (H' := C'.A bc :: DvA bd bc g :: T'.A bs bd g :: Cells b6 28 [.int .i64 0] :: DefA D :: Cells b5 38 [.slice A m cap] :: Cells b4 3 [.int .i64 leb] :: Cells b3 56 [ptr bs 0] :: F) (Sub.refl _) (fun w h => h.sel 7 [2, 3, 4, 6, 0] rfl) ?_
      refine WC.regionA (DefA D :: Cells b5 38 [.slice A m cap] :: Cells b4 3 [.int .i64 leb] :: Cells b3 56 [ptr bs 0] :: F) (by kernel_rfl) ?_
      refine WA.t 0 rfl (V.load Tryz.isAgg56 (OV.p rfl) (fun _ => by repeat (first | exact Rd.here rfl | apply Rd.up))) ?_
      refine WA.t 1 rfl (V.load Tryz.isAgg56 (OV.p rfl) (fun _ => by repeat (first | exact Rd.here rfl | apply Rd.up))) ?_
      refine WA.o 2 rfl ?_
      refine WL.call (vs := [_]) Tryz.call99 ⟨OV.p rfl, trivial⟩ (store_full hC' hg') rfl ?_
      rintro _ H0 ⟨rfl, h0⟩
      subst H0
      refine WL.nil ?_
      refine WA.o 3 rfl ?_
      refine WL.sub (Sub.refl _) (fun w h => h.sel 3 [2, 0, 1] rfl) ?_
      refine WL.call (vs := [_, _]) Tryz.call89 ⟨OV.p rfl, OV.p rfl, trivial⟩ (store_told (if C'.sem.scanE = 70 then 70 else 6)) rfl ?_
      rintro _ _ ⟨rfl, rfl⟩
      refine WL.nil ?_
      refine WA.o 4 rfl ?_
      refine WL.store (cs := [_]) Tryz.sizeOf28 (OV.p rfl) (OV.p rfl) rfl rfl rfl (Upd.up (Upd.up (Upd.up (Upd.here rfl rfl)))) ?_
      refine WL.nil ?_
      refine WA.fin ?_
      refine WC.ret ?_
      subst hR
      exact BodyQM.retD (H' := C'.A bc :: DvA bd bc g :: (T'.told (if C'.sem.scanE = 70 then 70 else 6)).A bs bd g :: F) ((T'.told (if C'.sem.scanE = 70 then 70 else 6)).A bs bd g :: C'.A bc :: DvA bd bc g :: Cells b6 28 [.int .i64 (if C'.sem.scanE = 70 then 70 else 6)] :: Cells b5 38 [.slice A m cap] :: Cells b4 3 [.int .i64 leb] :: Cells b3 56 [ptr bs 0] :: F) (fun w h => h.sel 5 [4, 0, 1, 2, 3] rfl) (Res.one rfl (R1.cell1 rfl Tryz.isAgg28 (by repeat (first | exact Rd.here rfl | apply Rd.up)))) (fun w h => h.sel 7 [1, 2, 0] rfl) ⟨C', T'.told (if C'.sem.scanE = 70 then 70 else 6), hC', hg', hT'.told _, rfl, rfl, rfl, rfl⟩
end
end Go.Proofs.YtohkefolnmcjnaaGreat
