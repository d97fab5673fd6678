import Derived.Test.YtcedojacbhnbiaaGreatP21
namespace Go.Proofs.YtcedojacbhnbiaaGreat
open Go.Sl Go.RowKit
set_option linter.unusedVariables false
set_option linter.unusedSimpArgs false
set_option maxRecDepth 20000
namespace ak
def gJ (S : ak) (b : Int) : Option Fd :=
  if (S.bB b 0).err ≠ 0 then none
  else match gH S.g (S.bB b 0).d with
    | none => none
    | some h => some ⟨b, h, (S.jg b (1 + S.g.aW h.len)).1⟩
def bN (S : ak) : List Fd := S.good.filterMap S.gJ
def jF (S : ak) : Int := (S.jg 0 0).2
theorem kK (S : ak) : ∀ k x, x ∈ S.dz k → 0 ≤ x ∧ x < (k : Int) ∧ S.up = true ∧ S.bad x = false
  | 0, x, h => by simp [dz] at h
  | k + 1, x, h => by
    rw [dz] at h
    split at h
    · rename_i hg
      rcases List.mem_append.1 h with h | h
      · have := kK S k x h
        exact ⟨this.1, by omega, this.2.2⟩
      · have := List.mem_singleton.1 h
        subst this
        simp only [Bool.and_eq_true, Bool.not_eq_true'] at hg
        exact ⟨by omega, by omega, hg⟩
    · have := kK S k x h
      exact ⟨this.1, by omega, this.2.2⟩
end ak
theorem sZ : ∀ (l : List (Option (LL × Nat))) (d : List Nat) (n : Nat), Small 256 d → (∀ o ∈ l, ∀ p k, o = some (p, k) → Small 256 p.1) → Small 256 (gu l d n).d
  | [], d, n, h, _ => h
  | none :: l, d, n, h, _ => fun x hx => by simp [gu] at hx
  | some (p, k) :: l, d, n, h, hl => by
    rw [gu]
    exact sZ l _ _ (h.append (hl _ (.head _) p k rfl)) (fun o ho => hl o (.tail _ ho))
theorem tO {t : Nat} {c : List Nat} {L : Nat} {p : LL} (h : Small 256 p.1) : ∀ k, Small 256 (bF t c L p k).1.1
  | 0 => h
  | k + 1 => by
    have ih := tO (c := c) (L := L) (t := t) h k
    rw [bF]
    split
    · show Small 256 (iq t _ k).1
      unfold iq
      split
      · exact iO ih _
      · exact ih
    · exact ih
theorem Fj {t : Nat} {d m : List Nat} (h : Small 256 d) {p : LL} {k : Nat} (hd : kQ t d m = some (p, k)) : Small 256 p.1 := by
  unfold kQ at hd
  split at hd
  · cases hd
  · split at hd
    · cases hd
    · split at hd
      · cases hd
      · injection hd with hd
        have := tO (t := t) (c := kR (dI t (d, dF t m))) (L := mh (dI t (d, dF t m))) (p := (d, dF t m)) h (13 * t + 8 * d.length)
        rw [hd] at this
        exact this
theorem Ef {t S B : Nat} {raw : List Nat} (h : Small 256 raw) : Small 256 (cO t S B raw).d := by
  unfold cO
  split
  · intro x hx; simp at hx
  · refine sZ _ _ _ (fun x hx => by simp at hx) (fun o ho p k hp => ?_)
    obtain ⟨j, _, rfl⟩ := List.mem_map.1 ho
    unfold rJ at hp
    exact Fj (Small.take (Small.drop h)) hp
theorem IE {t S B : Nat} {raw : List Nat} (ht : t ≤ 8) (hS : S ≤ 8) (hB : B ≤ 512) : (cO t S B raw).d.length ≤ S * B := by
  unfold cO
  split
  · exact Nat.zero_le _
  · have key : ∀ (l : List (Option (LL × Nat))) (d : List Nat) (n : Nat), (∀ o ∈ l, ∀ p k, o = some (p, k) → p.1.length ≤ B) → (gu l d n).d.length ≤ d.length + l.length * B := fun l => by
      induction l with
      | nil => intro d n _; show d.length ≤ _; omega
      | cons o l ih =>
        intro d n h
        cases o with
        | none => exact Nat.zero_le _
        | some r =>
          obtain ⟨p, k⟩ := r
          rw [gu]
          have h1 := ih (d ++ p.1) (max n k) (fun o ho => h o (.tail _ ho))
          have h2 := h _ (.head _) p k rfl
          rw [List.length_append] at h1
          rw [List.length_cons, Nat.succ_mul]
          omega
    have := key ((List.range S).map (rJ t B (B + ay t) raw)) [] 0 (fun o ho p k hp => by
      obtain ⟨j, _, rfl⟩ := List.mem_map.1 ho
      unfold rJ at hp
      have h1 : (sW B (B + ay t) raw j).length ≤ B := by unfold sW; rw [List.length_take]; omega
      have h2 := (Hr t (sW B (B + ay t) raw j) (Db B (B + ay t) raw j) (by omega) ht).1
      rw [hp] at h2
      exact Nat.le_trans h2 h1)
    rw [List.length_map, List.length_range] at this
    simpa using this
theorem Cw.Ok.kU {C : Cw} (hC : C.Ok) (b p : Int) : Small 256 (C.sem.bB b p).d ∧ (C.sem.bB b p).d.length ≤ 4096 := by
  have hg := hC.aF
  unfold Geo.aF at hg
  unfold ak.bB
  split
  · exact ⟨fun x hx => by simp at hx, Nat.zero_le _⟩
  · refine ⟨Ef (hC.nu b p).2.1, ?_⟩
    have h1 := IE (t := C.sem.g.fl.toNat) (S := C.sem.g.se.toNat) (B := C.sem.g.sb.toNat) (raw := C.sem.fU b p) (by show C.g.fl.toNat ≤ 8; omega) (by show C.g.se.toNat ≤ 8; omega) (by show C.g.sb.toNat ≤ 512; omega)
    have h2 : C.sem.g.se.toNat * C.sem.g.sb.toNat ≤ 8 * 512 := Nat.mul_le_mul (by show C.g.se.toNat ≤ 8; omega) (by show C.g.sb.toNat ≤ 512; omega)
    exact Nat.le_trans h1 h2
section
variable {bc bd : Nat} {C : Cw} {g : Geo} {K : World} {F : List au}
theorem EM (hC : C.Ok) (hg : C.g = g) (h12 : g.bl ≤ 19) (he : C.sem.jF = 0) : Does Tryz.prog 99 #[ptr bd 0] K (C.A bc :: bQ bd bc g :: F)
    (fun v H' => ∃ A' c', v = .tuple #[.slice A' C.sem.bN.length c', .int .i64 0] ∧ H' = C.A bc :: bQ bd bc g :: bC (.slice A' C.sem.bN.length c') 237 5 C.sem.bN.length (bJ C.sem.bN) :: F) := by
  have hgm : g.aF := by rw [← hg]; exact hC.aF
  have hgb := hgm
  unfold Geo.aF at hgb
  obtain ⟨gd, hgd⟩ : ∃ gd, gd = C.sem.good := ⟨_, rfl⟩
  have hgl : gd.length ≤ 19 := by
    have := ak.fV C.sem C.sem.g.bl.toNat
    have h2 : C.sem.g.bl.toNat ≤ 19 := by rw [show C.sem.g = C.g from rfl, hg]; omega
    rw [hgd]; unfold ak.good; omega
  have hscan : C.sem.bN = gd.filterMap C.sem.gJ := by rw [hgd]; rfl
  refine Does.enter Tryz.func99 rfl Tryz.ntmps99 rfl ?_
  simp only [aJ, Nat.reduceAdd]
  refine WC.sr (WL.sg rfl rfl (WL.sg rfl rfl (WL.nil (WC.seq (WC.sr (WL.mv rfl rfl (WL.val (V.ku Tryz.underlying70 (OV.p rfl) (OV.p rfl)) rfl (WL.nil ?_))))))))
  refine WC.aM rfl (by first | rfl | (simp; done) | (simp; omega)) ?_
  refine WC.skip (WC.sr (WL.mv rfl rfl (WL.call (vs := [_]) Tryz.call100 ⟨OV.p rfl, trivial⟩ (gG) rfl ?_)))
  rintro _ H0 ⟨rfl, h0⟩
  subst H0
  refine WL.alloc (cs := [(.int .i64 0), (.int .i64 0), (.int .i64 0), (.int .i64 0), (.int .i64 0)]) Tryz.zeroValue23 rfl rfl (fun b4 => ?_)
  refine WL.store (cs := [_, _, _, _, _]) Tryz.sizeOf23 (OV.p rfl) (OV.p rfl) rfl rfl rfl (by repeat (first | exact aQ.here (cs' := [_, _, _, _, _]) rfl rfl | apply aQ.up)) ?_
  refine WL.nil (WC.seq (WC.sr (WL.mv rfl rfl ?_)))
  refine WL.sub (Sub.refl _) (fun w h => h.sel 3 [1, 2, 0] rfl) ?_
  refine WL.call (vs := [_, _, _]) Tryz.call126 ⟨OV.p rfl, OV.p rfl, OV.p rfl, trivial⟩ (ny hC hg 0 0 (by decide)) rfl ?_
  rintro _ _ ⟨rfl, rfl⟩
  refine WL.mv rfl rfl (WL.xt rfl rfl rfl (WL.xt rfl rfl rfl (WL.sg rfl rfl (WL.sg rfl rfl (WL.nil (WC.sr (WL.mv rfl rfl (WL.val (V.neq (OV.p rfl) (OV.p rfl)) rfl (WL.nil ?_)))))))))
  refine WC.aM rfl ((by simp; exact he)) ?_
  refine WC.skip (WC.sr (WL.sg rfl rfl (WL.nil (WC.seq (WC.sr (WL.mv rfl rfl (WL.call (vs := [_]) Tryz.call118 ⟨OV.p rfl, trivial⟩ (vV hC hg) rfl ?_)))))))
  rintro _ _ ⟨Ag, cg, rfl, rfl⟩
  rw [← hgd]
  refine WL.val (V.len (t := 124) Tryz.runUnderlying124 (OV.p rfl)) rfl (WL.mv rfl rfl (WL.nil (WC.block ?_)))
  refine WC.loop (σ := Nat × Option Addr × Nat) (fun s => [(0, ptr bd 0), (4, ptr b4 0), (7, .slice s.2.1 (((gd.take s.1).filterMap C.sem.gJ).length) s.2.2), (31, .slice Ag gd.length cg), (32, .int .i64 (gd.length : Int)), (33, .int .i64 (s.1 : Int))]) (fun s => C.A bc :: bQ bd bc g :: bC (.slice s.2.1 (((gd.take s.1).filterMap C.sem.gJ).length) s.2.2) 237 5 (((gd.take s.1).filterMap C.sem.gJ).length) (bJ ((gd.take s.1).filterMap C.sem.gJ)) :: bC (.slice Ag gd.length cg) 3 1 gd.length (ints .i64 gd) :: Cells b4 23 [.int .i64 g.bl, .int .i64 g.pg, .int .i64 g.se, .int .i64 g.sb, .int .i64 g.fl] :: F) (fun s => s.1 ≤ gd.length) (fun s => gd.length - s.1) (0, none, 0) (Nat.zero_le _) (.cons rfl (.cons rfl (.cons rfl (.cons rfl (.cons rfl (.cons rfl (.nil _))))))) (fun w h => (Sat.iA h 237 5).sel 5 [2, 3, 0, 1, 4] rfl) ?_
  rintro ⟨k, Ao, co⟩ hk
  dsimp only at hk ⊢
  obtain ⟨fs, hfs⟩ : ∃ fs, fs = (gd.take k).filterMap C.sem.gJ := ⟨_, rfl⟩
  have hfl : fs.length ≤ 19 := by rw [hfs]; exact Nat.le_trans (List.length_filterMap_le _ _) (by rw [List.length_take]; omega)
  rw [← hfs]
  refine WC.sr (WL.val (V.lss (OV.p rfl) (OV.p rfl)) rfl (WL.nil (WC.seq ?_)))
  refine WC.cond rfl (fun hc2 => ?_) (fun hc2 => ?_)
  ·simp only [decide_eq_true_eq, decide_eq_false_iff_not] at hc2
   have hkg : k < gd.length := by omega
   obtain ⟨b, hb⟩ : ∃ b, b = gd.getD k 0 := ⟨_, rfl⟩
   have htk : gd.take (k + 1) = gd.take k ++ [b] := by rw [List.take_add_one, List.getElem?_eq_getElem hkg, hb]; simp [List.getD, hkg]
   have hfn : (gd.take (k + 1)).filterMap C.sem.gJ = fs ++ (C.sem.gJ b).toList := by rw [htk, List.filterMap_append, ← hfs]; cases hsb : C.sem.gJ b <;> simp [hsb]
   have hrg : ∀ {X : List au}, Rd K (bC (.slice Ag gd.length cg) 3 1 gd.length (ints .i64 gd) :: X) (Ag.map (·.add ((k : Int).toNat * 1))) (.int .i64 b) := fun {X} => by
     have h1 : Seq K (bC (.slice Ag gd.length cg) 3 1 gd.length (ints .i64 gd) :: X) Ag gd.length 1 (ints .i64 gd) := bC.seq (by rw [bK, Nat.mul_one])
     have h2 := Seq.fB h1 (j := (k : Int)) (by omega)
     rw [hb]
     rwa [show (k : Int).toNat = k by omega] at h2 ⊢
   have Qu := ak.kK C.sem C.sem.g.bl.toNat b (by show b ∈ C.sem.good; rw [← hgd, hb]; simp only [List.getD, List.getElem?_eq_getElem hkg]; exact List.getElem_mem _)
   refine WC.skip (WC.seq (WC.block (WC.sr ?_)))
   refine WL.val (V.fu bO (OV.p rfl) (OV.p rfl) (fun hc => by omega) (fun hc => by repeat (first | exact hrg | apply Rd.up))) rfl ?_
   refine WL.val (V.load Tryz.isAgg3 (OV.p rfl) (fun hc => by repeat (first | exact hrg | apply Rd.up))) rfl ?_
   refine WL.sg rfl rfl (WL.nil (WC.sr (WL.mv rfl rfl (WL.mv rfl rfl (WL.call (vs := [_, _, _]) Tryz.call90 ⟨OV.p rfl, OV.p rfl, OV.p rfl, trivial⟩ (nW hC hg b 0) rfl ?_)))))
   rintro _ _ ⟨Ad, cd, rfl, rfl⟩
   obtain ⟨G, hG⟩ : ∃ G, G = C.sem.bB b 0 := ⟨_, rfl⟩
   have Ov := hC.kU b 0
   have hsb : C.sem.gJ b = if G.err ≠ 0 then none else match gH g G.d with
     | none => none
     | some h => some ⟨b, h, (C.sem.jg b (1 + g.aW h.len)).1⟩ := by unfold ak.gJ; rw [← hG, show C.sem.g = g from hg]
   rw [← hG] at Ov ⊢
   refine WL.sub (Sub.refl _) (fun w h => h.sel 3 [1, 2, 0] rfl) ?_
   refine WL.mv rfl rfl (WL.xt rfl rfl rfl (WL.xt rfl rfl rfl (WL.xt rfl rfl rfl (WL.sg rfl rfl (WL.sg rfl rfl (WL.sg rfl rfl (WL.nil (WC.seq (WC.sr (WL.mv rfl rfl (WL.val (V.neq (OV.p rfl) (OV.p rfl)) rfl (WL.nil ?_))))))))))))
   refine WC.cond rfl (fun hc3 => ?_) (fun hc3 => ?_)
   ·simp only [Bool.not_eq_true', Bool.not_eq_false', decide_eq_true_eq, decide_eq_false_iff_not] at hc3
    have h3 := hc3
    rw [if_pos h3] at hsb
    rw [hsb] at hfn
    refine WC.exit (WC.region (WL.ad rfl rfl rfl ?_))
    refine WL.mv rfl rfl (WL.nil ?_)
    refine ⟨rfl, ?_⟩
    first
    | (refine ⟨(k + 1, A5, c5), hkg, (by show gd.length - (k + 1) < gd.length - k; omega), .cons rfl (.cons rfl (.cons (look_eq rfl (by dsimp only; rw [hfn, List.length_append]; rfl)) (.cons rfl (.cons rfl (.cons (look_eq rfl (by simp)) (.nil _)))))), fun w h => ?_⟩
       dsimp only
       rw [hfn, List.length_append, Option.toList_some, iJ]
       exact h.sel 8 [2, 3, 0, 6, 7] rfl)
    | (refine ⟨(k + 1, Ao, co), hkg, (by show gd.length - (k + 1) < gd.length - k; omega), .cons rfl (.cons rfl (.cons (look_eq rfl (by dsimp only; rw [hfn]; simp)) (.cons rfl (.cons rfl (.cons (look_eq rfl (by simp)) (.nil _)))))), fun w h => ?_⟩
       dsimp only
       rw [hfn, Option.toList_none, List.append_nil]
       first
         | exact h.sel 6 [0, 1, 3, 4, 5] rfl
         | exact h.sel 7 [1, 2, 4, 5, 6] rfl)
   ·simp only [Bool.not_eq_true', Bool.not_eq_false', decide_eq_true_eq, decide_eq_false_iff_not] at hc3
    have h3 := hc3
    rw [if_neg (fun h => h (by omega))] at hsb
    obtain ⟨pe, hpe⟩ : ∃ pe, pe = gX g G.d := ⟨_, rfl⟩
    obtain ⟨ph, MU⟩ : ∃ ph, ph = eZ g G.d := ⟨_, rfl⟩
    have hps : (pe ≠ 0 ∧ C.sem.gJ b = none) ∨ (pe = 0 ∧ ph.may g = true ∧ C.sem.gJ b = some ⟨b, ph, (C.sem.jg b (1 + g.aW ph.len)).1⟩) := by
      unfold gX at hpe
      unfold eZ at MU
      cases hp : gH g G.d with
      | none =>
        rw [hp] at hsb hpe
        exact .inl ⟨by rw [hpe]; dsimp only; split <;> decide, hsb⟩
      | some h =>
        rw [hp] at hsb hpe MU
        have PE : ph = h := MU
        subst PE
        exact .inr ⟨hpe, (qc hgm hp).2.1, hsb⟩
    refine WC.skip (WC.sr ?_)
    refine WL.val (V.aU (vs := [_, _, _, _, _]) ⟨Tryz.isAgg23, Tryz.sizeOf23⟩ (OV.p rfl) rfl (fun _ => by repeat (first | exact aT.gets ⟨rfl, rfl, rfl, rfl, rfl, trivial⟩ | apply aT.up))) rfl ?_
    refine WL.mv rfl rfl ?_
    refine WL.call (vs := [_, _]) Tryz.call91 ⟨OV.p rfl, OV.p rfl, trivial⟩ (aG.eq (v' := .tuple #[ph.v, .int .i64 pe]) (zD (d := G.d) hgm (by repeat (first | exact bC.seq (by rw [aH, Nat.mul_one]) | apply Seq.up)) Ov.1 (by omega)) (by rw [MU, hpe])) rfl ?_
    rintro _ H0 ⟨rfl, h0⟩
    subst H0
    refine WL.mv rfl rfl (WL.xt rfl rfl rfl (WL.xt rfl rfl rfl ?_))
    refine WL.alloc (cs := [(.int .i64 0), (.int .i64 0), (.int .i64 0)]) Tryz.zeroValue157 rfl rfl (fun b13 => ?_)
    refine WL.store (cs := [_, _, _]) Tryz.sizeOf157 (OV.p rfl) (OV.p rfl) rfl rfl rfl (by repeat (first | exact aQ.here (cs' := [_, _, _]) rfl rfl | apply aQ.up)) ?_
    refine WL.sg rfl rfl (WL.nil (WC.seq (WC.sr (WL.mv rfl rfl (WL.val (V.neq (OV.p rfl) (OV.p rfl)) rfl (WL.nil ?_))))))
    refine WC.cond rfl (fun hc4 => ?_) (fun hc4 => ?_)
    ·simp only [Bool.not_eq_true', Bool.not_eq_false', decide_eq_true_eq, decide_eq_false_iff_not] at hc4
     have h4 := hc4
     rcases hps with ⟨_, hsn⟩ | ⟨h5, _⟩
     rotate_left
     · exact absurd h5 h4
     rw [hsn] at hfn
     refine WC.exit (WC.region (WL.ad rfl rfl rfl ?_))
     refine WL.mv rfl rfl (WL.nil ?_)
     refine ⟨rfl, ?_⟩
     first
     | (refine ⟨(k + 1, A5, c5), hkg, (by show gd.length - (k + 1) < gd.length - k; omega), .cons rfl (.cons rfl (.cons (look_eq rfl (by dsimp only; rw [hfn, List.length_append]; rfl)) (.cons rfl (.cons rfl (.cons (look_eq rfl (by simp)) (.nil _)))))), fun w h => ?_⟩
        dsimp only
        rw [hfn, List.length_append, Option.toList_some, iJ]
        exact h.sel 8 [2, 3, 0, 6, 7] rfl)
     | (refine ⟨(k + 1, Ao, co), hkg, (by show gd.length - (k + 1) < gd.length - k; omega), .cons rfl (.cons rfl (.cons (look_eq rfl (by dsimp only; rw [hfn]; simp)) (.cons rfl (.cons rfl (.cons (look_eq rfl (by simp)) (.nil _)))))), fun w h => ?_⟩
        dsimp only
        rw [hfn, Option.toList_none, List.append_nil]
        first
          | exact h.sel 6 [0, 1, 3, 4, 5] rfl
          | exact h.sel 7 [1, 2, 4, 5, 6] rfl)
    ·simp only [Bool.not_eq_true', Bool.not_eq_false', decide_eq_true_eq, decide_eq_false_iff_not] at hc4
     have h4 := hc4
     rcases hps with ⟨h5, _⟩ | ⟨_, CX, hss⟩
     · exact absurd (by omega) h5
     rw [hss] at hfn
     have hmb := CX
     unfold Hd.may at hmb
     simp only [Bool.and_eq_true, decide_eq_true_eq] at hmb
     have hfit := hmb.1.1.1.1
     have MK := hfit
     unfold Geo.fits at MK
     simp only [Bool.and_eq_true, decide_eq_true_eq] at MK
     have hcb := Geo.rC hgm
     have hrb := Geo.jq hgm
     have hpn : 0 ≤ g.aW ph.len ∧ g.aW ph.len ≤ 1000000 := by
       unfold Geo.aW
       exact ⟨Int.ediv_nonneg (by omega) (by omega), Int.le_trans (Int.ediv_le_self _ (by omega)) (by omega)⟩
     refine WC.skip (WC.sr ?_)
     refine WL.val (V.aU (vs := [_, _, _, _, _]) ⟨Tryz.isAgg23, Tryz.sizeOf23⟩ (OV.p rfl) rfl (fun _ => by repeat (first | exact aT.gets ⟨rfl, rfl, rfl, rfl, rfl, trivial⟩ | apply aT.up))) rfl ?_
     refine WL.val (V.fieldAddr tJ (OV.p rfl)) rfl (WL.ld Tryz.isAgg3 rfl rfl ?_)
     refine WL.call (vs := [_, _]) Tryz.call92 ⟨OV.p rfl, OV.p rfl, trivial⟩ (aG.eq (v' := .tuple #[.int .i64 (g.aW ph.len), .int .i64 0]) (rZ hgm (by omega)) (by rw [hfit]; rfl)) rfl ?_
     rintro _ H0 ⟨rfl, h0⟩
     subst H0
     refine WL.mv rfl rfl (WL.xt rfl rfl rfl (WL.xt rfl rfl rfl (WL.sg rfl rfl (WL.sg rfl rfl (WL.nil (WC.sr (WL.mv rfl rfl (WL.mv rfl rfl (WL.mv rfl rfl (WL.ad rfl rfl rfl ?_))))))))))
     refine WL.sub (Sub.refl _) (fun w h => h.sel 3 [1, 2, 0] rfl) ?_
     refine WL.call (vs := [_, _, _]) Tryz.call126 ⟨OV.p rfl, OV.p rfl, OV.p rfl, trivial⟩ (ny hC hg b (1 + g.aW ph.len) (by omega)) rfl ?_
     rintro _ _ ⟨rfl, rfl⟩
     refine WL.mv rfl rfl (WL.xt rfl rfl rfl (WL.xt rfl rfl rfl (WL.sg rfl rfl (WL.sg rfl rfl (WL.nil (WC.region (WL.mv rfl rfl (WL.mv rfl rfl ?_))))))))
     refine WL.val (V.aU (vs := [_, _, _]) ⟨Tryz.isAgg157, Tryz.sizeOf157⟩ (OV.p rfl) rfl (fun _ => by repeat (first | exact aT.gets ⟨rfl, rfl, rfl, trivial⟩ | apply aT.up))) rfl ?_
     refine WL.mv rfl rfl (WL.val (V.build (vs := [(0, _), (1, _), (2, _)]) ⟨OV.p rfl, OV.p rfl, OV.p rfl, trivial⟩ rfl (Bv _ _ _ _ _)) rfl ?_)
     refine WL.buildSlice (E := 237) (cs := [_, _, _, _, _]) (vs := [(0, _)]) ⟨OV.p rfl, trivial⟩ rfl (q9 _ _ _ _ _) rfl (fun Te => ?_)
     refine WL.sub (Sub.refl _) (fun w h => h.sel 6 [5, 0, 1, 2, 3, 4] rfl) ?_
     refine WL.append (m := fs.length) (q := 1) (news := Fd.cells ⟨b, ph, (C.sem.jg b (1 + g.aW ph.len)).1⟩) Tryz.underlying170 KN (OV.p rfl) (OV.p rfl) (Seq.all rfl) (fun u hu => by simpa using List.all_eq_true.1 (uW _) u hu) (by omega) rfl rfl (fun A5 c5 KM pI => ?_)
     refine WL.sg rfl rfl (WL.nil (WC.region (WL.ad rfl rfl rfl ?_)))
     refine WL.mv rfl rfl (WL.nil ?_)
     refine ⟨rfl, ?_⟩
     first
     | (refine ⟨(k + 1, A5, c5), hkg, (by show gd.length - (k + 1) < gd.length - k; omega), .cons rfl (.cons rfl (.cons (look_eq rfl (by dsimp only; rw [hfn, List.length_append]; rfl)) (.cons rfl (.cons rfl (.cons (look_eq rfl (by simp)) (.nil _)))))), fun w h => ?_⟩
        dsimp only
        rw [hfn, List.length_append, Option.toList_some, iJ]
        exact h.sel 8 [2, 3, 0, 6, 7] rfl)
     | (refine ⟨(k + 1, Ao, co), hkg, (by show gd.length - (k + 1) < gd.length - k; omega), .cons rfl (.cons rfl (.cons (look_eq rfl (by dsimp only; rw [hfn]; simp)) (.cons rfl (.cons rfl (.cons (look_eq rfl (by simp)) (.nil _)))))), fun w h => ?_⟩
        dsimp only
        rw [hfn, Option.toList_none, List.append_nil]
        first
          | exact h.sel 6 [0, 1, 3, 4, 5] rfl
          | exact h.sel 7 [1, 2, 4, 5, 6] rfl)
  ·simp only [decide_eq_true_eq, decide_eq_false_iff_not] at hc2
   refine WC.exit (WC.sr (WL.mv rfl rfl (WL.sg rfl rfl (WL.sg rfl rfl (WL.nil (WC.ret ?_))))))
   obtain rfl : k = gd.length := by omega
   have hend : fs = C.sem.bN := by rw [hfs, List.take_of_length_le (Nat.le_refl _), hscan]
   rw [← hend]
   exact aj.ret (H' := C.A bc :: bQ bd bc g :: bC (.slice Ao fs.length co) 237 5 fs.length (bJ fs) :: F) (aL.dJ rfl rfl rfl) (fun w h => h.sel 5 [0, 1, 2] rfl) ⟨Ao, co, rfl, rfl⟩
end
def ou (c : Fd → Fd → Int) (fs : List Fd) : Nat → Fd
  | 0 => fs.getD 0 fd0
  | i + 1 => if 0 < c (fs.getD (i + 1) fd0) (ou c fs i) then fs.getD (i + 1) fd0 else ou c fs i
def lastB (l : List Fd) : Int := match l.getLast? with | none => -1 | some x => x.block
def fT (av : Nat) (fs : List Fd) : List Int := (fE av fs).map fun l => lastB (bX (ltOf kG) l)
def jR (fs : List Fd) : Int := if fs.length = 0 then 1 else (ou zn fs (fs.length - 1)).hd.num + 1
def kF (av : Nat) (fs : List Fd) : List (List Int) := (fE av fs).map fun l => (bX (ltOf KJ) (bX (ltOf kG) l).dropLast).map Fd.block
theorem fF (av : Nat) (fs : List Fd) : (fT av fs).length = av := by unfold fT; rw [List.length_map, uw]
theorem lV (av : Nat) (fs : List Fd) : (kF av fs).length = av := by unfold kF; rw [List.length_map, uw]
structure bg where
  A : Option Addr
  c : Nat
  l : List Int
abbrev bg.v (x : bg) : Value := .slice x.A x.l.length x.c
def bg.row (x : bg) : au := bC (.slice x.A x.l.length x.c) 3 1 x.l.length (ints .i64 x.l)
def Pj : bg := ⟨none, 0, []⟩
theorem Rd.ER {K : World} {l H : List au} {A : au} {p : Option Addr} {v : Value} (hA : A ∈ l) (h : Rd K [A] p v) : Rd K (bH l :: H) p v := fun w hw => h w (hw.P7 hA)
theorem aY.rd {K : World} {r : aY} {i j : Nat} {x : Fd} {v : Value} (hi : r.l[i]? = some x) (hj : x.cells[j]? = some v) : Rd K [r.row] (r.A.map (·.add (i * 5 + j))) v := by
  have h : Seq K [r.row] r.A r.l.length 5 (bJ r.l) := bC.seq (dQ _)
  exact um h hi hj
section
variable {K : World} {F : List au}
theorem Ht {f : Nat} {c : Fd → Fd → Int} (hf : wm f c) {A : Option Addr} {n cap : Nat} {fs : List Fd} (hs : Seq K F A n 5 (bJ fs)) (hn : fs.length = n) (h0 : 0 < n) (hn2 : n ≤ 1000000) :
    aG Tryz.prog 165 #[.slice A n cap, .func (.func f) #[] #[]] K F (ou c fs (n - 1)).v := by
  have hel : ∀ {X : List au} (k : Nat), k < n → (∀ w, Sat K w X → Sat K w F) → ∀ (j : Nat) v, (fs.getD k fd0).cells[j]? = some v → Rd K X (A.map (·.add (k * 5 + j))) v := fun k hk hX j v hj => by
    have hx : fs[k]? = some (fs.getD k fd0) := by simp [List.getD, show k < fs.length by omega]
    exact um (hs.sat hX) hx hj
  have hup : ∀ {X : au} {Y : List au}, (∀ w, Sat K w Y → Sat K w F) → ∀ w, Sat K w (X :: Y) → Sat K w F := fun h w hw => h w hw.tail
  refine Does.enter Tryz.func165 rfl Tryz.ntmps165 rfl ?_
  simp only [aJ, Nat.reduceAdd]
  refine WC.sr ?_
  refine WL.alloc (cs := [(.int .i64 0), (.int .i64 0), (.int .i64 0), (.int .i64 0), (.bool false)]) Tryz.zeroValue237 rfl rfl (fun b4 => ?_)
  refine WL.nil (WC.seq (WC.sr (WL.mv rfl rfl (WL.val (V.len (t := 170) Tryz.runUnderlying170 (OV.p rfl)) rfl (WL.val (V.lss (OV.p rfl) (OV.p rfl)) rfl (WL.nil ?_))))))
  refine WC.aM rfl ((decide_eq_false (by omega))) ?_
  refine WC.skip (WC.sr (WL.mv rfl rfl ?_))
  refine WL.val (V.aA (v' := sp A (0 * 5)) (V.fu kH (OV.p rfl) (OV.p rfl) (fun hc => by omega) (fun hc => by rw [show ((0 : Int)).toNat = 0 from rfl]; exact hel 0 h0 (by repeat (first | exact (fun w h => h) | apply hup)) 0 _ rfl)) (fun _ => rfl)) rfl ?_
  refine WL.val (V.EX (vs := (fs.getD 0 fd0).cells) ⟨Tryz.isAgg237, Tryz.sizeOf237⟩ (OV.p rfl) rfl (by decide) (fun _ j v hj => by exact hel 0 h0 (by repeat (first | exact (fun w h => h) | apply hup)) j v hj)) rfl ?_
  refine WL.alloc (cs := [(.int .i64 0), (.int .i64 0), (.int .i64 0), (.int .i64 0), (.bool false)]) Tryz.zeroValue237 rfl rfl (fun b5 => ?_)
  refine WL.store (cs := [_, _, _, _, _]) Tryz.sizeOf237 (OV.p rfl) (OV.p rfl) rfl rfl rfl (by repeat (first | exact aQ.here (cs' := [_, _, _, _, _]) rfl rfl | apply aQ.up)) ?_
  refine WL.nil (WC.seq (WC.sr (WL.sg rfl rfl (WL.nil (WC.block ?_)))))
  refine WC.loop (σ := Nat) (fun i => [(0, .slice A n cap), (1, .func (.func f) #[] #[]), (4, ptr b4 0), (5, ptr b5 0), (6, .int .i64 ((i + 1 : Nat) : Int))]) (fun i => Cells b5 237 (ou c fs i).cells :: Cells b4 237 [.int .i64 0, .int .i64 0, .int .i64 0, .int .i64 0, .bool false] :: F) (fun i => i < n) (fun i => n - i) 0 h0 (.cons rfl (.cons rfl (.cons rfl (.cons rfl (.cons rfl (.nil _)))))) (fun w h => h) ?_
  rintro i hi
  obtain ⟨m, hm⟩ : ∃ m, m = ou c fs i := ⟨_, rfl⟩
  rw [← hm]
  refine WC.seq (WC.sr (WL.mv rfl rfl (WL.mv rfl rfl (WL.val (V.len (t := 170) Tryz.runUnderlying170 (OV.p rfl)) rfl (WL.val (V.lss (OV.p rfl) (OV.p rfl)) rfl (WL.nil ?_))))))
  refine WC.cond rfl (fun hc1 => ?_) (fun hc1 => ?_)
  ·simp only [decide_eq_true_eq, decide_eq_false_iff_not] at hc1
   have hi1 : i + 1 < n := by omega
   obtain ⟨x, hx⟩ : ∃ x, x = fs.getD (i + 1) fd0 := ⟨_, rfl⟩
   have hti : (((i + 1 : Nat) : Int)).toNat = i + 1 := by omega
   have hxe : ∀ {X : List au}, (∀ w, Sat K w X → Sat K w F) → ∀ (j : Nat) v, x.cells[j]? = some v → Rd K X (A.map (·.add ((i + 1) * 5 + j))) v := fun hX j v hj => hel (i + 1) hi1 hX j v (by rw [← hx]; exact hj)
   have hst : ou c fs (i + 1) = if 0 < c x m then x else m := by rw [ou, ← hx, ← hm]
   refine WC.skip (WC.seq (WC.block (WC.seq ?_)))
   refine WC.fK (by kernel_rfl) (by kernel_rfl) ?_
   refine WQ.val (V.move (OV.p rfl)) rfl (WQ.val (V.move (OV.p rfl)) rfl (WQ.val (V.move (OV.p rfl)) rfl ?_))
   refine WQ.val (V.aA (v' := sp A ((i + 1) * 5)) (V.fu kH (OV.p rfl) (OV.p rfl) (fun hc => by omega) (fun hc => by rw [hti]; exact hxe (by repeat (first | exact (fun w h => h) | apply hup)) 0 _ rfl)) (fun _ => by rw [hti])) rfl ?_
   refine WQ.val (V.EX (vs := x.cells) ⟨Tryz.isAgg237, Tryz.sizeOf237⟩ (OV.p rfl) rfl (by decide) (fun _ j v hj => by exact hxe (by repeat (first | exact (fun w h => h) | apply hup)) j v hj)) rfl ?_
   refine WQ.val (V.aU (vs := [_, _, _, _, _]) ⟨Tryz.isAgg237, Tryz.sizeOf237⟩ (OV.p rfl) rfl (fun _ => by repeat (first | exact aT.gets ⟨rfl, rfl, rfl, rfl, rfl, trivial⟩ | apply aT.up))) rfl ?_
   refine WQ.kV (first := []) (vs := [_, _]) (captured := []) hf.1 (OV.p rfl) ⟨OV.p rfl, OV.p rfl, trivial⟩ (hf.2 _ _ x m) rfl (WQ.val (V.gtr (OV.p rfl) (OV.p rfl)) rfl (WQ.nil ?_))
   refine WC.cond rfl (fun hc2 => ?_) (fun hc2 => ?_)
   ·simp only [decide_eq_true_eq, decide_eq_false_iff_not] at hc2
    have h2 := hc2
    rw [if_pos h2] at hst
    refine WC.region (WL.mv rfl rfl (WL.mv rfl rfl ?_))
    refine WL.val (V.aA (v' := sp A ((i + 1) * 5)) (V.fu kH (OV.p rfl) (OV.p rfl) (fun hc => by omega) (fun hc => by rw [hti]; exact hxe (by repeat (first | exact (fun w h => h) | apply hup)) 0 _ rfl)) (fun _ => by rw [hti])) rfl ?_
    refine WL.val (V.EX (vs := x.cells) ⟨Tryz.isAgg237, Tryz.sizeOf237⟩ (OV.p rfl) rfl (by decide) (fun _ j v hj => by exact hxe (by repeat (first | exact (fun w h => h) | apply hup)) j v hj)) rfl ?_
    refine WL.store (cs := x.cells) Tryz.sizeOf237 (OV.p rfl) (OV.p rfl) rfl rfl rfl (by repeat (first | exact aQ.here (cs' := [_, _, _, _, _]) rfl rfl | apply aQ.up)) ?_
    refine WL.nil (WC.region (WL.mv rfl rfl (WL.ad rfl rfl rfl ?_)))
    refine WL.sg rfl rfl (WL.nil ?_)
    refine ⟨rfl, ?_⟩
    refine ⟨i + 1, hi1, (by show n - (i + 1) < n - i; omega), .cons rfl (.cons rfl (.cons rfl (.cons rfl (.cons (look_eq rfl (by simp)) (.nil _))))), fun w h => ?_⟩
    dsimp only
    rw [hst]
    exact h
   ·simp only [decide_eq_true_eq, decide_eq_false_iff_not] at hc2
    have h2 := hc2
    rw [if_neg (by omega)] at hst
    refine WC.skip (WC.region (WL.mv rfl rfl (WL.ad rfl rfl rfl ?_)))
    refine WL.sg rfl rfl (WL.nil ?_)
    refine ⟨rfl, ?_⟩
    refine ⟨i + 1, hi1, (by show n - (i + 1) < n - i; omega), .cons rfl (.cons rfl (.cons rfl (.cons rfl (.cons (look_eq rfl (by simp)) (.nil _))))), fun w h => ?_⟩
    dsimp only
    rw [hst]
    exact h
  ·simp only [decide_eq_true_eq, decide_eq_false_iff_not] at hc1
   refine WC.exit (WC.sr ?_)
   refine WL.val (V.aU (vs := [_, _, _, _, _]) ⟨Tryz.isAgg237, Tryz.sizeOf237⟩ (OV.p rfl) rfl (fun _ => by repeat (first | exact aT.gets ⟨rfl, rfl, rfl, rfl, rfl, trivial⟩ | apply aT.up))) rfl ?_
   refine WL.store (cs := [_, _, _, _, _]) Tryz.sizeOf237 (OV.p rfl) (OV.p rfl) rfl rfl rfl (by repeat (first | exact aQ.here rfl rfl | apply aQ.up)) ?_
   refine WL.nil (WC.ret ?_)
   obtain rfl : i = n - 1 := by omega
   rw [← hm]
   exact aj.normal (H' := F) (aL.one rfl (R1.gF (vs := [_, _, _, _, _]) rfl ⟨Tryz.isAgg237, Tryz.sizeOf237⟩ rfl (by repeat (first | exact aT.gets ⟨rfl, rfl, rfl, rfl, rfl, trivial⟩ | apply aT.up)))) (fun w h => h.drop 2) ⟨rfl, rfl⟩
theorem CJ {av n cap : Nat} {A : Option Addr} {fs : List Fd} (hl : 1 ≤ av ∧ av ≤ 64) (hs : Seq K F A n 5 (bJ fs)) (hn : fs.length = n) (h20 : n < 1000) (hso : ∀ aI, aI < av → Ga 164 kG (fs.filter (jh aI))) (CQ : ∀ x ∈ fs, x.hd.num ≤ 1000000001 ∧ 0 ≤ x.hd.num) :
    Does Tryz.prog 101 #[.int .i64 (av : Int), .slice A n cap] K F
      (fun v H' => ∃ A' c', v = .tuple #[.slice A' av c', .int .i64 (jR fs), .int .i64 0] ∧ H' = bC (.slice A' av c') 3 1 av (ints .i64 (fT av fs)) :: F) := by
  obtain ⟨pk, hpk⟩ : ∃ pk, pk = fT av fs := ⟨_, rfl⟩
  have hpl : pk.length = av := by rw [hpk]; exact fF _ _
  refine Does.enter Tryz.func101 rfl Tryz.ntmps101 rfl ?_
  simp only [aJ, Nat.reduceAdd]
  refine WC.sr (WL.sg rfl rfl (WL.sg rfl rfl (WL.sg rfl rfl (WL.nil (WC.sr (WL.mv rfl rfl (WL.mv rfl rfl (WL.call (vs := [_, _, _]) Tryz.call163 ⟨OV.p rfl, OV.p rfl, OV.p rfl, trivial⟩ (qJ pO hl hs hn h20 hso) rfl ?_))))))))
  rintro _ _ ⟨bo, rs, hrl, hrs, rfl, rfl⟩
  have hpr : ∀ j r, rs[j]? = some r → pk.getD j 0 = lastB r.l ∧ j < av := fun j r hj => by
    have h1 : (rs.map aY.l)[j]? = some r.l := by rw [List.getElem?_map, hj]; rfl
    have hjl : j < av := by rw [← hrl]; exact (List.getElem?_eq_some_iff.1 hj).1
    refine ⟨?_, hjl⟩
    rw [hrs] at h1
    simp only [List.getElem?_map, fE, List.getElem?_range hjl, Option.map_some] at h1
    injection h1 with h1
    rw [hpk]
    unfold fT
    simp only [List.getD, List.getElem?_map, fE, List.getElem?_range hjl, Option.map_some, Option.getD_some]
    rw [h1]
  refine WL.mv rfl rfl (WL.xt rfl rfl rfl (WL.xt rfl rfl rfl (WL.sg rfl rfl (WL.sg rfl rfl (WL.nil (WC.seq (WC.sr (WL.mv rfl rfl (WL.val (V.neq (OV.p rfl) (OV.p rfl)) rfl (WL.nil ?_))))))))))
  refine WC.aM rfl (by first | rfl | (simp; done) | (simp; omega)) ?_
  refine WC.skip (WC.sr (WL.sg rfl rfl (WL.nil (WC.seq (WC.sr (WL.mv rfl rfl (WL.val (V.len (t := 238) Tryz.runUnderlying238 (OV.p rfl)) rfl (WL.mv rfl rfl (WL.nil (WC.block ?_))))))))))
  refine WC.loop (σ := Nat × Option Addr × Nat) (fun s => [(1, .slice A n cap), (9, .slice s.2.1 s.1 s.2.2), (22, .slice (some ⟨bo, 0, none⟩) av av), (23, .int .i64 (av : Int)), (24, .int .i64 (s.1 : Int))]) (fun s => bC (.slice s.2.1 s.1 s.2.2) 3 1 s.1 (ints .i64 (pk.take s.1)) :: Cells bo 170 (rs.map aY.v) :: bH (rs.map aY.row) :: F) (fun s => s.1 ≤ av) (fun s => av - s.1) (0, none, 0) (Nat.zero_le _) (.cons rfl (.cons rfl (.cons rfl (.cons rfl (.cons rfl (.nil _)))))) (fun w h => Sat.iA h _ _) ?_
  rintro ⟨j, Ao, co⟩ hj
  dsimp only at hj ⊢
  refine WC.sr (WL.val (V.lss (OV.p rfl) (OV.p rfl)) rfl (WL.nil (WC.seq ?_)))
  refine WC.cond rfl (fun hc1 => ?_) (fun hc1 => ?_)
  ·simp only [decide_eq_true_eq, decide_eq_false_iff_not] at hc1
   have hjl : j < av := by omega
   obtain ⟨r, hr⟩ : ∃ r, rs[j]? = some r := ⟨_, List.getElem?_eq_getElem (by omega)⟩
   have Li : (rs.map aY.v)[0 + ((j : Nat) : Int).toNat * 1]? = some r.v := by rw [show 0 + ((j : Nat) : Int).toNat * 1 = j by omega, List.getElem?_map, hr]; rfl
   have hmem : r.row ∈ rs.map aY.row := List.mem_map.2 ⟨r, List.mem_of_getElem? hr, rfl⟩
   have htk : pk.take (j + 1) = pk.take j ++ [lastB r.l] := by rw [List.take_add_one, List.getElem?_eq_getElem (by omega), ← (hpr j r hr).1]; simp [List.getD, show j < pk.length by omega]
   refine WC.skip (WC.seq (WC.block (WC.sr ?_)))
   refine WL.val (V.bP Bc (OV.p rfl) (OV.p rfl) (fun hc => by omega)) rfl ?_
   refine WL.val (V.load Tryz.isAgg170 (OV.p rfl) (fun _ => by repeat (first | exact Rd.here Li | apply Rd.up))) rfl ?_
   refine WL.sg rfl rfl (WL.nil (WC.sr (WL.mv rfl rfl (WL.val (V.len (t := 170) Tryz.runUnderlying170 (OV.p rfl)) rfl (WL.val (V.eql (OV.p rfl) (OV.p rfl)) rfl (WL.nil ?_))))))
   refine WC.cond rfl (fun hc2 => ?_) (fun hc2 => ?_)
   ·simp only [decide_eq_true_eq, decide_eq_false_iff_not] at hc2
    have h2 := hc2
    have hlast : lastB r.l = -1 := by
      have : r.l = [] := List.eq_nil_of_length_eq_zero (by omega)
      unfold lastB; rw [this]; rfl
    refine WC.region (WL.mv rfl rfl ?_)
    refine WL.buildSlice (E := 3) (cs := [_]) (vs := [(0, _)]) ⟨OV.p rfl, trivial⟩ rfl (cZ _) rfl (fun b32 => ?_)
    refine WL.sub (Sub.refl _) (fun w h => h.p1) ?_
    refine WL.append (m := j) (q := 1) (news := [.int .i64 (-1)]) Tryz.underlying124 el3 (OV.p rfl) (OV.p rfl) (Seq.all rfl) (by intro u hu; rw [List.mem_singleton.1 hu]; rfl) (by omega) rfl rfl (fun A5 c5 KM pI => ?_)
    refine WL.sg rfl rfl (WL.nil (WC.region (WL.ad rfl rfl rfl ?_)))
    refine WL.mv rfl rfl (WL.nil ?_)
    refine ⟨rfl, ?_⟩
    refine ⟨(j + 1, A5, c5), hjl, (by show av - (j + 1) < av - j; omega), .cons rfl (.cons rfl (.cons rfl (.cons rfl (.cons (look_eq rfl (by simp)) (.nil _))))), fun w h => ?_⟩
    dsimp only
    rw [htk, hlast, bY]
    exact h.sel 2 [0] rfl
   ·simp only [decide_eq_true_eq, decide_eq_false_iff_not] at hc2
    have h2 := hc2
    obtain ⟨x, hx⟩ : ∃ x, r.l[r.l.length - 1]? = some x := ⟨_, List.getElem?_eq_getElem (by omega)⟩
    have hlast : lastB r.l = x.block := by unfold lastB; rw [List.getLast?_eq_getElem?, hx]
    have hrx : ∀ (i : Nat) v, x.cells[i]? = some v → ∀ {X : List au}, Rd K (bH (rs.map aY.row) :: X) (r.A.map (·.add ((r.l.length - 1) * 5 + i))) v := fun i v hi X => Rd.ER hmem (aY.rd hx hi)
    have QJ : ((r.l.length : Int) - 1).toNat = r.l.length - 1 := by omega
    have PU : r.l.length ≤ 1000000 := by
      have h3 : (rs.map aY.l)[j]? = some r.l := by rw [List.getElem?_map, hr]; rfl
      rw [hrs] at h3
      simp only [fE, List.getElem?_map, List.getElem?_range hjl, Option.map_some] at h3
      injection h3 with h3
      rw [← h3, eT]
      exact Nat.le_trans (List.length_filter_le _ _) (by omega)
    refine WC.region (WL.mv rfl rfl (WL.mv rfl rfl (WL.mv rfl rfl (WL.val (V.len (t := 170) Tryz.runUnderlying170 (OV.p rfl)) rfl (WL.sb rfl rfl rfl ?_)))))
    refine WL.val (V.aA (v' := sp r.A ((r.l.length - 1) * 5)) (V.fu kH (OV.p rfl) (OV.p rfl) (fun hc => by omega) (fun hc => by rw [QJ]; repeat (first | exact hrx 0 _ rfl | apply Rd.up))) (fun _ => by rw [QJ])) rfl ?_
    refine WL.val (V.Nk (k' := (r.l.length - 1) * 5) qD (OV.p rfl) (fun _ => by repeat (first | exact hrx 0 _ rfl | apply Rd.up))) rfl ?_
    refine WL.val (V.load Tryz.isAgg3 (OV.p rfl) (fun _ => by repeat (first | exact hrx 0 _ rfl | apply Rd.up))) rfl ?_
    refine WL.buildSlice (E := 3) (cs := [_]) (vs := [(0, _)]) ⟨OV.p rfl, trivial⟩ rfl (cZ _) rfl (fun SA => ?_)
    refine WL.sub (Sub.refl _) (fun w h => h.p1) ?_
    refine WL.append (m := j) (q := 1) (news := [.int .i64 x.block]) Tryz.underlying124 el3 (OV.p rfl) (OV.p rfl) (Seq.all rfl) (by intro u hu; rw [List.mem_singleton.1 hu]; rfl) (by omega) rfl rfl (fun A5 c5 KM pI => ?_)
    refine WL.sg rfl rfl (WL.nil (WC.region (WL.ad rfl rfl rfl ?_)))
    refine WL.mv rfl rfl (WL.nil ?_)
    refine ⟨rfl, ?_⟩
    refine ⟨(j + 1, A5, c5), hjl, (by show av - (j + 1) < av - j; omega), .cons rfl (.cons rfl (.cons rfl (.cons rfl (.cons (look_eq rfl (by simp)) (.nil _))))), fun w h => ?_⟩
    dsimp only
    rw [htk, hlast, bY]
    exact h.sel 2 [0] rfl
  ·simp only [decide_eq_true_eq, decide_eq_false_iff_not] at hc1
   refine WC.exit (WC.seq (WC.seq ?_))
   obtain rfl : j = av := by omega
   rw [List.take_of_length_le (by omega), hpk]
   refine WC.sub (Sub.refl _) (fun w h => h.sel 3 [0] rfl) ?_
   refine WC.region (WL.mv rfl rfl (WL.val (V.len (t := 170) Tryz.runUnderlying170 (OV.p rfl)) rfl (WL.val (V.eql (OV.p rfl) (OV.p rfl)) rfl (WL.nil ?_))))
   refine WC.cond rfl (fun hc3 => ?_) (fun hc3 => ?_)
   ·simp only [decide_eq_true_eq, decide_eq_false_iff_not] at hc3
    have h3 := hc3
    have hnx : jR fs = 1 := by unfold jR; rw [if_pos (by omega)]
    refine WC.sr (WL.mv rfl rfl (WL.sg rfl rfl (WL.sg rfl rfl (WL.sg rfl rfl (WL.nil (WC.ret ?_))))))
    rw [hnx]
    exact aj.ret (H' := bC (.slice Ao j co) 3 1 j (ints .i64 (fT j fs)) :: F) (aL.vD rfl rfl rfl rfl) (fun w h => h) ⟨Ao, co, rfl, rfl⟩
   ·simp only [decide_eq_true_eq, decide_eq_false_iff_not] at hc3
    have h3 := hc3
    have hnx : jR fs = (ou zn fs (n - 1)).hd.num + 1 := by unfold jR; rw [if_neg (by omega), hn]
    have hmem : ∀ k, k < n → ou zn fs k ∈ fs := fun k => by
      induction k with
      | zero => intro hk; show fs.getD 0 fd0 ∈ fs; simp only [List.getD, List.getElem?_eq_getElem (show 0 < fs.length by omega)]; exact List.getElem_mem _
      | succ k ih =>
        intro hk
        rw [ou]
        split
        · simp only [List.getD, List.getElem?_eq_getElem (show k + 1 < fs.length by omega)]; exact List.getElem_mem _
        · exact ih (by omega)
    have hmb := CQ _ (hmem (n - 1) (by omega))
    refine WC.skip (WC.sr (WL.mv rfl rfl ?_))
    refine WL.call (vs := [_, _]) Tryz.call165 ⟨OV.p rfl, OV.p rfl, trivial⟩ (Ht Ki (by repeat (first | exact hs | apply Seq.up)) hn (by omega) (by omega)) rfl ?_
    rintro _ H0 ⟨rfl, h0⟩
    subst H0
    refine WL.alloc (cs := [(.int .i64 0), (.int .i64 0), (.int .i64 0), (.int .i64 0), (.bool false)]) Tryz.zeroValue237 rfl rfl (fun b12 => ?_)
    refine WL.store (cs := [_, _, _, _, _]) Tryz.sizeOf237 (OV.p rfl) (OV.p rfl) rfl rfl rfl (by repeat (first | exact aQ.here (cs' := [_, _, _, _, _]) rfl rfl | apply aQ.up)) ?_
    refine WL.nil (WC.seq ?_)
    refine WC.fK (by kernel_rfl) (by kernel_rfl) ?_
    refine WQ.val (V.move (OV.p rfl)) rfl (WQ.val (V.fieldAddr lD (OV.p rfl)) rfl (WQ.val (V.fieldAddr jr (OV.p rfl)) rfl ?_))
    refine WQ.val (V.load Tryz.isAgg3 (OV.p rfl) (fun _ => by repeat (first | exact Rd.here rfl | apply Rd.up))) rfl ?_
    refine WQ.val (V.jO (OV.p rfl) (OV.p rfl) (fun hc => by first | omega | (simp at hc; omega))) rfl ?_
    refine WQ.val (V.assign (OV.p rfl)) rfl (WQ.val (V.assign (OV.p rfl)) rfl (WQ.val (V.assign (OV.p rfl)) rfl (WQ.nil (WC.ret ?_))))
    rw [hnx]
    exact aj.ret (H' := bC (.slice Ao j co) 3 1 j (ints .i64 (fT j fs)) :: F) (aL.vD rfl rfl rfl rfl) (fun w h => h.drop 1) ⟨Ao, co, rfl, rfl⟩
theorem D5 {av n cap : Nat} {A : Option Addr} {fs : List Fd} (hl : 1 ≤ av ∧ av ≤ 64) (hs : Seq K F A n 5 (bJ fs)) (hn : fs.length = n) (h20 : n < 20) (CQ : ∀ x ∈ fs, x.hd.num ≤ 1000000001 ∧ 0 ≤ x.hd.num) :
    Does Tryz.prog 101 #[.int .i64 (av : Int), .slice A n cap] K F
      (fun v H' => ∃ A' c', v = .tuple #[.slice A' av c', .int .i64 (jR fs), .int .i64 0] ∧ H' = bC (.slice A' av c') 3 1 av (ints .i64 (fT av fs)) :: F) :=
  CJ hl hs hn (by omega) (fun aI _ _ _ _ _ => rD pO rfl (Nat.lt_of_le_of_lt (List.length_filter_le _ _) (by omega))) CQ
end
end Go.Proofs.YtcedojacbhnbiaaGreat
