import Derived.Test.YtcmojpiokjhmhaaGreatP19
namespace Go.Proofs.YtcmojpiokjhmhaaGreat
open Go.Sl Go.RowKit
set_option linter.unusedVariables false
set_option linter.unusedSimpArgs false
set_option maxRecDepth 20000
namespace ah
def iA (S : ah) (b : Int) : Option Fd :=
  if (S.aY b 0).err ≠ 0 then none
  else match gH S.g (S.aY b 0).d with
    | none => none
    | some h => some ⟨b, h, (S.jC b (1 + S.g.aW h.len)).1⟩
def bQ (S : ah) : List Fd := S.good.filterMap S.iA
def gV (S : ah) : Int := (S.jC 0 0).2
theorem kY (S : ah) : ∀ k x, x ∈ S.dK k → 0 ≤ x ∧ x < (k : Int) ∧ S.up = true ∧ S.bad x = false
  | 0, x, h => by simp [dK] at h
  | k + 1, x, h => by
    rw [dK] at h
    split at h
    · rename_i hg
      rcases List.mem_append.1 h with h | h
      · have := kY S k x h
        exact ⟨this.1, by omega, this.2.2⟩
      · have := List.mem_singleton.1 h
        subst this
        simp only [Bool.and_eq_true, Bool.not_eq_true'] at hg
        exact ⟨by omega, by omega, hg⟩
    · have := kY S k x h
      exact ⟨this.1, by omega, this.2.2⟩
end ah
theorem vF : ∀ (l : List (Option (LL × Nat))) (d : List Nat) (n : Nat), Small 256 d → (∀ o ∈ l, ∀ p k, o = some (p, k) → Small 256 p.1) → Small 256 (gJ l d n).d
  | [], d, n, h, _ => h
  | none :: l, d, n, h, _ => fun x hx => by simp [gJ] at hx
  | some (p, k) :: l, d, n, h, hl => by
    rw [gJ]
    exact vF l _ _ (h.append (hl _ (.head _) p k rfl)) (fun o ho => hl o (.tail _ ho))
theorem vS {t : Nat} {c : List Nat} {L : Nat} {p : LL} (h : Small 256 p.1) : ∀ k, Small 256 (bJ t c L p k).1.1
  | 0 => h
  | k + 1 => by
    have ih := vS (c := c) (L := L) (t := t) h k
    rw [bJ]
    split
    · show Small 256 (iN t _ k).1
      unfold iN
      split
      · exact jh ih _
      · exact ih
    · exact ih
theorem G5 {t : Nat} {d m : List Nat} (h : Small 256 d) {p : LL} {k : Nat} (hd : lT t d m = some (p, k)) : Small 256 p.1 := by
  unfold lT at hd
  split at hd
  · cases hd
  · split at hd
    · cases hd
    · split at hd
      · cases hd
      · injection hd with hd
        have := vS (t := t) (c := lU (dQ t (d, dM t m))) (L := mZ (dQ t (d, dM t m))) (p := (d, dM t m)) h (13 * t + 8 * d.length)
        rw [hd] at this
        exact this
theorem EI {t S B : Nat} {raw : List Nat} (h : Small 256 raw) : Small 256 (dD t S B raw).d := by
  unfold dD
  split
  · intro x hx; simp at hx
  · refine vF _ _ _ (fun x hx => by simp at hx) (fun o ho p k hp => ?_)
    obtain ⟨j, _, rfl⟩ := List.mem_map.1 ho
    unfold uw at hp
    exact G5 (Small.take (Small.drop h)) hp
theorem JZ {t S B : Nat} {raw : List Nat} (ht : t ≤ 8) (hS : S ≤ 8) (hB : B ≤ 512) : (dD t S B raw).d.length ≤ S * B := by
  unfold dD
  split
  · exact Nat.zero_le _
  · have key : ∀ (l : List (Option (LL × Nat))) (d : List Nat) (n : Nat), (∀ o ∈ l, ∀ p k, o = some (p, k) → p.1.length ≤ B) → (gJ l d n).d.length ≤ d.length + l.length * B := fun l => by
      induction l with
      | nil => intro d n _; show d.length ≤ _; omega
      | cons o l ih =>
        intro d n h
        cases o with
        | none => exact Nat.zero_le _
        | some r =>
          obtain ⟨p, k⟩ := r
          rw [gJ]
          have h1 := ih (d ++ p.1) (max n k) (fun o ho => h o (.tail _ ho))
          have h2 := h _ (.head _) p k rfl
          rw [List.length_append] at h1
          rw [List.length_cons, Nat.succ_mul]
          omega
    have := key ((List.range S).map (uw t B (B + ay t) raw)) [] 0 (fun o ho p k hp => by
      obtain ⟨j, _, rfl⟩ := List.mem_map.1 ho
      unfold uw at hp
      have h1 : (uH B (B + ay t) raw j).length ≤ B := by unfold uH; rw [List.length_take]; omega
      have h2 := (IL t (uH B (B + ay t) raw j) (EW B (B + ay t) raw j) (by omega) ht).1
      rw [hp] at h2
      exact Nat.le_trans h2 h1)
    rw [List.length_map, List.length_range] at this
    simpa using this
theorem Cw.Ok.pO {C : Cw} (hC : C.Ok) (b p : Int) : Small 256 (C.sem.aY b p).d ∧ (C.sem.aY b p).d.length ≤ 4096 := by
  have hg := hC.aD
  unfold Geo.aD at hg
  unfold ah.aY
  split
  · exact ⟨fun x hx => by simp at hx, Nat.zero_le _⟩
  · refine ⟨EI (hC.oQ b p).2.1, ?_⟩
    have h1 := JZ (t := C.sem.g.fl.toNat) (S := C.sem.g.se.toNat) (B := C.sem.g.sb.toNat) (raw := C.sem.fJ b p) (by show C.g.fl.toNat ≤ 8; omega) (by show C.g.se.toNat ≤ 8; omega) (by show C.g.sb.toNat ≤ 512; omega)
    have h2 : C.sem.g.se.toNat * C.sem.g.sb.toNat ≤ 8 * 512 := Nat.mul_le_mul (by show C.g.se.toNat ≤ 8; omega) (by show C.g.sb.toNat ≤ 512; omega)
    exact Nat.le_trans h1 h2
section
variable {bc bd : Nat} {C : Cw} {g : Geo} {K : World} {F : List ak}
theorem xL (hC : C.Ok) (hg : C.g = g) (h12 : g.bl ≤ 19) (he : C.sem.gV = 0) : Does Tryz.prog 73 #[ptr bd 0] K (C.A bc :: bK bd bc g :: F)
    (fun v H' => ∃ A' c', v = .tuple #[.slice A' C.sem.bQ.length c', .int .i64 0] ∧ H' = C.A bc :: bK bd bc g :: aU (.slice A' C.sem.bQ.length c') 139 5 C.sem.bQ.length (bP C.sem.bQ) :: F) := by
  have hgm : g.aD := by rw [← hg]; exact hC.aD
  have hgb := hgm
  unfold Geo.aD at hgb
  obtain ⟨gd, hgd⟩ : ∃ gd, gd = C.sem.good := ⟨_, rfl⟩
  have hgl : gd.length ≤ 19 := by
    have := ah.fF C.sem C.sem.g.bl.toNat
    have h2 : C.sem.g.bl.toNat ≤ 19 := by rw [show C.sem.g = C.g from rfl, hg]; omega
    rw [hgd]; unfold ah.good; omega
  have hscan : C.sem.bQ = gd.filterMap C.sem.iA := by rw [hgd]; rfl
  refine Does.enter Tryz.func73 rfl Tryz.ntmps73 rfl ?_
  simp only [aI, Nat.reduceAdd]
  refine WC.sr (WL.sg rfl rfl (WL.sg rfl rfl (WL.nil (WC.seq (WC.sr (WL.mv rfl rfl (WL.val (V.lQ Tryz.underlying58 (OV.p rfl) (OV.p rfl)) rfl (WL.nil ?_))))))))
  refine WC.aQ rfl (by first | rfl | (simp; done) | (simp; omega)) ?_
  refine WC.skip (WC.sr (WL.mv rfl rfl (WL.call (vs := [_]) Tryz.call74 ⟨OV.p rfl, trivial⟩ (iw) rfl ?_)))
  rintro _ H0 ⟨rfl, h0⟩
  subst H0
  refine WL.alloc (cs := [(.int .i64 0), (.int .i64 0), (.int .i64 0), (.int .i64 0), (.int .i64 0)]) Tryz.zeroValue23 rfl rfl (fun b4 => ?_)
  refine WL.store (cs := [_, _, _, _, _]) Tryz.sizeOf23 (OV.p rfl) (OV.p rfl) rfl rfl rfl (by repeat (first | exact bA.here (cs' := [_, _, _, _, _]) rfl rfl | apply bA.up)) ?_
  refine WL.nil (WC.seq (WC.sr (WL.mv rfl rfl ?_)))
  refine WL.sub (Sub.refl _) (fun w h => h.sel 3 [1, 2, 0] rfl) ?_
  refine WL.call (vs := [_, _, _]) Tryz.call88 ⟨OV.p rfl, OV.p rfl, OV.p rfl, trivial⟩ (oh hC hg 0 0 (by decide)) rfl ?_
  rintro _ _ ⟨rfl, rfl⟩
  refine WL.mv rfl rfl (WL.xt rfl rfl rfl (WL.xt rfl rfl rfl (WL.sg rfl rfl (WL.sg rfl rfl (WL.nil (WC.sr (WL.mv rfl rfl (WL.val (V.neq (OV.p rfl) (OV.p rfl)) rfl (WL.nil ?_)))))))))
  refine WC.aQ rfl ((by simp; exact he)) ?_
  refine WC.skip (WC.sr (WL.sg rfl rfl (WL.nil (WC.seq (WC.sr (WL.mv rfl rfl (WL.call (vs := [_]) Tryz.call82 ⟨OV.p rfl, trivial⟩ (xM hC hg) rfl ?_)))))))
  rintro _ _ ⟨Ag, cg, rfl, rfl⟩
  rw [← hgd]
  refine WL.val (V.len (t := 24) Tryz.runUnderlying24 (OV.p rfl)) rfl (WL.mv rfl rfl (WL.nil (WC.block ?_)))
  refine WC.loop (σ := Nat × Option Addr × Nat) (fun s => [(0, ptr bd 0), (4, ptr b4 0), (7, .slice s.2.1 (((gd.take s.1).filterMap C.sem.iA).length) s.2.2), (31, .slice Ag gd.length cg), (32, .int .i64 (gd.length : Int)), (33, .int .i64 (s.1 : Int))]) (fun s => C.A bc :: bK bd bc g :: aU (.slice s.2.1 (((gd.take s.1).filterMap C.sem.iA).length) s.2.2) 139 5 (((gd.take s.1).filterMap C.sem.iA).length) (bP ((gd.take s.1).filterMap C.sem.iA)) :: aU (.slice Ag gd.length cg) 3 1 gd.length (ints .i64 gd) :: Cells b4 23 [.int .i64 g.bl, .int .i64 g.pg, .int .i64 g.se, .int .i64 g.sb, .int .i64 g.fl] :: F) (fun s => s.1 ≤ gd.length) (fun s => gd.length - s.1) (0, none, 0) (Nat.zero_le _) (.cons rfl (.cons rfl (.cons rfl (.cons rfl (.cons rfl (.cons rfl (.nil _))))))) (fun w h => (Sat.fO h 139 5).sel 5 [2, 3, 0, 1, 4] rfl) ?_
  rintro ⟨k, Ao, co⟩ hk
  dsimp only at hk ⊢
  obtain ⟨fs, hfs⟩ : ∃ fs, fs = (gd.take k).filterMap C.sem.iA := ⟨_, rfl⟩
  have hfl : fs.length ≤ 19 := by rw [hfs]; exact Nat.le_trans (List.length_filterMap_le _ _) (by rw [List.length_take]; omega)
  rw [← hfs]
  refine WC.sr (WL.val (V.lss (OV.p rfl) (OV.p rfl)) rfl (WL.nil (WC.seq ?_)))
  refine WC.cond rfl (fun hc2 => ?_) (fun hc2 => ?_)
  ·simp only [decide_eq_true_eq, decide_eq_false_iff_not] at hc2
   have hkg : k < gd.length := by omega
   obtain ⟨b, hb⟩ : ∃ b, b = gd.getD k 0 := ⟨_, rfl⟩
   have htk : gd.take (k + 1) = gd.take k ++ [b] := by rw [List.take_add_one, List.getElem?_eq_getElem hkg, hb]; simp [List.getD, hkg]
   have hfn : (gd.take (k + 1)).filterMap C.sem.iA = fs ++ (C.sem.iA b).toList := by rw [htk, List.filterMap_append, ← hfs]; cases hsb : C.sem.iA b <;> simp [hsb]
   have hrg : ∀ {X : List ak}, Rd K (aU (.slice Ag gd.length cg) 3 1 gd.length (ints .i64 gd) :: X) (Ag.map (·.add ((k : Int).toNat * 1))) (.int .i64 b) := fun {X} => by
     have h1 : Seq K (aU (.slice Ag gd.length cg) 3 1 gd.length (ints .i64 gd) :: X) Ag gd.length 1 (ints .i64 gd) := aU.seq (by rw [aG, Nat.mul_one])
     have h2 := Seq.iY h1 (j := (k : Int)) (by omega)
     rw [hb]
     rwa [show (k : Int).toNat = k by omega] at h2 ⊢
   have Ri := ah.kY C.sem C.sem.g.bl.toNat b (by show b ∈ C.sem.good; rw [← hgd, hb]; simp only [List.getD, List.getElem?_eq_getElem hkg]; exact List.getElem_mem _)
   refine WC.skip (WC.seq (WC.block (WC.sr ?_)))
   refine WL.val (V.dS bZ (OV.p rfl) (OV.p rfl) (fun hc => by omega) (fun hc => by repeat (first | exact hrg | apply Rd.up))) rfl ?_
   refine WL.val (V.load Tryz.isAgg3 (OV.p rfl) (fun hc => by repeat (first | exact hrg | apply Rd.up))) rfl ?_
   refine WL.sg rfl rfl (WL.nil (WC.sr (WL.mv rfl rfl (WL.mv rfl rfl (WL.call (vs := [_, _, _]) Tryz.call70 ⟨OV.p rfl, OV.p rfl, OV.p rfl, trivial⟩ (qF hC hg b 0) rfl ?_)))))
   rintro _ _ ⟨Ad, cd, rfl, rfl⟩
   obtain ⟨G, hG⟩ : ∃ G, G = C.sem.aY b 0 := ⟨_, rfl⟩
   have Q7 := hC.pO b 0
   have hsb : C.sem.iA b = if G.err ≠ 0 then none else match gH g G.d with
     | none => none
     | some h => some ⟨b, h, (C.sem.jC b (1 + g.aW h.len)).1⟩ := by unfold ah.iA; rw [← hG, show C.sem.g = g from hg]
   rw [← hG] at Q7 ⊢
   refine WL.sub (Sub.refl _) (fun w h => h.sel 3 [1, 2, 0] rfl) ?_
   refine WL.mv rfl rfl (WL.xt rfl rfl rfl (WL.xt rfl rfl rfl (WL.xt rfl rfl rfl (WL.sg rfl rfl (WL.sg rfl rfl (WL.sg rfl rfl (WL.nil (WC.seq (WC.sr (WL.mv rfl rfl (WL.val (V.neq (OV.p rfl) (OV.p rfl)) rfl (WL.nil ?_))))))))))))
   refine WC.cond rfl (fun hc3 => ?_) (fun hc3 => ?_)
   ·simp only [Bool.not_eq_true', Bool.not_eq_false', decide_eq_true_eq, decide_eq_false_iff_not] at hc3
    have h3 := hc3
    rw [if_pos h3] at hsb
    rw [hsb] at hfn
    refine WC.exit (WC.region (WL.ad rfl rfl rfl ?_))
    refine WL.mv rfl rfl (WL.nil ?_)
    refine ⟨rfl, ?_⟩
    first
    | (refine ⟨(k + 1, A5, c5), hkg, (by show gd.length - (k + 1) < gd.length - k; omega), .cons rfl (.cons rfl (.cons (look_eq rfl (by dsimp only; rw [hfn, List.length_append]; rfl)) (.cons rfl (.cons rfl (.cons (look_eq rfl (by simp)) (.nil _)))))), fun w h => ?_⟩
       dsimp only
       rw [hfn, List.length_append, Option.toList_some, iX]
       exact h.sel 8 [2, 3, 0, 6, 7] rfl)
    | (refine ⟨(k + 1, Ao, co), hkg, (by show gd.length - (k + 1) < gd.length - k; omega), .cons rfl (.cons rfl (.cons (look_eq rfl (by dsimp only; rw [hfn]; simp)) (.cons rfl (.cons rfl (.cons (look_eq rfl (by simp)) (.nil _)))))), fun w h => ?_⟩
       dsimp only
       rw [hfn, Option.toList_none, List.append_nil]
       first
         | exact h.sel 6 [0, 1, 3, 4, 5] rfl
         | exact h.sel 7 [1, 2, 4, 5, 6] rfl)
   ·simp only [Bool.not_eq_true', Bool.not_eq_false', decide_eq_true_eq, decide_eq_false_iff_not] at hc3
    have h3 := hc3
    rw [if_neg (fun h => h (by omega))] at hsb
    obtain ⟨pe, hpe⟩ : ∃ pe, pe = gq g G.d := ⟨_, rfl⟩
    obtain ⟨ph, Ow⟩ : ∃ ph, ph = eP g G.d := ⟨_, rfl⟩
    have hps : (pe ≠ 0 ∧ C.sem.iA b = none) ∨ (pe = 0 ∧ ph.may g = true ∧ C.sem.iA b = some ⟨b, ph, (C.sem.jC b (1 + g.aW ph.len)).1⟩) := by
      unfold gq at hpe
      unfold eP at Ow
      cases hp : gH g G.d with
      | none =>
        rw [hp] at hsb hpe
        exact .inl ⟨by rw [hpe]; dsimp only; split <;> decide, hsb⟩
      | some h =>
        rw [hp] at hsb hpe Ow
        have RG : ph = h := Ow
        subst RG
        exact .inr ⟨hpe, (rC hgm hp).2.1, hsb⟩
    refine WC.skip (WC.sr ?_)
    refine WL.val (V.bB (vs := [_, _, _, _, _]) ⟨Tryz.isAgg23, Tryz.sizeOf23⟩ (OV.p rfl) rfl (fun _ => by repeat (first | exact bD.gets ⟨rfl, rfl, rfl, rfl, rfl, trivial⟩ | apply bD.up))) rfl ?_
    refine WL.mv rfl rfl ?_
    refine WL.call (vs := [_, _]) Tryz.call71 ⟨OV.p rfl, OV.p rfl, trivial⟩ (aL.eq (v' := .tuple #[ph.v, .int .i64 pe]) (Bo (d := G.d) hgm (by repeat (first | exact aU.seq (by rw [aH, Nat.mul_one]) | apply Seq.up)) Q7.1 (by omega)) (by rw [Ow, hpe])) rfl ?_
    rintro _ H0 ⟨rfl, h0⟩
    subst H0
    refine WL.mv rfl rfl (WL.xt rfl rfl rfl (WL.xt rfl rfl rfl ?_))
    refine WL.alloc (cs := [(.int .i64 0), (.int .i64 0), (.int .i64 0)]) Tryz.zeroValue107 rfl rfl (fun b13 => ?_)
    refine WL.store (cs := [_, _, _]) Tryz.sizeOf107 (OV.p rfl) (OV.p rfl) rfl rfl rfl (by repeat (first | exact bA.here (cs' := [_, _, _]) rfl rfl | apply bA.up)) ?_
    refine WL.sg rfl rfl (WL.nil (WC.seq (WC.sr (WL.mv rfl rfl (WL.val (V.neq (OV.p rfl) (OV.p rfl)) rfl (WL.nil ?_))))))
    refine WC.cond rfl (fun hc4 => ?_) (fun hc4 => ?_)
    ·simp only [Bool.not_eq_true', Bool.not_eq_false', decide_eq_true_eq, decide_eq_false_iff_not] at hc4
     have h4 := hc4
     rcases hps with ⟨_, hsn⟩ | ⟨h5, _⟩
     rotate_left
     · exact absurd h5 h4
     rw [hsn] at hfn
     refine WC.exit (WC.region (WL.ad rfl rfl rfl ?_))
     refine WL.mv rfl rfl (WL.nil ?_)
     refine ⟨rfl, ?_⟩
     first
     | (refine ⟨(k + 1, A5, c5), hkg, (by show gd.length - (k + 1) < gd.length - k; omega), .cons rfl (.cons rfl (.cons (look_eq rfl (by dsimp only; rw [hfn, List.length_append]; rfl)) (.cons rfl (.cons rfl (.cons (look_eq rfl (by simp)) (.nil _)))))), fun w h => ?_⟩
        dsimp only
        rw [hfn, List.length_append, Option.toList_some, iX]
        exact h.sel 8 [2, 3, 0, 6, 7] rfl)
     | (refine ⟨(k + 1, Ao, co), hkg, (by show gd.length - (k + 1) < gd.length - k; omega), .cons rfl (.cons rfl (.cons (look_eq rfl (by dsimp only; rw [hfn]; simp)) (.cons rfl (.cons rfl (.cons (look_eq rfl (by simp)) (.nil _)))))), fun w h => ?_⟩
        dsimp only
        rw [hfn, Option.toList_none, List.append_nil]
        first
          | exact h.sel 6 [0, 1, 3, 4, 5] rfl
          | exact h.sel 7 [1, 2, 4, 5, 6] rfl)
    ·simp only [Bool.not_eq_true', Bool.not_eq_false', decide_eq_true_eq, decide_eq_false_iff_not] at hc4
     have h4 := hc4
     rcases hps with ⟨h5, _⟩ | ⟨_, Es, hss⟩
     · exact absurd (by omega) h5
     rw [hss] at hfn
     have hmb := Es
     unfold Hd.may at hmb
     simp only [Bool.and_eq_true, decide_eq_true_eq] at hmb
     have hfit := hmb.1.1.1.1
     have Oh := hfit
     unfold Geo.fits at Oh
     simp only [Bool.and_eq_true, decide_eq_true_eq] at Oh
     have hcb := Geo.nT hgm
     have hrb := Geo.iQ hgm
     have hpn : 0 ≤ g.aW ph.len ∧ g.aW ph.len ≤ 1000000 := by
       unfold Geo.aW
       exact ⟨Int.ediv_nonneg (by omega) (by omega), Int.le_trans (Int.ediv_le_self _ (by omega)) (by omega)⟩
     refine WC.skip (WC.sr ?_)
     refine WL.val (V.bB (vs := [_, _, _, _, _]) ⟨Tryz.isAgg23, Tryz.sizeOf23⟩ (OV.p rfl) rfl (fun _ => by repeat (first | exact bD.gets ⟨rfl, rfl, rfl, rfl, rfl, trivial⟩ | apply bD.up))) rfl ?_
     refine WL.val (V.fieldAddr vE (OV.p rfl)) rfl (WL.ld Tryz.isAgg3 rfl rfl ?_)
     refine WL.call (vs := [_, _]) Tryz.call72 ⟨OV.p rfl, OV.p rfl, trivial⟩ (aL.eq (v' := .tuple #[.int .i64 (g.aW ph.len), .int .i64 0]) (sQ hgm (by omega)) (by rw [hfit]; rfl)) rfl ?_
     rintro _ H0 ⟨rfl, h0⟩
     subst H0
     refine WL.mv rfl rfl (WL.xt rfl rfl rfl (WL.xt rfl rfl rfl (WL.sg rfl rfl (WL.sg rfl rfl (WL.nil (WC.sr (WL.mv rfl rfl (WL.mv rfl rfl (WL.mv rfl rfl (WL.ad rfl rfl rfl ?_))))))))))
     refine WL.sub (Sub.refl _) (fun w h => h.sel 3 [1, 2, 0] rfl) ?_
     refine WL.call (vs := [_, _, _]) Tryz.call88 ⟨OV.p rfl, OV.p rfl, OV.p rfl, trivial⟩ (oh hC hg b (1 + g.aW ph.len) (by omega)) rfl ?_
     rintro _ _ ⟨rfl, rfl⟩
     refine WL.mv rfl rfl (WL.xt rfl rfl rfl (WL.xt rfl rfl rfl (WL.sg rfl rfl (WL.sg rfl rfl (WL.nil (WC.region (WL.mv rfl rfl (WL.mv rfl rfl ?_))))))))
     refine WL.val (V.bB (vs := [_, _, _]) ⟨Tryz.isAgg107, Tryz.sizeOf107⟩ (OV.p rfl) rfl (fun _ => by repeat (first | exact bD.gets ⟨rfl, rfl, rfl, trivial⟩ | apply bD.up))) rfl ?_
     refine WL.mv rfl rfl (WL.val (V.build (vs := [(0, _), (1, _), (2, _)]) ⟨OV.p rfl, OV.p rfl, OV.p rfl, trivial⟩ rfl (Dr _ _ _ _ _)) rfl ?_)
     refine WL.buildSlice (E := 139) (cs := [_, _, _, _, _]) (vs := [(0, _)]) ⟨OV.p rfl, trivial⟩ rfl (tT _ _ _ _ _) rfl (fun U5 => ?_)
     refine WL.sub (Sub.refl _) (fun w h => h.sel 6 [5, 0, 1, 2, 3, 4] rfl) ?_
     refine WL.append (m := fs.length) (q := 1) (news := Fd.cells ⟨b, ph, (C.sem.jC b (1 + g.aW ph.len)).1⟩) Tryz.underlying111 Lb (OV.p rfl) (OV.p rfl) (Seq.all rfl) (fun u hu => by simpa using List.all_eq_true.1 (wE _) u hu) (by omega) rfl rfl (fun A5 c5 EJ ny => ?_)
     refine WL.sg rfl rfl (WL.nil (WC.region (WL.ad rfl rfl rfl ?_)))
     refine WL.mv rfl rfl (WL.nil ?_)
     refine ⟨rfl, ?_⟩
     first
     | (refine ⟨(k + 1, A5, c5), hkg, (by show gd.length - (k + 1) < gd.length - k; omega), .cons rfl (.cons rfl (.cons (look_eq rfl (by dsimp only; rw [hfn, List.length_append]; rfl)) (.cons rfl (.cons rfl (.cons (look_eq rfl (by simp)) (.nil _)))))), fun w h => ?_⟩
        dsimp only
        rw [hfn, List.length_append, Option.toList_some, iX]
        exact h.sel 8 [2, 3, 0, 6, 7] rfl)
     | (refine ⟨(k + 1, Ao, co), hkg, (by show gd.length - (k + 1) < gd.length - k; omega), .cons rfl (.cons rfl (.cons (look_eq rfl (by dsimp only; rw [hfn]; simp)) (.cons rfl (.cons rfl (.cons (look_eq rfl (by simp)) (.nil _)))))), fun w h => ?_⟩
        dsimp only
        rw [hfn, Option.toList_none, List.append_nil]
        first
          | exact h.sel 6 [0, 1, 3, 4, 5] rfl
          | exact h.sel 7 [1, 2, 4, 5, 6] rfl)
  ·simp only [decide_eq_true_eq, decide_eq_false_iff_not] at hc2
   refine WC.exit (WC.sr (WL.mv rfl rfl (WL.sg rfl rfl (WL.sg rfl rfl (WL.nil (WC.ret ?_))))))
   obtain rfl : k = gd.length := by omega
   have hend : fs = C.sem.bQ := by rw [hfs, List.take_of_length_le (Nat.le_refl _), hscan]
   rw [← hend]
   exact au.ret (H' := C.A bc :: bK bd bc g :: aU (.slice Ao fs.length co) 139 5 fs.length (bP fs) :: F) (aO.fD rfl rfl rfl) (fun w h => h.sel 5 [0, 1, 2] rfl) ⟨Ao, co, rfl, rfl⟩
end
def qG (c : Fd → Fd → Int) (fs : List Fd) : Nat → Fd
  | 0 => fs.getD 0 fd0
  | i + 1 => if 0 < c (fs.getD (i + 1) fd0) (qG c fs i) then fs.getD (i + 1) fd0 else qG c fs i
def lastB (l : List Fd) : Int := match l.getLast? with | none => -1 | some x => x.block
def fK (aj : Nat) (fs : List Fd) : List Int := (gF aj fs).map fun l => lastB (dz (ltOf lS) l)
def kg (fs : List Fd) : Int := if fs.length = 0 then 1 else (qG yt fs (fs.length - 1)).hd.num + 1
def kZ (aj : Nat) (fs : List Fd) : List (List Int) := (gF aj fs).map fun l => (dz (ltOf Lx) (dz (ltOf lS) l).dropLast).map Fd.block
theorem jm (aj : Nat) (fs : List Fd) : (fK aj fs).length = aj := by unfold fK; rw [List.length_map, vH]
theorem mV (aj : Nat) (fs : List Fd) : (kZ aj fs).length = aj := by unfold kZ; rw [List.length_map, vH]
structure aX where
  A : Option Addr
  c : Nat
  l : List Int
abbrev aX.v (x : aX) : Value := .slice x.A x.l.length x.c
def aX.row (x : aX) : ak := aU (.slice x.A x.l.length x.c) 3 1 x.l.length (ints .i64 x.l)
def Og : aX := ⟨none, 0, []⟩
theorem Rd.xK {K : World} {l H : List ak} {A : ak} {p : Option Addr} {v : Value} (hA : A ∈ l) (h : Rd K [A] p v) : Rd K (bG l :: H) p v := fun w hw => h w (hw.RP hA)
theorem bq.rd {K : World} {r : bq} {i j : Nat} {x : Fd} {v : Value} (hi : r.l[i]? = some x) (hj : x.cells[j]? = some v) : Rd K [r.row] (r.A.map (·.add (i * 5 + j))) v := by
  have h : Seq K [r.row] r.A r.l.length 5 (bP r.l) := aU.seq (dN _)
  exact vM h hi hj
section
variable {K : World} {F : List ak}
theorem Jw {f : Nat} {c : Fd → Fd → Int} (hf : Bc f c) {A : Option Addr} {n cap : Nat} {fs : List Fd} (hs : Seq K F A n 5 (bP fs)) (hn : fs.length = n) (h0 : 0 < n) (hn2 : n ≤ 1000000) :
    aL Tryz.prog 102 #[.slice A n cap, .func (.func f) #[] #[]] K F (qG c fs (n - 1)).v := by
  have hel : ∀ {X : List ak} (k : Nat), k < n → (∀ w, Sat K w X → Sat K w F) → ∀ (j : Nat) v, (fs.getD k fd0).cells[j]? = some v → Rd K X (A.map (·.add (k * 5 + j))) v := fun k hk hX j v hj => by
    have hx : fs[k]? = some (fs.getD k fd0) := by simp [List.getD, show k < fs.length by omega]
    exact vM (hs.sat hX) hx hj
  have hup : ∀ {X : ak} {Y : List ak}, (∀ w, Sat K w Y → Sat K w F) → ∀ w, Sat K w (X :: Y) → Sat K w F := fun h w hw => h w hw.tail
  refine Does.enter Tryz.func102 rfl Tryz.ntmps102 rfl ?_
  simp only [aI, Nat.reduceAdd]
  refine WC.sr ?_
  refine WL.alloc (cs := [(.int .i64 0), (.int .i64 0), (.int .i64 0), (.int .i64 0), (.bool false)]) Tryz.zeroValue139 rfl rfl (fun b4 => ?_)
  refine WL.nil (WC.seq (WC.sr (WL.mv rfl rfl (WL.val (V.len (t := 111) Tryz.runUnderlying111 (OV.p rfl)) rfl (WL.val (V.lss (OV.p rfl) (OV.p rfl)) rfl (WL.nil ?_))))))
  refine WC.aQ rfl ((decide_eq_false (by omega))) ?_
  refine WC.skip (WC.sr (WL.mv rfl rfl ?_))
  refine WL.val (V.aC (v' := sp A (0 * 5)) (V.dS lM (OV.p rfl) (OV.p rfl) (fun hc => by omega) (fun hc => by rw [show ((0 : Int)).toNat = 0 from rfl]; exact hel 0 h0 (by repeat (first | exact (fun w h => h) | apply hup)) 0 _ rfl)) (fun _ => rfl)) rfl ?_
  refine WL.val (V.CQ (vs := (fs.getD 0 fd0).cells) ⟨Tryz.isAgg139, Tryz.sizeOf139⟩ (OV.p rfl) rfl (by decide) (fun _ j v hj => by exact hel 0 h0 (by repeat (first | exact (fun w h => h) | apply hup)) j v hj)) rfl ?_
  refine WL.alloc (cs := [(.int .i64 0), (.int .i64 0), (.int .i64 0), (.int .i64 0), (.bool false)]) Tryz.zeroValue139 rfl rfl (fun b5 => ?_)
  refine WL.store (cs := [_, _, _, _, _]) Tryz.sizeOf139 (OV.p rfl) (OV.p rfl) rfl rfl rfl (by repeat (first | exact bA.here (cs' := [_, _, _, _, _]) rfl rfl | apply bA.up)) ?_
  refine WL.nil (WC.seq (WC.sr (WL.sg rfl rfl (WL.nil (WC.block ?_)))))
  refine WC.loop (σ := Nat) (fun i => [(0, .slice A n cap), (1, .func (.func f) #[] #[]), (4, ptr b4 0), (5, ptr b5 0), (6, .int .i64 ((i + 1 : Nat) : Int))]) (fun i => Cells b5 139 (qG c fs i).cells :: Cells b4 139 [.int .i64 0, .int .i64 0, .int .i64 0, .int .i64 0, .bool false] :: F) (fun i => i < n) (fun i => n - i) 0 h0 (.cons rfl (.cons rfl (.cons rfl (.cons rfl (.cons rfl (.nil _)))))) (fun w h => h) ?_
  rintro i hi
  obtain ⟨m, hm⟩ : ∃ m, m = qG c fs i := ⟨_, rfl⟩
  rw [← hm]
  refine WC.seq (WC.sr (WL.mv rfl rfl (WL.mv rfl rfl (WL.val (V.len (t := 111) Tryz.runUnderlying111 (OV.p rfl)) rfl (WL.val (V.lss (OV.p rfl) (OV.p rfl)) rfl (WL.nil ?_))))))
  refine WC.cond rfl (fun hc1 => ?_) (fun hc1 => ?_)
  ·simp only [decide_eq_true_eq, decide_eq_false_iff_not] at hc1
   have hi1 : i + 1 < n := by omega
   obtain ⟨x, hx⟩ : ∃ x, x = fs.getD (i + 1) fd0 := ⟨_, rfl⟩
   have hti : (((i + 1 : Nat) : Int)).toNat = i + 1 := by omega
   have hxe : ∀ {X : List ak}, (∀ w, Sat K w X → Sat K w F) → ∀ (j : Nat) v, x.cells[j]? = some v → Rd K X (A.map (·.add ((i + 1) * 5 + j))) v := fun hX j v hj => hel (i + 1) hi1 hX j v (by rw [← hx]; exact hj)
   have hst : qG c fs (i + 1) = if 0 < c x m then x else m := by rw [qG, ← hx, ← hm]
   refine WC.skip (WC.seq (WC.block (WC.seq ?_)))
   refine WC.eG (by kernel_rfl) (by kernel_rfl) ?_
   refine WQ.val (V.move (OV.p rfl)) rfl (WQ.val (V.move (OV.p rfl)) rfl (WQ.val (V.move (OV.p rfl)) rfl ?_))
   refine WQ.val (V.aC (v' := sp A ((i + 1) * 5)) (V.dS lM (OV.p rfl) (OV.p rfl) (fun hc => by omega) (fun hc => by rw [hti]; exact hxe (by repeat (first | exact (fun w h => h) | apply hup)) 0 _ rfl)) (fun _ => by rw [hti])) rfl ?_
   refine WQ.val (V.CQ (vs := x.cells) ⟨Tryz.isAgg139, Tryz.sizeOf139⟩ (OV.p rfl) rfl (by decide) (fun _ j v hj => by exact hxe (by repeat (first | exact (fun w h => h) | apply hup)) j v hj)) rfl ?_
   refine WQ.val (V.bB (vs := [_, _, _, _, _]) ⟨Tryz.isAgg139, Tryz.sizeOf139⟩ (OV.p rfl) rfl (fun _ => by repeat (first | exact bD.gets ⟨rfl, rfl, rfl, rfl, rfl, trivial⟩ | apply bD.up))) rfl ?_
   refine WQ.mg (first := []) (vs := [_, _]) (captured := []) hf.1 (OV.p rfl) ⟨OV.p rfl, OV.p rfl, trivial⟩ (hf.2 _ _ x m) rfl (WQ.val (V.gtr (OV.p rfl) (OV.p rfl)) rfl (WQ.nil ?_))
   refine WC.cond rfl (fun hc2 => ?_) (fun hc2 => ?_)
   ·simp only [decide_eq_true_eq, decide_eq_false_iff_not] at hc2
    have h2 := hc2
    rw [if_pos h2] at hst
    refine WC.region (WL.mv rfl rfl (WL.mv rfl rfl ?_))
    refine WL.val (V.aC (v' := sp A ((i + 1) * 5)) (V.dS lM (OV.p rfl) (OV.p rfl) (fun hc => by omega) (fun hc => by rw [hti]; exact hxe (by repeat (first | exact (fun w h => h) | apply hup)) 0 _ rfl)) (fun _ => by rw [hti])) rfl ?_
    refine WL.val (V.CQ (vs := x.cells) ⟨Tryz.isAgg139, Tryz.sizeOf139⟩ (OV.p rfl) rfl (by decide) (fun _ j v hj => by exact hxe (by repeat (first | exact (fun w h => h) | apply hup)) j v hj)) rfl ?_
    refine WL.store (cs := x.cells) Tryz.sizeOf139 (OV.p rfl) (OV.p rfl) rfl rfl rfl (by repeat (first | exact bA.here (cs' := [_, _, _, _, _]) rfl rfl | apply bA.up)) ?_
    refine WL.nil (WC.region (WL.mv rfl rfl (WL.ad rfl rfl rfl ?_)))
    refine WL.sg rfl rfl (WL.nil ?_)
    refine ⟨rfl, ?_⟩
    refine ⟨i + 1, hi1, (by show n - (i + 1) < n - i; omega), .cons rfl (.cons rfl (.cons rfl (.cons rfl (.cons (look_eq rfl (by simp)) (.nil _))))), fun w h => ?_⟩
    dsimp only
    rw [hst]
    exact h
   ·simp only [decide_eq_true_eq, decide_eq_false_iff_not] at hc2
    have h2 := hc2
    rw [if_neg (by omega)] at hst
    refine WC.skip (WC.region (WL.mv rfl rfl (WL.ad rfl rfl rfl ?_)))
    refine WL.sg rfl rfl (WL.nil ?_)
    refine ⟨rfl, ?_⟩
    refine ⟨i + 1, hi1, (by show n - (i + 1) < n - i; omega), .cons rfl (.cons rfl (.cons rfl (.cons rfl (.cons (look_eq rfl (by simp)) (.nil _))))), fun w h => ?_⟩
    dsimp only
    rw [hst]
    exact h
  ·simp only [decide_eq_true_eq, decide_eq_false_iff_not] at hc1
   refine WC.exit (WC.sr ?_)
   refine WL.val (V.bB (vs := [_, _, _, _, _]) ⟨Tryz.isAgg139, Tryz.sizeOf139⟩ (OV.p rfl) rfl (fun _ => by repeat (first | exact bD.gets ⟨rfl, rfl, rfl, rfl, rfl, trivial⟩ | apply bD.up))) rfl ?_
   refine WL.store (cs := [_, _, _, _, _]) Tryz.sizeOf139 (OV.p rfl) (OV.p rfl) rfl rfl rfl (by repeat (first | exact bA.here rfl rfl | apply bA.up)) ?_
   refine WL.nil (WC.ret ?_)
   obtain rfl : i = n - 1 := by omega
   rw [← hm]
   exact au.normal (H' := F) (aO.one rfl (R1.xZ (vs := [_, _, _, _, _]) rfl ⟨Tryz.isAgg139, Tryz.sizeOf139⟩ rfl (by repeat (first | exact bD.gets ⟨rfl, rfl, rfl, rfl, rfl, trivial⟩ | apply bD.up)))) (fun w h => h.drop 2) ⟨rfl, rfl⟩
theorem xH {aj n cap : Nat} {A : Option Addr} {fs : List Fd} (hl : 1 ≤ aj ∧ aj ≤ 64) (hs : Seq K F A n 5 (bP fs)) (hn : fs.length = n) (h20 : n < 20) (Ik : ∀ x ∈ fs, x.hd.num ≤ 1000000001 ∧ 0 ≤ x.hd.num) :
    Does Tryz.prog 75 #[.int .i64 (aj : Int), .slice A n cap] K F
      (fun v H' => ∃ A' c', v = .tuple #[.slice A' aj c', .int .i64 (kg fs), .int .i64 0] ∧ H' = aU (.slice A' aj c') 3 1 aj (ints .i64 (fK aj fs)) :: F) := by
  obtain ⟨pk, hpk⟩ : ∃ pk, pk = fK aj fs := ⟨_, rfl⟩
  have hpl : pk.length = aj := by rw [hpk]; exact jm _ _
  refine Does.enter Tryz.func75 rfl Tryz.ntmps75 rfl ?_
  simp only [aI, Nat.reduceAdd]
  refine WC.sr (WL.sg rfl rfl (WL.sg rfl rfl (WL.sg rfl rfl (WL.nil (WC.sr (WL.mv rfl rfl (WL.mv rfl rfl (WL.call (vs := [_, _, _]) Tryz.call100 ⟨OV.p rfl, OV.p rfl, OV.p rfl, trivial⟩ (vG xE hl hs hn h20) rfl ?_))))))))
  rintro _ _ ⟨bo, rs, hrl, hrs, rfl, rfl⟩
  have hpr : ∀ j r, rs[j]? = some r → pk.getD j 0 = lastB r.l ∧ j < aj := fun j r hj => by
    have h1 : (rs.map bq.l)[j]? = some r.l := by rw [List.getElem?_map, hj]; rfl
    have hjl : j < aj := by rw [← hrl]; exact (List.getElem?_eq_some_iff.1 hj).1
    refine ⟨?_, hjl⟩
    rw [hrs] at h1
    simp only [List.getElem?_map, gF, List.getElem?_range hjl, Option.map_some] at h1
    injection h1 with h1
    rw [hpk]
    unfold fK
    simp only [List.getD, List.getElem?_map, gF, List.getElem?_range hjl, Option.map_some, Option.getD_some]
    rw [h1]
  refine WL.mv rfl rfl (WL.xt rfl rfl rfl (WL.xt rfl rfl rfl (WL.sg rfl rfl (WL.sg rfl rfl (WL.nil (WC.seq (WC.sr (WL.mv rfl rfl (WL.val (V.neq (OV.p rfl) (OV.p rfl)) rfl (WL.nil ?_))))))))))
  refine WC.aQ rfl (by first | rfl | (simp; done) | (simp; omega)) ?_
  refine WC.skip (WC.sr (WL.sg rfl rfl (WL.nil (WC.seq (WC.sr (WL.mv rfl rfl (WL.val (V.len (t := 140) Tryz.runUnderlying140 (OV.p rfl)) rfl (WL.mv rfl rfl (WL.nil (WC.block ?_))))))))))
  refine WC.loop (σ := Nat × Option Addr × Nat) (fun s => [(1, .slice A n cap), (9, .slice s.2.1 s.1 s.2.2), (22, .slice (some ⟨bo, 0, none⟩) aj aj), (23, .int .i64 (aj : Int)), (24, .int .i64 (s.1 : Int))]) (fun s => aU (.slice s.2.1 s.1 s.2.2) 3 1 s.1 (ints .i64 (pk.take s.1)) :: Cells bo 111 (rs.map bq.v) :: bG (rs.map bq.row) :: F) (fun s => s.1 ≤ aj) (fun s => aj - s.1) (0, none, 0) (Nat.zero_le _) (.cons rfl (.cons rfl (.cons rfl (.cons rfl (.cons rfl (.nil _)))))) (fun w h => Sat.fO h _ _) ?_
  rintro ⟨j, Ao, co⟩ hj
  dsimp only at hj ⊢
  refine WC.sr (WL.val (V.lss (OV.p rfl) (OV.p rfl)) rfl (WL.nil (WC.seq ?_)))
  refine WC.cond rfl (fun hc1 => ?_) (fun hc1 => ?_)
  ·simp only [decide_eq_true_eq, decide_eq_false_iff_not] at hc1
   have hjl : j < aj := by omega
   obtain ⟨r, hr⟩ : ∃ r, rs[j]? = some r := ⟨_, List.getElem?_eq_getElem (by omega)⟩
   have MO : (rs.map bq.v)[0 + ((j : Nat) : Int).toNat * 1]? = some r.v := by rw [show 0 + ((j : Nat) : Int).toNat * 1 = j by omega, List.getElem?_map, hr]; rfl
   have hmem : r.row ∈ rs.map bq.row := List.mem_map.2 ⟨r, List.mem_of_getElem? hr, rfl⟩
   have htk : pk.take (j + 1) = pk.take j ++ [lastB r.l] := by rw [List.take_add_one, List.getElem?_eq_getElem (by omega), ← (hpr j r hr).1]; simp [List.getD, show j < pk.length by omega]
   refine WC.skip (WC.seq (WC.block (WC.sr ?_)))
   refine WL.val (V.bR Ci (OV.p rfl) (OV.p rfl) (fun hc => by omega)) rfl ?_
   refine WL.val (V.load Tryz.isAgg111 (OV.p rfl) (fun _ => by repeat (first | exact Rd.here MO | apply Rd.up))) rfl ?_
   refine WL.sg rfl rfl (WL.nil (WC.sr (WL.mv rfl rfl (WL.val (V.len (t := 111) Tryz.runUnderlying111 (OV.p rfl)) rfl (WL.val (V.eql (OV.p rfl) (OV.p rfl)) rfl (WL.nil ?_))))))
   refine WC.cond rfl (fun hc2 => ?_) (fun hc2 => ?_)
   ·simp only [decide_eq_true_eq, decide_eq_false_iff_not] at hc2
    have h2 := hc2
    have hlast : lastB r.l = -1 := by
      have : r.l = [] := List.eq_nil_of_length_eq_zero (by omega)
      unfold lastB; rw [this]; rfl
    refine WC.region (WL.mv rfl rfl ?_)
    refine WL.buildSlice (E := 3) (cs := [_]) (vs := [(0, _)]) ⟨OV.p rfl, trivial⟩ rfl (bT _) rfl (fun b32 => ?_)
    refine WL.sub (Sub.refl _) (fun w h => h.p1) ?_
    refine WL.append (m := j) (q := 1) (news := [.int .i64 (-1)]) Tryz.underlying24 el3 (OV.p rfl) (OV.p rfl) (Seq.all rfl) (by intro u hu; rw [List.mem_singleton.1 hu]; rfl) (by omega) rfl rfl (fun A5 c5 EJ ny => ?_)
    refine WL.sg rfl rfl (WL.nil (WC.region (WL.ad rfl rfl rfl ?_)))
    refine WL.mv rfl rfl (WL.nil ?_)
    refine ⟨rfl, ?_⟩
    refine ⟨(j + 1, A5, c5), hjl, (by show aj - (j + 1) < aj - j; omega), .cons rfl (.cons rfl (.cons rfl (.cons rfl (.cons (look_eq rfl (by simp)) (.nil _))))), fun w h => ?_⟩
    dsimp only
    rw [htk, hlast, bf]
    exact h.sel 2 [0] rfl
   ·simp only [decide_eq_true_eq, decide_eq_false_iff_not] at hc2
    have h2 := hc2
    obtain ⟨x, hx⟩ : ∃ x, r.l[r.l.length - 1]? = some x := ⟨_, List.getElem?_eq_getElem (by omega)⟩
    have hlast : lastB r.l = x.block := by unfold lastB; rw [List.getLast?_eq_getElem?, hx]
    have hrx : ∀ (i : Nat) v, x.cells[i]? = some v → ∀ {X : List ak}, Rd K (bG (rs.map bq.row) :: X) (r.A.map (·.add ((r.l.length - 1) * 5 + i))) v := fun i v hi X => Rd.xK hmem (bq.rd hx hi)
    have SQ : ((r.l.length : Int) - 1).toNat = r.l.length - 1 := by omega
    have Sc : r.l.length ≤ 1000000 := by
      have h3 : (rs.map bq.l)[j]? = some r.l := by rw [List.getElem?_map, hr]; rfl
      rw [hrs] at h3
      simp only [gF, List.getElem?_map, List.getElem?_range hjl, Option.map_some] at h3
      injection h3 with h3
      rw [← h3, fA]
      exact Nat.le_trans (List.length_filter_le _ _) (by omega)
    refine WC.region (WL.mv rfl rfl (WL.mv rfl rfl (WL.mv rfl rfl (WL.val (V.len (t := 111) Tryz.runUnderlying111 (OV.p rfl)) rfl (WL.sb rfl rfl rfl ?_)))))
    refine WL.val (V.aC (v' := sp r.A ((r.l.length - 1) * 5)) (V.dS lM (OV.p rfl) (OV.p rfl) (fun hc => by omega) (fun hc => by rw [SQ]; repeat (first | exact hrx 0 _ rfl | apply Rd.up))) (fun _ => by rw [SQ])) rfl ?_
    refine WL.val (V.OL (k' := (r.l.length - 1) * 5) q9 (OV.p rfl) (fun _ => by repeat (first | exact hrx 0 _ rfl | apply Rd.up))) rfl ?_
    refine WL.val (V.load Tryz.isAgg3 (OV.p rfl) (fun _ => by repeat (first | exact hrx 0 _ rfl | apply Rd.up))) rfl ?_
    refine WL.buildSlice (E := 3) (cs := [_]) (vs := [(0, _)]) ⟨OV.p rfl, trivial⟩ rfl (bT _) rfl (fun Vs => ?_)
    refine WL.sub (Sub.refl _) (fun w h => h.p1) ?_
    refine WL.append (m := j) (q := 1) (news := [.int .i64 x.block]) Tryz.underlying24 el3 (OV.p rfl) (OV.p rfl) (Seq.all rfl) (by intro u hu; rw [List.mem_singleton.1 hu]; rfl) (by omega) rfl rfl (fun A5 c5 EJ ny => ?_)
    refine WL.sg rfl rfl (WL.nil (WC.region (WL.ad rfl rfl rfl ?_)))
    refine WL.mv rfl rfl (WL.nil ?_)
    refine ⟨rfl, ?_⟩
    refine ⟨(j + 1, A5, c5), hjl, (by show aj - (j + 1) < aj - j; omega), .cons rfl (.cons rfl (.cons rfl (.cons rfl (.cons (look_eq rfl (by simp)) (.nil _))))), fun w h => ?_⟩
    dsimp only
    rw [htk, hlast, bf]
    exact h.sel 2 [0] rfl
  ·simp only [decide_eq_true_eq, decide_eq_false_iff_not] at hc1
   refine WC.exit (WC.seq (WC.seq ?_))
   obtain rfl : j = aj := by omega
   rw [List.take_of_length_le (by omega), hpk]
   refine WC.sub (Sub.refl _) (fun w h => h.sel 3 [0] rfl) ?_
   refine WC.region (WL.mv rfl rfl (WL.val (V.len (t := 111) Tryz.runUnderlying111 (OV.p rfl)) rfl (WL.val (V.eql (OV.p rfl) (OV.p rfl)) rfl (WL.nil ?_))))
   refine WC.cond rfl (fun hc3 => ?_) (fun hc3 => ?_)
   ·simp only [decide_eq_true_eq, decide_eq_false_iff_not] at hc3
    have h3 := hc3
    have hnx : kg fs = 1 := by unfold kg; rw [if_pos (by omega)]
    refine WC.sr (WL.mv rfl rfl (WL.sg rfl rfl (WL.sg rfl rfl (WL.sg rfl rfl (WL.nil (WC.ret ?_))))))
    rw [hnx]
    exact au.ret (H' := aU (.slice Ao j co) 3 1 j (ints .i64 (fK j fs)) :: F) (aO.r9 rfl rfl rfl rfl) (fun w h => h) ⟨Ao, co, rfl, rfl⟩
   ·simp only [decide_eq_true_eq, decide_eq_false_iff_not] at hc3
    have h3 := hc3
    have hnx : kg fs = (qG yt fs (n - 1)).hd.num + 1 := by unfold kg; rw [if_neg (by omega), hn]
    have hmem : ∀ k, k < n → qG yt fs k ∈ fs := fun k => by
      induction k with
      | zero => intro hk; show fs.getD 0 fd0 ∈ fs; simp only [List.getD, List.getElem?_eq_getElem (show 0 < fs.length by omega)]; exact List.getElem_mem _
      | succ k ih =>
        intro hk
        rw [qG]
        split
        · simp only [List.getD, List.getElem?_eq_getElem (show k + 1 < fs.length by omega)]; exact List.getElem_mem _
        · exact ih (by omega)
    have hmb := Ik _ (hmem (n - 1) (by omega))
    refine WC.skip (WC.sr (WL.mv rfl rfl ?_))
    refine WL.call (vs := [_, _]) Tryz.call102 ⟨OV.p rfl, OV.p rfl, trivial⟩ (Jw KI (by repeat (first | exact hs | apply Seq.up)) hn (by omega) (by omega)) rfl ?_
    rintro _ H0 ⟨rfl, h0⟩
    subst H0
    refine WL.alloc (cs := [(.int .i64 0), (.int .i64 0), (.int .i64 0), (.int .i64 0), (.bool false)]) Tryz.zeroValue139 rfl rfl (fun b12 => ?_)
    refine WL.store (cs := [_, _, _, _, _]) Tryz.sizeOf139 (OV.p rfl) (OV.p rfl) rfl rfl rfl (by repeat (first | exact bA.here (cs' := [_, _, _, _, _]) rfl rfl | apply bA.up)) ?_
    refine WL.nil (WC.seq ?_)
    refine WC.eG (by kernel_rfl) (by kernel_rfl) ?_
    refine WQ.val (V.move (OV.p rfl)) rfl (WQ.val (V.fieldAddr mI (OV.p rfl)) rfl (WQ.val (V.fieldAddr jK (OV.p rfl)) rfl ?_))
    refine WQ.val (V.load Tryz.isAgg3 (OV.p rfl) (fun _ => by repeat (first | exact Rd.here rfl | apply Rd.up))) rfl ?_
    refine WQ.val (V.lI (OV.p rfl) (OV.p rfl) (fun hc => by first | omega | (simp at hc; omega))) rfl ?_
    refine WQ.val (V.assign (OV.p rfl)) rfl (WQ.val (V.assign (OV.p rfl)) rfl (WQ.val (V.assign (OV.p rfl)) rfl (WQ.nil (WC.ret ?_))))
    rw [hnx]
    exact au.ret (H' := aU (.slice Ao j co) 3 1 j (ints .i64 (fK j fs)) :: F) (aO.r9 rfl rfl rfl rfl) (fun w h => h.drop 1) ⟨Ao, co, rfl, rfl⟩
end
end Go.Proofs.YtcmojpiokjhmhaaGreat
