import Derived.Test.YtohkefolnmcjnaaGreatP20
namespace Go.Proofs.YtohkefolnmcjnaaGreat
open Go.Sl Go.RowKit
set_option linter.unusedVariables false
set_option linter.unusedSimpArgs false
set_option maxRecDepth 20000
namespace Chip
def scanB (S : Chip) (b : Int) : Option Fd :=
  if (S.dRead b 0).err ≠ 0 then none
  else match parseF S.g (S.dRead b 0).d with
    | none => none
    | some h => some ⟨b, h, (S.dWhole b (1 + S.g.pagesOf h.len)).1⟩
def scanF (S : Chip) : List Fd := S.good.filterMap S.scanB
def scanE (S : Chip) : Int := (S.dWhole 0 0).2
theorem goodTo_mem (S : Chip) : ∀ k x, x ∈ S.goodTo k → 0 ≤ x ∧ x < (k : Int) ∧ S.up = true ∧ S.bad x = false
  | 0, x, h => by simp [goodTo] at h
  | k + 1, x, h => by
    rw [goodTo] at h
    split at h
    · rename_i hg
      rcases List.mem_append.1 h with h | h
      · have := goodTo_mem S k x h
        exact ⟨this.1, by omega, this.2.2⟩
      · have := List.mem_singleton.1 h
        subst this
        simp only [Bool.and_eq_true, Bool.not_eq_true'] at hg
        exact ⟨by omega, by omega, hg⟩
    · have := goodTo_mem S k x h
      exact ⟨this.1, by omega, this.2.2⟩
end Chip
theorem readTo_small : ∀ (l : List (Option (LL × Nat))) (d : List Nat) (n : Nat), Small 256 d → (∀ o ∈ l, ∀ p k, o = some (p, k) → Small 256 p.1) → Small 256 (readTo l d n).d
  | [], d, n, h, _ => h
  | none :: l, d, n, h, _ => fun x hx => by simp [readTo] at hx
  | some (p, k) :: l, d, n, h, hl => by
    rw [readTo]
    exact readTo_small l _ _ (h.append (hl _ (.head _) p k rfl)) (fun o ho => hl o (.tail _ ho))
theorem decTo_small1 {t : Nat} {c : List Nat} {L : Nat} {p : LL} (h : Small 256 p.1) : ∀ k, Small 256 (decTo t c L p k).1.1
  | 0 => h
  | k + 1 => by
    have ih := decTo_small1 (c := c) (L := L) (t := t) h k
    rw [decTo]
    split
    · show Small 256 (flip2 t _ k).1
      unfold flip2
      split
      · exact flipB_small ih _
      · exact ih
    · exact ih
theorem decF_small {t : Nat} {d m : List Nat} (h : Small 256 d) {p : LL} {k : Nat} (hd : decF t d m = some (p, k)) : Small 256 p.1 := by
  unfold decF at hd
  split at hd
  · cases hd
  · split at hd
    · cases hd
    · split at hd
      · cases hd
      · injection hd with hd
        have := decTo_small1 (t := t) (c := locC (sums2 t (d, maskM t m))) (L := locL (sums2 t (d, maskM t m))) (p := (d, maskM t m)) h (13 * t + 8 * d.length)
        rw [hd] at this
        exact this
theorem readF_small {t S B : Nat} {raw : List Nat} (h : Small 256 raw) : Small 256 (readF t S B raw).d := by
  unfold readF
  split
  · intro x hx; simp at hx
  · refine readTo_small _ _ _ (fun x hx => by simp at hx) (fun o ho p k hp => ?_)
    obtain ⟨j, _, rfl⟩ := List.mem_map.1 ho
    unfold uSec at hp
    exact decF_small (Small.take (Small.drop h)) hp
theorem readF_len {t S B : Nat} {raw : List Nat} (ht : t ≤ 8) (hS : S ≤ 8) (hB : B ≤ 512) : (readF t S B raw).d.length ≤ S * B := by
  unfold readF
  split
  · exact Nat.zero_le _
  · have key : ∀ (l : List (Option (LL × Nat))) (d : List Nat) (n : Nat), (∀ o ∈ l, ∀ p k, o = some (p, k) → p.1.length ≤ B) → (readTo l d n).d.length ≤ d.length + l.length * B := fun l => by
      induction l with
      | nil => intro d n _; show d.length ≤ _; omega
      | cons o l ih =>
        intro d n h
        cases o with
        | none => exact Nat.zero_le _
        | some r =>
          obtain ⟨p, k⟩ := r
          rw [readTo]
          have h1 := ih (d ++ p.1) (max n k) (fun o ho => h o (.tail _ ho))
          have h2 := h _ (.head _) p k rfl
          rw [List.length_append] at h1
          rw [List.length_cons, Nat.succ_mul]
          omega
    have := key ((List.range S).map (uSec t B (B + moreLen t) raw)) [] 0 (fun o ho p k hp => by
      obtain ⟨j, _, rfl⟩ := List.mem_map.1 ho
      unfold uSec at hp
      have h1 : (secD B (B + moreLen t) raw j).length ≤ B := by unfold secD; rw [List.length_take]; omega
      have h2 := (decTo_n t (secD B (B + moreLen t) raw j) (secM B (B + moreLen t) raw j) (by omega) ht).1
      rw [hp] at h2
      exact Nat.le_trans h2 h1)
    rw [List.length_map, List.length_range] at this
    simpa using this
theorem Cw.Ok.dRead_facts {C : Cw} (hC : C.Ok) (b p : Int) : Small 256 (C.sem.dRead b p).d ∧ (C.sem.dRead b p).d.length ≤ 4096 := by
  have hg := hC.mays
  unfold Geo.mays at hg
  unfold Chip.dRead
  split
  · exact ⟨fun x hx => by simp at hx, Nat.zero_le _⟩
  · refine ⟨readF_small (hC.rawN_facts b p).2.1, ?_⟩
    have h1 := readF_len (t := C.sem.g.fl.toNat) (S := C.sem.g.se.toNat) (B := C.sem.g.sb.toNat) (raw := C.sem.rawN b p) (by show C.g.fl.toNat ≤ 8; omega) (by show C.g.se.toNat ≤ 8; omega) (by show C.g.sb.toNat ≤ 512; omega)
    have h2 : C.sem.g.se.toNat * C.sem.g.sb.toNat ≤ 8 * 512 := Nat.mul_le_mul (by show C.g.se.toNat ≤ 8; omega) (by show C.g.sb.toNat ≤ 512; omega)
    exact Nat.le_trans h1 h2
section
variable {bc bd : Nat} {C : Cw} {g : Geo} {K : World} {F : List Assn}
theorem attach_Scan (hC : C.Ok) (hg : C.g = g) (h12 : g.bl ≤ 19) (he : C.sem.scanE = 0) : Does Tryz.prog 92 #[ptr bd 0] K (C.A bc :: DvA bd bc g :: F)
    (fun v H' => ∃ A' c', v = .tuple #[.slice A' C.sem.scanF.length c', .int .i64 0] ∧ H' = C.A bc :: DvA bd bc g :: SlA (.slice A' C.sem.scanF.length c') 167 5 C.sem.scanF.length (flatF C.sem.scanF) :: F) := by
  have hgm : g.mays := by rw [← hg]; exact hC.mays
  have hgb := hgm
  unfold Geo.mays at hgb
  obtain ⟨gd, hgd⟩ : ∃ gd, gd = C.sem.good := ⟨_, rfl⟩
  have hgl : gd.length ≤ 19 := by
    have := Chip.goodTo_length C.sem C.sem.g.bl.toNat
    have h2 : C.sem.g.bl.toNat ≤ 19 := by rw [show C.sem.g = C.g from rfl, hg]; omega
    rw [hgd]; unfold Chip.good; omega
  have hscan : C.sem.scanF = gd.filterMap C.sem.scanB := by rw [hgd]; rfl
  refine Does.enter Tryz.func92 rfl Tryz.ntmps92 rfl ?_
  simp only [env0, Nat.reduceAdd]
  refine WC.sr ?_
  refine WL.sg rfl rfl ?_
  refine WL.sg rfl rfl ?_
  refine WL.nil ?_
  refine WC.seq ?_
  refine WC.sr ?_
  refine WL.mv rfl rfl ?_
  refine WL.val (V.eqlP Tryz.underlying31 (OV.p rfl) (OV.p rfl)) rfl ?_
  refine WL.nil ?_
  refine WC.condF' rfl (by first | rfl | (simp; done) | (simp; omega)) ?_
  refine WC.skip ?_
  refine WC.sr ?_
  refine WL.mv rfl rfl ?_
  refine WL.call (vs := [_]) Tryz.call20 ⟨OV.p rfl, trivial⟩ (drive_Geometry) rfl ?_
  rintro _ H0 ⟨rfl, h0⟩
  subst H0
  refine WL.alloc (cs := [(.int .i64 0), (.int .i64 0), (.int .i64 0), (.int .i64 0), (.int .i64 0)]) Tryz.zeroValue23 rfl rfl (fun b4 => ?_)
  refine WL.store (cs := [_, _, _, _, _]) Tryz.sizeOf23 (OV.p rfl) (OV.p rfl) rfl rfl rfl (by repeat (first | exact Upd.here (cs' := [_, _, _, _, _]) rfl rfl | apply Upd.up)) ?_
  refine WL.nil ?_
  refine WC.seq ?_
  refine WC.sr ?_
  refine WL.mv rfl rfl ?_
  refine WL.sub (Sub.refl _) (fun w h => h.sel 3 [1, 2, 0] rfl) ?_
  refine WL.call (vs := [_, _, _]) Tryz.call27 ⟨OV.p rfl, OV.p rfl, OV.p rfl, trivial⟩ (drive_WholeG hC hg 0 0 (by decide)) rfl ?_
  rintro _ _ ⟨rfl, rfl⟩
  refine WL.mv rfl rfl ?_
  refine WL.xt rfl rfl rfl ?_
  refine WL.xt rfl rfl rfl ?_
  refine WL.sg rfl rfl ?_
  refine WL.sg rfl rfl ?_
  refine WL.nil ?_
  refine WC.sr ?_
  refine WL.mv rfl rfl ?_
  refine WL.val (V.neq (OV.p rfl) (OV.p rfl)) rfl ?_
  refine WL.nil ?_
  refine WC.condF' rfl ((by simp; exact he)) ?_
  refine WC.skip ?_
  refine WC.sr ?_
  refine WL.sg rfl rfl ?_
  refine WL.nil ?_
  refine WC.seq ?_
  refine WC.sr ?_
  refine WL.mv rfl rfl ?_
  refine WL.call (vs := [_]) Tryz.call18 ⟨OV.p rfl, trivial⟩ (drive_GoodG hC hg) rfl ?_
  rintro _ _ ⟨Ag, cg, rfl, rfl⟩
  rw [← hgd]
  refine WL.val (V.len (t := 42) Tryz.runUnderlying42 (OV.p rfl)) rfl ?_
  refine WL.mv rfl rfl ?_
  refine WL.nil ?_
  refine WC.block ?_
  refine WC.loop (σ := Nat × Option Addr × Nat) (fun s => [(0, ptr bd 0), (4, ptr b4 0), (7, .slice s.2.1 (((gd.take s.1).filterMap C.sem.scanB).length) s.2.2), (31, .slice Ag gd.length cg), (32, .int .i64 (gd.length : Int)), (33, .int .i64 (s.1 : Int))]) (fun s => C.A bc :: DvA bd bc g :: SlA (.slice s.2.1 (((gd.take s.1).filterMap C.sem.scanB).length) s.2.2) 167 5 (((gd.take s.1).filterMap C.sem.scanB).length) (flatF ((gd.take s.1).filterMap C.sem.scanB)) :: SlA (.slice Ag gd.length cg) 3 1 gd.length (ints .i64 gd) :: Cells b4 23 [.int .i64 g.bl, .int .i64 g.pg, .int .i64 g.se, .int .i64 g.sb, .int .i64 g.fl] :: F) (fun s => s.1 ≤ gd.length) (fun s => gd.length - s.1) (0, none, 0) (Nat.zero_le _) (.cons rfl (.cons rfl (.cons rfl (.cons rfl (.cons rfl (.cons rfl (.nil _))))))) (fun w h => (Sat.slNil h 167 5).sel 5 [2, 3, 0, 1, 4] rfl) ?_
  rintro ⟨k, Ao, co⟩ hk
  dsimp only at hk ⊢
  obtain ⟨fs, hfs⟩ : ∃ fs, fs = (gd.take k).filterMap C.sem.scanB := ⟨_, rfl⟩
  have hfl : fs.length ≤ 19 := by rw [hfs]; exact Nat.le_trans (List.length_filterMap_le _ _) (by rw [List.length_take]; omega)
  rw [← hfs]
  refine WC.sr ?_
  refine WL.val (V.lss (OV.p rfl) (OV.p rfl)) rfl ?_
  refine WL.nil ?_
  refine WC.seq ?_
  refine WC.cond rfl (fun hc2 => ?_) (fun hc2 => ?_)
  ·simp only [decide_eq_true_eq, decide_eq_false_iff_not] at hc2
   have hkg : k < gd.length := by omega
   obtain ⟨b, hb⟩ : ∃ b, b = gd.getD k 0 := ⟨_, rfl⟩
   have htk : gd.take (k + 1) = gd.take k ++ [b] := by rw [List.take_add_one, List.getElem?_eq_getElem hkg, hb]; simp [List.getD, hkg]
   have hfn : (gd.take (k + 1)).filterMap C.sem.scanB = fs ++ (C.sem.scanB b).toList := by rw [htk, List.filterMap_append, ← hfs]; cases hsb : C.sem.scanB b <;> simp [hsb]
   have hrg : ∀ {X : List Assn}, Rd K (SlA (.slice Ag gd.length cg) 3 1 gd.length (ints .i64 gd) :: X) (Ag.map (·.add ((k : Int).toNat * 1))) (.int .i64 b) := fun {X} => by
     have h1 : Seq K (SlA (.slice Ag gd.length cg) 3 1 gd.length (ints .i64 gd) :: X) Ag gd.length 1 (ints .i64 gd) := SlA.seq (by rw [ints_length, Nat.mul_one])
     have h2 := Seq.int_rd h1 (j := (k : Int)) (by omega)
     rw [hb]
     rwa [show (k : Int).toNat = k by omega] at h2 ⊢
   have hbm := Chip.goodTo_mem C.sem C.sem.g.bl.toNat b (by show b ∈ C.sem.good; rw [← hgd, hb]; simp only [List.getD, List.getElem?_eq_getElem hkg]; exact List.getElem_mem _)
   refine WC.skip ?_
   refine WC.seq ?_
   refine WC.block ?_
   refine WC.sr ?_
   refine WL.val (V.idxS st42 (OV.p rfl) (OV.p rfl) (fun hc => by omega) (fun hc => by repeat (first | exact hrg | apply Rd.up))) rfl ?_
   refine WL.val (V.load Tryz.isAgg3 (OV.p rfl) (fun hc => by repeat (first | exact hrg | apply Rd.up))) rfl ?_
   refine WL.sg rfl rfl ?_
   refine WL.nil ?_
   refine WC.sr ?_
   refine WL.mv rfl rfl ?_
   refine WL.mv rfl rfl ?_
   refine WL.call (vs := [_, _, _]) Tryz.call26 ⟨OV.p rfl, OV.p rfl, OV.p rfl, trivial⟩ (drive_ReadG hC hg b 0) rfl ?_
   rintro _ _ ⟨Ad, cd, rfl, rfl⟩
   obtain ⟨G, hG⟩ : ∃ G, G = C.sem.dRead b 0 := ⟨_, rfl⟩
   have hGf := hC.dRead_facts b 0
   have hsb : C.sem.scanB b = if G.err ≠ 0 then none else match parseF g G.d with
     | none => none
     | some h => some ⟨b, h, (C.sem.dWhole b (1 + g.pagesOf h.len)).1⟩ := by unfold Chip.scanB; rw [← hG, show C.sem.g = g from hg]
   rw [← hG] at hGf ⊢
   refine WL.sub (Sub.refl _) (fun w h => h.sel 3 [1, 2, 0] rfl) ?_
   refine WL.mv rfl rfl ?_
   refine WL.xt rfl rfl rfl ?_
   refine WL.xt rfl rfl rfl ?_
   refine WL.xt rfl rfl rfl ?_
   refine WL.sg rfl rfl ?_
   refine WL.sg rfl rfl ?_
   refine WL.sg rfl rfl ?_
   refine WL.nil ?_
   refine WC.seq ?_
   refine WC.sr ?_
   refine WL.mv rfl rfl ?_
   refine WL.val (V.neq (OV.p rfl) (OV.p rfl)) rfl ?_
   refine WL.nil ?_
   refine WC.cond rfl (fun hc3 => ?_) (fun hc3 => ?_)
   ·simp only [Bool.not_eq_true', Bool.not_eq_false', decide_eq_true_eq, decide_eq_false_iff_not] at hc3
    have h3 := hc3
    rw [if_pos h3] at hsb
    rw [hsb] at hfn
    refine WC.exit ?_
    refine WC.region ?_
    refine WL.ad rfl rfl rfl ?_
    refine WL.mv rfl rfl ?_
    refine WL.nil ?_
    refine ⟨rfl, ?_⟩
    first
    | (refine ⟨(k + 1, A5, c5), hkg, (by show gd.length - (k + 1) < gd.length - k; omega), .cons rfl (.cons rfl (.cons (look_eq rfl (by dsimp only; rw [hfn, List.length_append]; rfl)) (.cons rfl (.cons rfl (.cons (look_eq rfl (by simp)) (.nil _)))))), fun w h => ?_⟩
       dsimp only
       rw [hfn, List.length_append, Option.toList_some, flatF_snoc]
       exact h.sel 8 [2, 3, 0, 6, 7] rfl)
    | (refine ⟨(k + 1, Ao, co), hkg, (by show gd.length - (k + 1) < gd.length - k; omega), .cons rfl (.cons rfl (.cons (look_eq rfl (by dsimp only; rw [hfn]; simp)) (.cons rfl (.cons rfl (.cons (look_eq rfl (by simp)) (.nil _)))))), fun w h => ?_⟩
       dsimp only
       rw [hfn, Option.toList_none, List.append_nil]
       first
         | exact h.sel 6 [0, 1, 3, 4, 5] rfl
         | exact h.sel 7 [1, 2, 4, 5, 6] rfl)
   ·simp only [Bool.not_eq_true', Bool.not_eq_false', decide_eq_true_eq, decide_eq_false_iff_not] at hc3
    have h3 := hc3
    rw [if_neg (fun h => h (by omega))] at hsb
    obtain ⟨pe, hpe⟩ : ∃ pe, pe = parseE g G.d := ⟨_, rfl⟩
    obtain ⟨ph, hph⟩ : ∃ ph, ph = parseH g G.d := ⟨_, rfl⟩
    have hps : (pe ≠ 0 ∧ C.sem.scanB b = none) ∨ (pe = 0 ∧ ph.may g = true ∧ C.sem.scanB b = some ⟨b, ph, (C.sem.dWhole b (1 + g.pagesOf ph.len)).1⟩) := by
      unfold parseE at hpe
      unfold parseH at hph
      cases hp : parseF g G.d with
      | none =>
        rw [hp] at hsb hpe
        exact .inl ⟨by rw [hpe]; dsimp only; split <;> decide, hsb⟩
      | some h =>
        rw [hp] at hsb hpe hph
        have hph' : ph = h := hph
        subst hph'
        exact .inr ⟨hpe, (parse_len hgm hp).2.1, hsb⟩
    refine WC.skip ?_
    refine WC.sr ?_
    refine WL.val (V.loadA (vs := [_, _, _, _, _]) ⟨Tryz.isAgg23, Tryz.sizeOf23⟩ (OV.p rfl) rfl (fun _ => by repeat (first | exact Rds.gets ⟨rfl, rfl, rfl, rfl, rfl, trivial⟩ | apply Rds.up))) rfl ?_
    refine WL.mv rfl rfl ?_
    refine WL.call (vs := [_, _]) Tryz.call90 ⟨OV.p rfl, OV.p rfl, trivial⟩ (Tells.eq (v' := .tuple #[ph.v, .int .i64 pe]) (head_Parse (d := G.d) hgm (by repeat (first | exact SlA.seq (by rw [nats_length, Nat.mul_one]) | apply Seq.up)) hGf.1 (by omega)) (by rw [hph, hpe])) rfl ?_
    rintro _ H0 ⟨rfl, h0⟩
    subst H0
    refine WL.mv rfl rfl ?_
    refine WL.xt rfl rfl rfl ?_
    refine WL.xt rfl rfl rfl ?_
    refine WL.alloc (cs := [(.int .i64 0), (.int .i64 0), (.int .i64 0)]) Tryz.zeroValue129 rfl rfl (fun b13 => ?_)
    refine WL.store (cs := [_, _, _]) Tryz.sizeOf129 (OV.p rfl) (OV.p rfl) rfl rfl rfl (by repeat (first | exact Upd.here (cs' := [_, _, _]) rfl rfl | apply Upd.up)) ?_
    refine WL.sg rfl rfl ?_
    refine WL.nil ?_
    refine WC.seq ?_
    refine WC.sr ?_
    refine WL.mv rfl rfl ?_
    refine WL.val (V.neq (OV.p rfl) (OV.p rfl)) rfl ?_
    refine WL.nil ?_
    refine WC.cond rfl (fun hc4 => ?_) (fun hc4 => ?_)
    ·simp only [Bool.not_eq_true', Bool.not_eq_false', decide_eq_true_eq, decide_eq_false_iff_not] at hc4
     have h4 := hc4
     rcases hps with ⟨_, hsn⟩ | ⟨h5, _⟩
     rotate_left
     · exact absurd h5 h4
     rw [hsn] at hfn
     refine WC.exit ?_
     refine WC.region ?_
     refine WL.ad rfl rfl rfl ?_
     refine WL.mv rfl rfl ?_
     refine WL.nil ?_
     refine ⟨rfl, ?_⟩
     first
     | (refine ⟨(k + 1, A5, c5), hkg, (by show gd.length - (k + 1) < gd.length - k; omega), .cons rfl (.cons rfl (.cons (look_eq rfl (by dsimp only; rw [hfn, List.length_append]; rfl)) (.cons rfl (.cons rfl (.cons (look_eq rfl (by simp)) (.nil _)))))), fun w h => ?_⟩
        dsimp only
        rw [hfn, List.length_append, Option.toList_some, flatF_snoc]
        exact h.sel 8 [2, 3, 0, 6, 7] rfl)
     | (refine ⟨(k + 1, Ao, co), hkg, (by show gd.length - (k + 1) < gd.length - k; omega), .cons rfl (.cons rfl (.cons (look_eq rfl (by dsimp only; rw [hfn]; simp)) (.cons rfl (.cons rfl (.cons (look_eq rfl (by simp)) (.nil _)))))), fun w h => ?_⟩
        dsimp only
        rw [hfn, Option.toList_none, List.append_nil]
        first
          | exact h.sel 6 [0, 1, 3, 4, 5] rfl
          | exact h.sel 7 [1, 2, 4, 5, 6] rfl)
    ·simp only [Bool.not_eq_true', Bool.not_eq_false', decide_eq_true_eq, decide_eq_false_iff_not] at hc4
     have h4 := hc4
     rcases hps with ⟨h5, _⟩ | ⟨_, hmy, hss⟩
     · exact absurd (by omega) h5
     rw [hss] at hfn
     have hmb := hmy
     unfold Hd.may at hmb
     simp only [Bool.and_eq_true, decide_eq_true_eq] at hmb
     have hfit := hmb.1.1.1.1
     have hfb := hfit
     unfold Geo.fits at hfb
     simp only [Bool.and_eq_true, decide_eq_true_eq] at hfb
     have hcb := Geo.cap_bd hgm
     have hrb := Geo.room_bd hgm
     have hpn : 0 ≤ g.pagesOf ph.len ∧ g.pagesOf ph.len ≤ 1000000 := by
       unfold Geo.pagesOf
       exact ⟨Int.ediv_nonneg (by omega) (by omega), Int.le_trans (Int.ediv_le_self _ (by omega)) (by omega)⟩
     refine WC.skip ?_
     refine WC.sr ?_
     refine WL.val (V.loadA (vs := [_, _, _, _, _]) ⟨Tryz.isAgg23, Tryz.sizeOf23⟩ (OV.p rfl) rfl (fun _ => by repeat (first | exact Rds.gets ⟨rfl, rfl, rfl, rfl, rfl, trivial⟩ | apply Rds.up))) rfl ?_
     refine WL.val (V.fieldAddr fo129_1 (OV.p rfl)) rfl ?_
     refine WL.ld Tryz.isAgg3 rfl rfl ?_
     refine WL.call (vs := [_, _]) Tryz.call91 ⟨OV.p rfl, OV.p rfl, trivial⟩ (Tells.eq (v' := .tuple #[.int .i64 (g.pagesOf ph.len), .int .i64 0]) (head_Pages hgm (by omega)) (by rw [hfit]; rfl)) rfl ?_
     rintro _ H0 ⟨rfl, h0⟩
     subst H0
     refine WL.mv rfl rfl ?_
     refine WL.xt rfl rfl rfl ?_
     refine WL.xt rfl rfl rfl ?_
     refine WL.sg rfl rfl ?_
     refine WL.sg rfl rfl ?_
     refine WL.nil ?_
     refine WC.sr ?_
     refine WL.mv rfl rfl ?_
     refine WL.mv rfl rfl ?_
     refine WL.mv rfl rfl ?_
     refine WL.ad rfl rfl rfl ?_
     refine WL.sub (Sub.refl _) (fun w h => h.sel 3 [1, 2, 0] rfl) ?_
     refine WL.call (vs := [_, _, _]) Tryz.call27 ⟨OV.p rfl, OV.p rfl, OV.p rfl, trivial⟩ (drive_WholeG hC hg b (1 + g.pagesOf ph.len) (by omega)) rfl ?_
     rintro _ _ ⟨rfl, rfl⟩
     refine WL.mv rfl rfl ?_
     refine WL.xt rfl rfl rfl ?_
     refine WL.xt rfl rfl rfl ?_
     refine WL.sg rfl rfl ?_
     refine WL.sg rfl rfl ?_
     refine WL.nil ?_
     refine WC.region ?_
     refine WL.mv rfl rfl ?_
     refine WL.mv rfl rfl ?_
     refine WL.val (V.loadA (vs := [_, _, _]) ⟨Tryz.isAgg129, Tryz.sizeOf129⟩ (OV.p rfl) rfl (fun _ => by repeat (first | exact Rds.gets ⟨rfl, rfl, rfl, trivial⟩ | apply Rds.up))) rfl ?_
     refine WL.mv rfl rfl ?_
     refine WL.val (V.build (vs := [(0, _), (1, _), (2, _)]) ⟨OV.p rfl, OV.p rfl, OV.p rfl, trivial⟩ rfl (bld167_0_1_2 _ _ _ _ _)) rfl ?_
     refine WL.buildSlice (E := 167) (cs := [_, _, _, _, _]) (vs := [(0, _)]) ⟨OV.p rfl, trivial⟩ rfl (bsl133_1_0 _ _ _ _ _) rfl (fun b74 => ?_)
     refine WL.sub (Sub.refl _) (fun w h => h.sel 6 [5, 0, 1, 2, 3, 4] rfl) ?_
     refine WL.append (m := fs.length) (q := 1) (news := Fd.cells ⟨b, ph, (C.sem.dWhole b (1 + g.pagesOf ph.len)).1⟩) Tryz.underlying133 el167 (OV.p rfl) (OV.p rfl) (Seq.all rfl) (fun u hu => by simpa using List.all_eq_true.1 (flatF_one _) u hu) (by omega) rfl rfl (fun A5 c5 hA5 hc5 => ?_)
     refine WL.sg rfl rfl ?_
     refine WL.nil ?_
     refine WC.region ?_
     refine WL.ad rfl rfl rfl ?_
     refine WL.mv rfl rfl ?_
     refine WL.nil ?_
     refine ⟨rfl, ?_⟩
     first
     | (refine ⟨(k + 1, A5, c5), hkg, (by show gd.length - (k + 1) < gd.length - k; omega), .cons rfl (.cons rfl (.cons (look_eq rfl (by dsimp only; rw [hfn, List.length_append]; rfl)) (.cons rfl (.cons rfl (.cons (look_eq rfl (by simp)) (.nil _)))))), fun w h => ?_⟩
        dsimp only
        rw [hfn, List.length_append, Option.toList_some, flatF_snoc]
        exact h.sel 8 [2, 3, 0, 6, 7] rfl)
     | (refine ⟨(k + 1, Ao, co), hkg, (by show gd.length - (k + 1) < gd.length - k; omega), .cons rfl (.cons rfl (.cons (look_eq rfl (by dsimp only; rw [hfn]; simp)) (.cons rfl (.cons rfl (.cons (look_eq rfl (by simp)) (.nil _)))))), fun w h => ?_⟩
        dsimp only
        rw [hfn, Option.toList_none, List.append_nil]
        first
          | exact h.sel 6 [0, 1, 3, 4, 5] rfl
          | exact h.sel 7 [1, 2, 4, 5, 6] rfl)
  ·simp only [decide_eq_true_eq, decide_eq_false_iff_not] at hc2
   refine WC.exit ?_
   refine WC.sr ?_
   refine WL.mv rfl rfl ?_
   refine WL.sg rfl rfl ?_
   refine WL.sg rfl rfl ?_
   refine WL.nil ?_
   refine WC.ret ?_
   obtain rfl : k = gd.length := by omega
   have hend : fs = C.sem.scanF := by rw [hfs, List.take_of_length_le (Nat.le_refl _), hscan]
   rw [← hend]
   exact BodyQ.ret (H' := C.A bc :: DvA bd bc g :: SlA (.slice Ao fs.length co) 167 5 fs.length (flatF fs) :: F) (Res.tmp2 rfl rfl rfl) (fun w h => h.sel 5 [0, 1, 2] rfl) ⟨Ao, co, rfl, rfl⟩
end
end Go.Proofs.YtohkefolnmcjnaaGreat
namespace Go.Proofs.YtohkefolnmcjnaaGreat
open Go.Sl Go.RowKit
set_option linter.unusedVariables false
set_option linter.unusedSimpArgs false
set_option maxRecDepth 20000
def mxTo (c : Fd → Fd → Int) (fs : List Fd) : Nat → Fd
  | 0 => fs.getD 0 fd0
  | i + 1 => if 0 < c (fs.getD (i + 1) fd0) (mxTo c fs i) then fs.getD (i + 1) fd0 else mxTo c fs i
def lastB (l : List Fd) : Int := match l.getLast? with | none => -1 | some x => x.block
def pickF (lebs : Nat) (fs : List Fd) : List Int := (rowsF lebs fs).map fun l => lastB (isort (ltOf cmpN) l)
def nextF (fs : List Fd) : Int := if fs.length = 0 then 1 else (mxTo cmpM fs (fs.length - 1)).hd.num + 1
def staleF (lebs : Nat) (fs : List Fd) : List (List Int) := (rowsF lebs fs).map fun l => (isort (ltOf cmpS) (isort (ltOf cmpN) l).dropLast).map Fd.block
theorem pickF_length (lebs : Nat) (fs : List Fd) : (pickF lebs fs).length = lebs := by unfold pickF; rw [List.length_map, rowsF_length]
theorem staleF_length (lebs : Nat) (fs : List Fd) : (staleF lebs fs).length = lebs := by unfold staleF; rw [List.length_map, rowsF_length]
structure IRow where
  A : Option Addr
  c : Nat
  l : List Int
abbrev IRow.v (x : IRow) : Value := .slice x.A x.l.length x.c
def IRow.row (x : IRow) : Assn := SlA (.slice x.A x.l.length x.c) 3 1 x.l.length (ints .i64 x.l)
def ir0 : IRow := ⟨none, 0, []⟩
theorem Rd.inAll {K : World} {l H : List Assn} {A : Assn} {p : Option Addr} {v : Value} (hA : A ∈ l) (h : Rd K [A] p v) : Rd K (AllA l :: H) p v := fun w hw => h w (hw.memA hA)
theorem FRow.rd {K : World} {r : FRow} {i j : Nat} {x : Fd} {v : Value} (hi : r.l[i]? = some x) (hj : x.cells[j]? = some v) : Rd K [r.row] (r.A.map (·.add (i * 5 + j))) v := by
  have h : Seq K [r.row] r.A r.l.length 5 (flatF r.l) := SlA.seq (flatF_length _)
  exact found_rd h hi hj
section
variable {K : World} {F : List Assn}
theorem max_found {f : Nat} {c : Fd → Fd → Int} (hf : CmpIs f c) {A : Option Addr} {n cap : Nat} {fs : List Fd} (hs : Seq K F A n 5 (flatF fs)) (hn : fs.length = n) (h0 : 0 < n) (hn2 : n ≤ 1000000) :
    Tells Tryz.prog 130 #[.slice A n cap, .func (.func f) #[] #[]] K F (mxTo c fs (n - 1)).v := by
  have hel : ∀ {X : List Assn} (k : Nat), k < n → (∀ w, Sat K w X → Sat K w F) → ∀ (j : Nat) v, (fs.getD k fd0).cells[j]? = some v → Rd K X (A.map (·.add (k * 5 + j))) v := fun k hk hX j v hj => by
    have hx : fs[k]? = some (fs.getD k fd0) := by simp [List.getD, show k < fs.length by omega]
    exact found_rd (hs.sat hX) hx hj
  have hup : ∀ {X : Assn} {Y : List Assn}, (∀ w, Sat K w Y → Sat K w F) → ∀ w, Sat K w (X :: Y) → Sat K w F := fun h w hw => h w hw.tail
  refine Does.enter Tryz.func130 rfl Tryz.ntmps130 rfl ?_
  simp only [env0, Nat.reduceAdd]
  refine WC.sr ?_
  refine WL.alloc (cs := [(.int .i64 0), (.int .i64 0), (.int .i64 0), (.int .i64 0), (.bool false)]) Tryz.zeroValue167 rfl rfl (fun b4 => ?_)
  refine WL.nil ?_
  refine WC.seq ?_
  refine WC.sr ?_
  refine WL.mv rfl rfl ?_
  refine WL.val (V.len (t := 133) Tryz.runUnderlying133 (OV.p rfl)) rfl ?_
  refine WL.val (V.lss (OV.p rfl) (OV.p rfl)) rfl ?_
  refine WL.nil ?_
  refine WC.condF' rfl ((decide_eq_false (by omega))) ?_
  refine WC.skip ?_
  refine WC.sr ?_
  refine WL.mv rfl rfl ?_
  refine WL.val (V.val_eq (v' := sp A (0 * 5)) (V.idxS st133 (OV.p rfl) (OV.p rfl) (fun hc => by omega) (fun hc => by rw [show ((0 : Int)).toNat = 0 from rfl]; exact hel 0 h0 (by repeat (first | exact (fun w h => h) | apply hup)) 0 _ rfl)) (fun _ => rfl)) rfl ?_
  refine WL.val (V.loadS (vs := (fs.getD 0 fd0).cells) ⟨Tryz.isAgg167, Tryz.sizeOf167⟩ (OV.p rfl) rfl (by decide) (fun _ j v hj => by exact hel 0 h0 (by repeat (first | exact (fun w h => h) | apply hup)) j v hj)) rfl ?_
  refine WL.alloc (cs := [(.int .i64 0), (.int .i64 0), (.int .i64 0), (.int .i64 0), (.bool false)]) Tryz.zeroValue167 rfl rfl (fun b5 => ?_)
  refine WL.store (cs := [_, _, _, _, _]) Tryz.sizeOf167 (OV.p rfl) (OV.p rfl) rfl rfl rfl (by repeat (first | exact Upd.here (cs' := [_, _, _, _, _]) rfl rfl | apply Upd.up)) ?_
  refine WL.nil ?_
  refine WC.seq ?_
  refine WC.sr ?_
  refine WL.sg rfl rfl ?_
  refine WL.nil ?_
  refine WC.block ?_
  refine WC.loop (σ := Nat) (fun i => [(0, .slice A n cap), (1, .func (.func f) #[] #[]), (4, ptr b4 0), (5, ptr b5 0), (6, .int .i64 ((i + 1 : Nat) : Int))]) (fun i => Cells b5 167 (mxTo c fs i).cells :: Cells b4 167 [.int .i64 0, .int .i64 0, .int .i64 0, .int .i64 0, .bool false] :: F) (fun i => i < n) (fun i => n - i) 0 h0 (.cons rfl (.cons rfl (.cons rfl (.cons rfl (.cons rfl (.nil _)))))) (fun w h => h) ?_
  rintro i hi
  obtain ⟨m, hm⟩ : ∃ m, m = mxTo c fs i := ⟨_, rfl⟩
  rw [← hm]
  refine WC.seq ?_
  refine WC.sr ?_
  refine WL.mv rfl rfl ?_
  refine WL.mv rfl rfl ?_
  refine WL.val (V.len (t := 133) Tryz.runUnderlying133 (OV.p rfl)) rfl ?_
  refine WL.val (V.lss (OV.p rfl) (OV.p rfl)) rfl ?_
  refine WL.nil ?_
  refine WC.cond rfl (fun hc1 => ?_) (fun hc1 => ?_)
  ·simp only [decide_eq_true_eq, decide_eq_false_iff_not] at hc1
   have hi1 : i + 1 < n := by omega
   obtain ⟨x, hx⟩ : ∃ x, x = fs.getD (i + 1) fd0 := ⟨_, rfl⟩
   have hti : (((i + 1 : Nat) : Int)).toNat = i + 1 := by omega
   have hxe : ∀ {X : List Assn}, (∀ w, Sat K w X → Sat K w F) → ∀ (j : Nat) v, x.cells[j]? = some v → Rd K X (A.map (·.add ((i + 1) * 5 + j))) v := fun hX j v hj => hel (i + 1) hi1 hX j v (by rw [← hx]; exact hj)
   have hst : mxTo c fs (i + 1) = if 0 < c x m then x else m := by rw [mxTo, ← hx, ← hm]
   refine WC.skip ?_
   refine WC.seq ?_
   refine WC.block ?_
   refine WC.seq ?_
   refine WC.regionQ (by kernel_rfl) (by kernel_rfl) ?_
   refine WQ.val (V.move (OV.p rfl)) rfl ?_
   refine WQ.val (V.move (OV.p rfl)) rfl ?_
   refine WQ.val (V.move (OV.p rfl)) rfl ?_
   refine WQ.val (V.val_eq (v' := sp A ((i + 1) * 5)) (V.idxS st133 (OV.p rfl) (OV.p rfl) (fun hc => by omega) (fun hc => by rw [hti]; exact hxe (by repeat (first | exact (fun w h => h) | apply hup)) 0 _ rfl)) (fun _ => by rw [hti])) rfl ?_
   refine WQ.val (V.loadS (vs := x.cells) ⟨Tryz.isAgg167, Tryz.sizeOf167⟩ (OV.p rfl) rfl (by decide) (fun _ j v hj => by exact hxe (by repeat (first | exact (fun w h => h) | apply hup)) j v hj)) rfl ?_
   refine WQ.val (V.loadA (vs := [_, _, _, _, _]) ⟨Tryz.isAgg167, Tryz.sizeOf167⟩ (OV.p rfl) rfl (fun _ => by repeat (first | exact Rds.gets ⟨rfl, rfl, rfl, rfl, rfl, trivial⟩ | apply Rds.up))) rfl ?_
   refine WQ.callV (first := []) (vs := [_, _]) (captured := []) hf.1 (OV.p rfl) ⟨OV.p rfl, OV.p rfl, trivial⟩ (hf.2 _ _ x m) rfl ?_
   refine WQ.val (V.gtr (OV.p rfl) (OV.p rfl)) rfl ?_
   refine WQ.nil ?_
   refine WC.cond rfl (fun hc2 => ?_) (fun hc2 => ?_)
   ·simp only [decide_eq_true_eq, decide_eq_false_iff_not] at hc2
    have h2 := hc2
    rw [if_pos h2] at hst
    refine WC.region ?_
    refine WL.mv rfl rfl ?_
    refine WL.mv rfl rfl ?_
    refine WL.val (V.val_eq (v' := sp A ((i + 1) * 5)) (V.idxS st133 (OV.p rfl) (OV.p rfl) (fun hc => by omega) (fun hc => by rw [hti]; exact hxe (by repeat (first | exact (fun w h => h) | apply hup)) 0 _ rfl)) (fun _ => by rw [hti])) rfl ?_
    refine WL.val (V.loadS (vs := x.cells) ⟨Tryz.isAgg167, Tryz.sizeOf167⟩ (OV.p rfl) rfl (by decide) (fun _ j v hj => by exact hxe (by repeat (first | exact (fun w h => h) | apply hup)) j v hj)) rfl ?_
    refine WL.store (cs := x.cells) Tryz.sizeOf167 (OV.p rfl) (OV.p rfl) rfl rfl rfl (by repeat (first | exact Upd.here (cs' := [_, _, _, _, _]) rfl rfl | apply Upd.up)) ?_
    refine WL.nil ?_
    refine WC.region ?_
    refine WL.mv rfl rfl ?_
    refine WL.ad rfl rfl rfl ?_
    refine WL.sg rfl rfl ?_
    refine WL.nil ?_
    refine ⟨rfl, ?_⟩
    refine ⟨i + 1, hi1, (by show n - (i + 1) < n - i; omega), .cons rfl (.cons rfl (.cons rfl (.cons rfl (.cons (look_eq rfl (by simp)) (.nil _))))), fun w h => ?_⟩
    dsimp only
    rw [hst]
    exact h
   ·simp only [decide_eq_true_eq, decide_eq_false_iff_not] at hc2
    have h2 := hc2
    rw [if_neg (by omega)] at hst
    refine WC.skip ?_
    refine WC.region ?_
    refine WL.mv rfl rfl ?_
    refine WL.ad rfl rfl rfl ?_
    refine WL.sg rfl rfl ?_
    refine WL.nil ?_
    refine ⟨rfl, ?_⟩
    refine ⟨i + 1, hi1, (by show n - (i + 1) < n - i; omega), .cons rfl (.cons rfl (.cons rfl (.cons rfl (.cons (look_eq rfl (by simp)) (.nil _))))), fun w h => ?_⟩
    dsimp only
    rw [hst]
    exact h
  ·simp only [decide_eq_true_eq, decide_eq_false_iff_not] at hc1
   refine WC.exit ?_
   refine WC.sr ?_
   refine WL.val (V.loadA (vs := [_, _, _, _, _]) ⟨Tryz.isAgg167, Tryz.sizeOf167⟩ (OV.p rfl) rfl (fun _ => by repeat (first | exact Rds.gets ⟨rfl, rfl, rfl, rfl, rfl, trivial⟩ | apply Rds.up))) rfl ?_
   refine WL.store (cs := [_, _, _, _, _]) Tryz.sizeOf167 (OV.p rfl) (OV.p rfl) rfl rfl rfl (by repeat (first | exact Upd.here rfl rfl | apply Upd.up)) ?_
   refine WL.nil ?_
   refine WC.ret ?_
   obtain rfl : i = n - 1 := by omega
   rw [← hm]
   exact BodyQ.normal (H' := F) (Res.one rfl (R1.cellA (vs := [_, _, _, _, _]) rfl ⟨Tryz.isAgg167, Tryz.sizeOf167⟩ rfl (by repeat (first | exact Rds.gets ⟨rfl, rfl, rfl, rfl, rfl, trivial⟩ | apply Rds.up)))) (fun w h => h.drop 2) ⟨rfl, rfl⟩
theorem attach_Pick {lebs n cap : Nat} {A : Option Addr} {fs : List Fd} (hl : 1 ≤ lebs ∧ lebs ≤ 64) (hs : Seq K F A n 5 (flatF fs)) (hn : fs.length = n) (h20 : n < 20) (hnum : ∀ x ∈ fs, x.hd.num ≤ 1000000001 ∧ 0 ≤ x.hd.num) :
    Does Tryz.prog 93 #[.int .i64 (lebs : Int), .slice A n cap] K F
      (fun v H' => ∃ A' c', v = .tuple #[.slice A' lebs c', .int .i64 (nextF fs), .int .i64 0] ∧ H' = SlA (.slice A' lebs c') 3 1 lebs (ints .i64 (pickF lebs fs)) :: F) := by
  obtain ⟨pk, hpk⟩ : ∃ pk, pk = pickF lebs fs := ⟨_, rfl⟩
  have hpl : pk.length = lebs := by rw [hpk]; exact pickF_length _ _
  refine Does.enter Tryz.func93 rfl Tryz.ntmps93 rfl ?_
  simp only [env0, Nat.reduceAdd]
  refine WC.sr ?_
  refine WL.sg rfl rfl ?_
  refine WL.sg rfl rfl ?_
  refine WL.sg rfl rfl ?_
  refine WL.nil ?_
  refine WC.sr ?_
  refine WL.mv rfl rfl ?_
  refine WL.mv rfl rfl ?_
  refine WL.call (vs := [_, _, _]) Tryz.call128 ⟨OV.p rfl, OV.p rfl, OV.p rfl, trivial⟩ (attach_whole byNumber_is hl hs hn h20) rfl ?_
  rintro _ _ ⟨bo, rs, hrl, hrs, rfl, rfl⟩
  have hpr : ∀ j r, rs[j]? = some r → pk.getD j 0 = lastB r.l ∧ j < lebs := fun j r hj => by
    have h1 : (rs.map FRow.l)[j]? = some r.l := by rw [List.getElem?_map, hj]; rfl
    have hjl : j < lebs := by rw [← hrl]; exact (List.getElem?_eq_some_iff.1 hj).1
    refine ⟨?_, hjl⟩
    rw [hrs] at h1
    simp only [List.getElem?_map, rowsF, List.getElem?_range hjl, Option.map_some] at h1
    injection h1 with h1
    rw [hpk]
    unfold pickF
    simp only [List.getD, List.getElem?_map, rowsF, List.getElem?_range hjl, Option.map_some, Option.getD_some]
    rw [h1]
  refine WL.mv rfl rfl ?_
  refine WL.xt rfl rfl rfl ?_
  refine WL.xt rfl rfl rfl ?_
  refine WL.sg rfl rfl ?_
  refine WL.sg rfl rfl ?_
  refine WL.nil ?_
  refine WC.seq ?_
  refine WC.sr ?_
  refine WL.mv rfl rfl ?_
  refine WL.val (V.neq (OV.p rfl) (OV.p rfl)) rfl ?_
  refine WL.nil ?_
  refine WC.condF' rfl (by first | rfl | (simp; done) | (simp; omega)) ?_
  refine WC.skip ?_
  refine WC.sr ?_
  refine WL.sg rfl rfl ?_
  refine WL.nil ?_
  refine WC.seq ?_
  refine WC.sr ?_
  refine WL.mv rfl rfl ?_
  refine WL.val (V.len (t := 168) Tryz.runUnderlying168 (OV.p rfl)) rfl ?_
  refine WL.mv rfl rfl ?_
  refine WL.nil ?_
  refine WC.block ?_
  refine WC.loop (σ := Nat × Option Addr × Nat) (fun s => [(1, .slice A n cap), (9, .slice s.2.1 s.1 s.2.2), (22, .slice (some ⟨bo, 0, none⟩) lebs lebs), (23, .int .i64 (lebs : Int)), (24, .int .i64 (s.1 : Int))]) (fun s => SlA (.slice s.2.1 s.1 s.2.2) 3 1 s.1 (ints .i64 (pk.take s.1)) :: Cells bo 133 (rs.map FRow.v) :: AllA (rs.map FRow.row) :: F) (fun s => s.1 ≤ lebs) (fun s => lebs - s.1) (0, none, 0) (Nat.zero_le _) (.cons rfl (.cons rfl (.cons rfl (.cons rfl (.cons rfl (.nil _)))))) (fun w h => Sat.slNil h _ _) ?_
  rintro ⟨j, Ao, co⟩ hj
  dsimp only at hj ⊢
  refine WC.sr ?_
  refine WL.val (V.lss (OV.p rfl) (OV.p rfl)) rfl ?_
  refine WL.nil ?_
  refine WC.seq ?_
  refine WC.cond rfl (fun hc1 => ?_) (fun hc1 => ?_)
  ·simp only [decide_eq_true_eq, decide_eq_false_iff_not] at hc1
   have hjl : j < lebs := by omega
   obtain ⟨r, hr⟩ : ∃ r, rs[j]? = some r := ⟨_, List.getElem?_eq_getElem (by omega)⟩
   have hvg : (rs.map FRow.v)[0 + ((j : Nat) : Int).toNat * 1]? = some r.v := by rw [show 0 + ((j : Nat) : Int).toNat * 1 = j by omega, List.getElem?_map, hr]; rfl
   have hmem : r.row ∈ rs.map FRow.row := List.mem_map.2 ⟨r, List.mem_of_getElem? hr, rfl⟩
   have htk : pk.take (j + 1) = pk.take j ++ [lastB r.l] := by rw [List.take_add_one, List.getElem?_eq_getElem (by omega), ← (hpr j r hr).1]; simp [List.getD, show j < pk.length by omega]
   refine WC.skip ?_
   refine WC.seq ?_
   refine WC.block ?_
   refine WC.sr ?_
   refine WL.val (V.idxB st168 (OV.p rfl) (OV.p rfl) (fun hc => by omega)) rfl ?_
   refine WL.val (V.load Tryz.isAgg133 (OV.p rfl) (fun _ => by repeat (first | exact Rd.here hvg | apply Rd.up))) rfl ?_
   refine WL.sg rfl rfl ?_
   refine WL.nil ?_
   refine WC.sr ?_
   refine WL.mv rfl rfl ?_
   refine WL.val (V.len (t := 133) Tryz.runUnderlying133 (OV.p rfl)) rfl ?_
   refine WL.val (V.eql (OV.p rfl) (OV.p rfl)) rfl ?_
   refine WL.nil ?_
   refine WC.cond rfl (fun hc2 => ?_) (fun hc2 => ?_)
   ·simp only [decide_eq_true_eq, decide_eq_false_iff_not] at hc2
    have h2 := hc2
    have hlast : lastB r.l = -1 := by
      have : r.l = [] := List.eq_nil_of_length_eq_zero (by omega)
      unfold lastB; rw [this]; rfl
    refine WC.region ?_
    refine WL.mv rfl rfl ?_
    refine WL.buildSlice (E := 3) (cs := [_]) (vs := [(0, _)]) ⟨OV.p rfl, trivial⟩ rfl (bsl42_1_0 _) rfl (fun b32 => ?_)
    refine WL.sub (Sub.refl _) (fun w h => h.p1) ?_
    refine WL.append (m := j) (q := 1) (news := [.int .i64 (-1)]) Tryz.underlying42 el3 (OV.p rfl) (OV.p rfl) (Seq.all rfl) (by intro u hu; rw [List.mem_singleton.1 hu]; rfl) (by omega) rfl rfl (fun A5 c5 hA5 hc5 => ?_)
    refine WL.sg rfl rfl ?_
    refine WL.nil ?_
    refine WC.region ?_
    refine WL.ad rfl rfl rfl ?_
    refine WL.mv rfl rfl ?_
    refine WL.nil ?_
    refine ⟨rfl, ?_⟩
    refine ⟨(j + 1, A5, c5), hjl, (by show lebs - (j + 1) < lebs - j; omega), .cons rfl (.cons rfl (.cons rfl (.cons rfl (.cons (look_eq rfl (by simp)) (.nil _))))), fun w h => ?_⟩
    dsimp only
    rw [htk, hlast, ints_append]
    exact h.sel 2 [0] rfl
   ·simp only [decide_eq_true_eq, decide_eq_false_iff_not] at hc2
    have h2 := hc2
    obtain ⟨x, hx⟩ : ∃ x, r.l[r.l.length - 1]? = some x := ⟨_, List.getElem?_eq_getElem (by omega)⟩
    have hlast : lastB r.l = x.block := by unfold lastB; rw [List.getLast?_eq_getElem?, hx]
    have hrx : ∀ (i : Nat) v, x.cells[i]? = some v → ∀ {X : List Assn}, Rd K (AllA (rs.map FRow.row) :: X) (r.A.map (·.add ((r.l.length - 1) * 5 + i))) v := fun i v hi X => Rd.inAll hmem (FRow.rd hx hi)
    have hri : ((r.l.length : Int) - 1).toNat = r.l.length - 1 := by omega
    have hrll : r.l.length ≤ 1000000 := by
      have h3 : (rs.map FRow.l)[j]? = some r.l := by rw [List.getElem?_map, hr]; rfl
      rw [hrs] at h3
      simp only [rowsF, List.getElem?_map, List.getElem?_range hjl, Option.map_some] at h3
      injection h3 with h3
      rw [← h3, isort_length]
      exact Nat.le_trans (List.length_filter_le _ _) (by omega)
    refine WC.region ?_
    refine WL.mv rfl rfl ?_
    refine WL.mv rfl rfl ?_
    refine WL.mv rfl rfl ?_
    refine WL.val (V.len (t := 133) Tryz.runUnderlying133 (OV.p rfl)) rfl ?_
    refine WL.sb rfl rfl rfl ?_
    refine WL.val (V.val_eq (v' := sp r.A ((r.l.length - 1) * 5)) (V.idxS st133 (OV.p rfl) (OV.p rfl) (fun hc => by omega) (fun hc => by rw [hri]; repeat (first | exact hrx 0 _ rfl | apply Rd.up))) (fun _ => by rw [hri])) rfl ?_
    refine WL.val (V.fieldS (k' := (r.l.length - 1) * 5) fo167_0 (OV.p rfl) (fun _ => by repeat (first | exact hrx 0 _ rfl | apply Rd.up))) rfl ?_
    refine WL.val (V.load Tryz.isAgg3 (OV.p rfl) (fun _ => by repeat (first | exact hrx 0 _ rfl | apply Rd.up))) rfl ?_
    refine WL.buildSlice (E := 3) (cs := [_]) (vs := [(0, _)]) ⟨OV.p rfl, trivial⟩ rfl (bsl42_1_0 _) rfl (fun b42 => ?_)
    refine WL.sub (Sub.refl _) (fun w h => h.p1) ?_
    refine WL.append (m := j) (q := 1) (news := [.int .i64 x.block]) Tryz.underlying42 el3 (OV.p rfl) (OV.p rfl) (Seq.all rfl) (by intro u hu; rw [List.mem_singleton.1 hu]; rfl) (by omega) rfl rfl (fun A5 c5 hA5 hc5 => ?_)
    refine WL.sg rfl rfl ?_
    refine WL.nil ?_
    refine WC.region ?_
    refine WL.ad rfl rfl rfl ?_
    refine WL.mv rfl rfl ?_
    refine WL.nil ?_
    refine ⟨rfl, ?_⟩
    refine ⟨(j + 1, A5, c5), hjl, (by show lebs - (j + 1) < lebs - j; omega), .cons rfl (.cons rfl (.cons rfl (.cons rfl (.cons (look_eq rfl (by simp)) (.nil _))))), fun w h => ?_⟩
    dsimp only
    rw [htk, hlast, ints_append]
    exact h.sel 2 [0] rfl
  ·simp only [decide_eq_true_eq, decide_eq_false_iff_not] at hc1
   refine WC.exit ?_
   refine WC.seq ?_
   refine WC.seq ?_
   obtain rfl : j = lebs := by omega
   rw [List.take_of_length_le (by omega), hpk]
   refine WC.sub (Sub.refl _) (fun w h => h.sel 3 [0] rfl) ?_
   refine WC.region ?_
   refine WL.mv rfl rfl ?_
   refine WL.val (V.len (t := 133) Tryz.runUnderlying133 (OV.p rfl)) rfl ?_
   refine WL.val (V.eql (OV.p rfl) (OV.p rfl)) rfl ?_
   refine WL.nil ?_
   refine WC.cond rfl (fun hc3 => ?_) (fun hc3 => ?_)
   ·simp only [decide_eq_true_eq, decide_eq_false_iff_not] at hc3
    have h3 := hc3
    have hnx : nextF fs = 1 := by unfold nextF; rw [if_pos (by omega)]
    refine WC.sr ?_
    refine WL.mv rfl rfl ?_
    refine WL.sg rfl rfl ?_
    refine WL.sg rfl rfl ?_
    refine WL.sg rfl rfl ?_
    refine WL.nil ?_
    refine WC.ret ?_
    rw [hnx]
    exact BodyQ.ret (H' := SlA (.slice Ao j co) 3 1 j (ints .i64 (pickF j fs)) :: F) (Res.tmp3 rfl rfl rfl rfl) (fun w h => h) ⟨Ao, co, rfl, rfl⟩
   ·simp only [decide_eq_true_eq, decide_eq_false_iff_not] at hc3
    have h3 := hc3
    have hnx : nextF fs = (mxTo cmpM fs (n - 1)).hd.num + 1 := by unfold nextF; rw [if_neg (by omega), hn]
    have hmem : ∀ k, k < n → mxTo cmpM fs k ∈ fs := fun k => by
      induction k with
      | zero => intro hk; show fs.getD 0 fd0 ∈ fs; simp only [List.getD, List.getElem?_eq_getElem (show 0 < fs.length by omega)]; exact List.getElem_mem _
      | succ k ih =>
        intro hk
        rw [mxTo]
        split
        · simp only [List.getD, List.getElem?_eq_getElem (show k + 1 < fs.length by omega)]; exact List.getElem_mem _
        · exact ih (by omega)
    have hmb := hnum _ (hmem (n - 1) (by omega))
    refine WC.skip ?_
    refine WC.sr ?_
    refine WL.mv rfl rfl ?_
    refine WL.call (vs := [_, _]) Tryz.call130 ⟨OV.p rfl, OV.p rfl, trivial⟩ (max_found pick1_is (by repeat (first | exact hs | apply Seq.up)) hn (by omega) (by omega)) rfl ?_
    rintro _ H0 ⟨rfl, h0⟩
    subst H0
    refine WL.alloc (cs := [(.int .i64 0), (.int .i64 0), (.int .i64 0), (.int .i64 0), (.bool false)]) Tryz.zeroValue167 rfl rfl (fun b12 => ?_)
    refine WL.store (cs := [_, _, _, _, _]) Tryz.sizeOf167 (OV.p rfl) (OV.p rfl) rfl rfl rfl (by repeat (first | exact Upd.here (cs' := [_, _, _, _, _]) rfl rfl | apply Upd.up)) ?_
    refine WL.nil ?_
    refine WC.seq ?_
    refine WC.regionQ (by kernel_rfl) (by kernel_rfl) ?_
    refine WQ.val (V.move (OV.p rfl)) rfl ?_
    refine WQ.val (V.fieldAddr fo167_1 (OV.p rfl)) rfl ?_
    refine WQ.val (V.fieldAddr fo129_2 (OV.p rfl)) rfl ?_
    refine WQ.val (V.load Tryz.isAgg3 (OV.p rfl) (fun _ => by repeat (first | exact Rd.here rfl | apply Rd.up))) rfl ?_
    refine WQ.val (V.addI (OV.p rfl) (OV.p rfl) (fun hc => by first | omega | (simp at hc; omega))) rfl ?_
    refine WQ.val (V.assign (OV.p rfl)) rfl ?_
    refine WQ.val (V.assign (OV.p rfl)) rfl ?_
    refine WQ.val (V.assign (OV.p rfl)) rfl ?_
    refine WQ.nil ?_
    refine WC.ret ?_
    rw [hnx]
    exact BodyQ.ret (H' := SlA (.slice Ao j co) 3 1 j (ints .i64 (pickF j fs)) :: F) (Res.tmp3 rfl rfl rfl rfl) (fun w h => h.drop 1) ⟨Ao, co, rfl, rfl⟩
end
end Go.Proofs.YtohkefolnmcjnaaGreat
