import Derived.Test.YtcedojacbhnbiaaGreatP23
import Derived.Test.YtcedojacbhnbiaaGreatP8
import Derived.OrdersIn
namespace Go.Proofs.YtcedojacbhnbiaaGreat
open Go.Sl Go.RowKit
set_option linter.unusedVariables false
set_option linter.unusedSimpArgs false
set_option maxRecDepth 20000
theorem JG {t : Nat} {d m : List Nat} {p : LL} {k : Nat} (hd : kQ t d m = some (p, k)) : p.1.length = d.length := by
  unfold kQ at hd
  split at hd
  · cases hd
  · split at hd
    · cases hd
    · split at hd
      · cases hd
      · injection hd with hd
        have := (iN t (kR (dI t (d, dF t m))) (mh (dI t (d, dF t m))) (d, dF t m) (13 * t + 8 * d.length)).1
        rw [hd] at this
        exact this
theorem FX {t S B : Nat} {raw : List Nat} (hr : raw.length = fU S B t) (he : (cO t S B raw).err = 0) : (cO t S B raw).d.length = S * B := by
  unfold cO at he ⊢
  split at he
  · rename_i h; exact absurd he h
  · rename_i h
    rw [if_neg h]
    have key : ∀ (l : List (Option (LL × Nat))) (d : List Nat) (n : Nat), (∀ o ∈ l, ∀ p k, o = some (p, k) → p.1.length = B) → (gu l d n).err = 0 → (gu l d n).d.length = d.length + l.length * B := fun l => by
      induction l with
      | nil => intro d n _ _; show d.length = _; simp
      | cons o l ih =>
        intro d n h he
        cases o with
        | none => exact absurd he (by show ¬ (50 = 0); decide)
        | some r =>
          obtain ⟨p, k⟩ := r
          rw [gu] at he ⊢
          have h1 := ih (d ++ p.1) (max n k) (fun o ho => h o (.tail _ ho)) he
          have h2 := h _ (.head _) p k rfl
          rw [List.length_append] at h1
          rw [List.length_cons, Nat.succ_mul]
          omega
    have := key ((List.range S).map (rJ t B (B + ay t) raw)) [] 0 (fun o ho p k hp => by
      obtain ⟨j, hj, rfl⟩ := List.mem_map.1 ho
      have hj := List.mem_range.1 hj
      unfold rJ at hp
      rw [JG hp]
      unfold sW
      have h3 : (j + 1) * (B + ay t) ≤ S * (B + ay t) := Nat.mul_le_mul_right _ hj
      rw [Nat.succ_mul] at h3
      rw [List.length_take, List.length_drop, hr]
      unfold fU
      omega) he
    rw [List.length_map, List.length_range] at this
    simpa using this
theorem Cw.Ok.FN {C : Cw} (hC : C.Ok) {b p : Int} (he : (C.sem.bB b p).err = 0) : (C.sem.bB b p).d.length = C.g.room.toNat := by
  have hg := hC.aF
  unfold ak.bB at he ⊢
  split at he
  · rename_i h; exact absurd he h
  · rename_i h
    rw [if_neg h]
    have h0 : (cO C.sem.g.fl.toNat C.sem.g.se.toNat C.sem.g.sb.toNat (C.sem.fU b p)).err = 0 := by
      have he' : ((cO C.sem.g.fl.toNat C.sem.g.se.toNat C.sem.g.sb.toNat (C.sem.fU b p)).err : Int) = 0 := he
      omega
    have h1 := FX (by rw [(hC.nu b p).2.2, Geo.nP hg, Int.toNat_natCast]; rfl) h0
    show (cO _ _ _ _).d.length = _
    rw [h1, Geo.yg hg, Int.toNat_natCast]; rfl
theorem Geo.Au {g : Geo} (hg : g.aF) {n : Int} (h : g.fits n = true) : 0 ≤ g.aW n ∧ g.aW n ≤ g.pg - 1 ∧ n ≤ g.aW n * g.room ∧ (n ≤ 0 → g.aW n = 0) := by
  have hr := Geo.jq hg
  have hgb := hg
  unfold Geo.aF at hgb
  unfold Geo.fits at h
  simp only [Bool.and_eq_true, decide_eq_true_eq] at h
  have h1 := Int.emod_add_mul_ediv (n + g.room - 1) g.room
  have h2 := Int.emod_lt_of_pos (n + g.room - 1) (show 0 < g.room by omega)
  have h3 := Int.emod_nonneg (n + g.room - 1) (show g.room ≠ 0 by omega)
  have hq : g.aW n = (n + g.room - 1) / g.room := rfl
  rw [← hq, Int.mul_comm] at h1
  have h4 : 0 ≤ g.aW n := by rw [hq]; exact Int.ediv_nonneg (by omega) (by omega)
  refine ⟨h4, ?_, by omega, fun hn => ?_⟩
  · have h5 : g.aW n * g.room ≤ g.cap + g.room - 1 := by omega
    have h6 : g.cap + g.room = g.pg * g.room := by unfold Geo.cap; rw [Int.sub_mul, Int.one_mul]; omega
    have h7 : g.aW n * g.room < g.pg * g.room := by omega
    have := Int.lt_of_mul_lt_mul_right h7 (by omega)
    omega
  · have : n = 0 := by omega
    rw [hq, this]
    exact Int.ediv_eq_zero_of_lt (by omega) (by omega)
def eD (S : ak) (b : Int) (n0 : Nat) : Nat → ak.Got
  | 0 => ⟨0, [], n0⟩
  | k + 1 => if (eD S b n0 k).err ≠ 0 then eD S b n0 k
    else if (S.bB b (1 + (k : Int))).err ≠ 0 then ⟨(S.bB b (1 + (k : Int))).err, [], 0⟩
    else ⟨0, (eD S b n0 k).d ++ (S.bB b (1 + (k : Int))).d, max (eD S b n0 k).n (S.bB b (1 + (k : Int))).n⟩
theorem AV {S : ak} {b : Int} {n0 k : Nat} (h : (eD S b n0 k).err ≠ 0) : ∀ m, eD S b n0 (k + m) = eD S b n0 k
  | 0 => rfl
  | m + 1 => by rw [← Nat.add_assoc, eD, AV h m, if_pos h]
def fC (S : ak) (T : St) (aI : Int) : ak.Got × St :=
  if T.ready aI ≠ 0 then (⟨T.ready aI, [], 0⟩, T)
  else if T.at' aI < 0 then (⟨5, [], 0⟩, T)
  else if (S.bB (T.at' aI) 0).err ≠ 0 then (⟨(S.bB (T.at' aI) 0).err, [], 0⟩, T.told (S.bB (T.at' aI) 0).err)
  else if gX S.g (S.bB (T.at' aI) 0).d ≠ 0 then (⟨gX S.g (S.bB (T.at' aI) 0).d, [], 0⟩, T)
  else if (eD S (T.at' aI) (S.bB (T.at' aI) 0).n (S.g.aW (eZ S.g (S.bB (T.at' aI) 0).d).len).toNat).err ≠ 0 then
    (⟨(eD S (T.at' aI) (S.bB (T.at' aI) 0).n (S.g.aW (eZ S.g (S.bB (T.at' aI) 0).d).len).toNat).err, [], 0⟩, T.told (eD S (T.at' aI) (S.bB (T.at' aI) 0).n (S.g.aW (eZ S.g (S.bB (T.at' aI) 0).d).len).toNat).err)
  else (⟨0, (eD S (T.at' aI) (S.bB (T.at' aI) 0).n (S.g.aW (eZ S.g (S.bB (T.at' aI) 0).d).len).toNat).d.take (eZ S.g (S.bB (T.at' aI) 0).d).len.toNat, (eD S (T.at' aI) (S.bB (T.at' aI) 0).n (S.g.aW (eZ S.g (S.bB (T.at' aI) 0).d).len).toNat).n⟩, T)
theorem LZ {K : World} {F : List au} {A : Option Addr} {m n cap E : Nat} {cs : List Value} (hn : n ≤ m) : ∀ w, Sat K w (bC (.slice A m cap) E 1 m cs :: F) → Sat K w (bC (.slice A n cap) E 1 n (cs.take n) :: F) := fun w h => by
  cases A with
  | none =>
    obtain ⟨h1, h2, h3⟩ := bC.vQ h
    obtain rfl : n = 0 := by omega
    subst h1 h2 h3
    exact h
  | some a =>
    obtain ⟨g, rfl⟩ := bC.addr h
    obtain ⟨r, ⟨h1, h2, h3, h4⟩, h5⟩ := Sat.lg h
    have h6 := Sat.Dc (m := n) (cap := cap) (s := 1) h5 h1 (by omega) h4
    rw [Nat.mul_one, List.take_append_of_le_length (by omega)] at h6
    exact h6
theorem EF {g : Geo} {d : List Nat} (hg : g.aF) (h : gX g d = 0) : (eZ g d).may g = true ∧ gH g d = some (eZ g d) := by
  unfold gX at h
  unfold eZ
  cases hp : gH g d with
  | none => rw [hp] at h; dsimp only at h; split at h <;> cases h
  | some x => exact ⟨(qc hg hp).2.1, rfl⟩
section
variable {bs bd bc : Nat} {g : Geo} {T : bI} {C : Cw} {K : World} {F : List au}
theorem F6 (hC : C.Ok) (hg : C.g = g) (hT : T.Ok g) (aI : Int) : Does Tryz.prog 26 #[ptr bs 0, .int .i64 aI] K (C.A bc :: bQ bd bc g :: T.A bs bd g :: F)
    (fun v H' => ∃ (A' : Option Addr) (c' : Nat) (T' : bI), T'.Ok g ∧ T'.sem = (fC C.sem T.sem aI).2 ∧ v = .tuple #[.slice A' (fC C.sem T.sem aI).1.d.length c', .int .i64 ((fC C.sem T.sem aI).1.n : Nat), .int .i64 (fC C.sem T.sem aI).1.err] ∧
      H' = bC (.slice A' (fC C.sem T.sem aI).1.d.length c') 5 1 (fC C.sem T.sem aI).1.d.length (aB .u8 (fC C.sem T.sem aI).1.d) :: C.A bc :: bQ bd bc g :: T'.A bs bd g :: F) := by
  have hgm : g.aF := by rw [← hg]; exact hC.aF
  have hgs : C.sem.g = g := hg
  have hrb := Geo.jq hgm
  have hgb := hgm
  unfold Geo.aF at hgb
  obtain ⟨X, hX⟩ : ∃ X, X = fC C.sem T.sem aI := ⟨_, rfl⟩
  rw [← hX]
  unfold fC at hX
  rw [hgs] at hX
  have hin : T.sem.ready aI = 0 → 0 ≤ aI ∧ aI < T.stands.length := fun h => by
    unfold St.ready bI.sem at h
    dsimp only at h
    split at h
    · cases h
    · split at h
      · cases h
      · omega
  refine Does.enter Tryz.func26 rfl Tryz.ntmps26 rfl ?_
  simp only [aJ, Nat.reduceAdd]
  refine WC.sr (WL.sg rfl rfl (WL.sg rfl rfl (WL.sg rfl rfl (WL.nil (WC.seq (WC.sr (WL.mv rfl rfl (WL.mv rfl rfl ?_))))))))
  refine WL.sub (Sub.refl _) (fun w h => h.sel 3 [2, 0, 1] rfl) ?_
  refine WL.call (vs := [_, _]) Tryz.call61 ⟨OV.p rfl, OV.p rfl, trivial⟩ (nX aI) rfl ?_
  rintro _ _ ⟨rfl, rfl⟩
  refine WL.sub (Sub.refl _) (fun w h => h.sel 3 [1, 2, 0] rfl) ?_
  refine WL.sg rfl rfl (WL.nil (WC.sr (WL.mv rfl rfl (WL.val (V.neq (OV.p rfl) (OV.p rfl)) rfl (WL.nil ?_)))))
  refine WC.cond rfl (fun hc0 => ?_) (fun hc0 => ?_)
  ·simp only [Bool.not_eq_true', Bool.not_eq_false', decide_eq_true_eq, decide_eq_false_iff_not] at hc0
   have h0 := hc0
   rw [if_pos h0] at hX
   refine WC.sr (WL.mv rfl rfl (WL.sg rfl rfl (WL.sg rfl rfl (WL.sg rfl rfl (WL.nil (WC.ret ?_))))))
   subst hX
   exact aj.ret (H' := bC (.slice none 0 0) 5 1 0 [] :: C.A bc :: bQ bd bc g :: T.A bs bd g :: F) (aL.vD rfl rfl rfl rfl) (fun w h => Sat.iA h _ _) ⟨none, 0, T, hT, rfl, rfl, rfl⟩
  ·simp only [Bool.not_eq_true', Bool.not_eq_false', decide_eq_true_eq, decide_eq_false_iff_not] at hc0
   have h0 := hc0
   have hr0 : T.sem.ready aI = 0 := by omega
   rw [if_neg (fun h => h hr0)] at hX
   have hinl := hin hr0
   obtain ⟨b, hb⟩ : ∃ b, b = T.sem.at' aI := ⟨_, rfl⟩
   rw [← hb] at hX
   have hrs : ∀ {X Y : au}, Rd K (X :: Y :: T.A bs bd g :: F) (T.sA.map (·.add (aI.toNat * 1))) (.int .i64 b) := fun {X Y} => by rw [hb]; exact Rd.up (Rd.up (bI.OW hinl))
   refine WC.skip (WC.sr (WL.mv rfl rfl (WL.nc rfl rfl (WL.val (V.fieldAddr jA (OV.p rfl)) rfl ?_))))
   refine WL.val (V.load Tryz.isAgg124 (OV.p rfl) (fun _ => Rd.up (Rd.up (bI.sJ 6 _ rfl)))) rfl ?_
   refine WL.mv rfl rfl ?_
   refine WL.val (V.fu bO (OV.p rfl) (OV.p rfl) (fun _ => hinl) (fun _ => hrs)) rfl ?_
   refine WL.val (V.load Tryz.isAgg3 (OV.p rfl) (fun _ => hrs)) rfl ?_
   refine WL.sg rfl rfl (WL.nil (WC.seq (WC.sr (WL.mv rfl rfl (WL.val (V.lss (OV.p rfl) (OV.p rfl)) rfl (WL.nil ?_))))))
   refine WC.cond rfl (fun hc1 => ?_) (fun hc1 => ?_)
   ·simp only [decide_eq_true_eq, decide_eq_false_iff_not] at hc1
    have h1 := hc1
    rw [if_pos h1] at hX
    refine WC.sr (WL.sg rfl rfl (WL.sg rfl rfl (WL.sg rfl rfl (WL.nil (WC.ret ?_)))))
    subst hX
    exact aj.ret (H' := bC (.slice none 0 0) 5 1 0 [] :: C.A bc :: bQ bd bc g :: T.A bs bd g :: F) (aL.vD rfl rfl rfl rfl) (fun w h => Sat.iA h _ _) ⟨none, 0, T, hT, rfl, rfl, rfl⟩
   ·simp only [decide_eq_true_eq, decide_eq_false_iff_not] at hc1
    have h1 := hc1
    rw [if_neg h1] at hX
    refine WC.skip (WC.sr (WL.mv rfl rfl (WL.nc rfl rfl (WL.val (V.fieldAddr qy (OV.p rfl)) rfl ?_))))
    refine WL.val (V.load Tryz.isAgg70 (OV.p rfl) (fun _ => Rd.up (Rd.up (bI.sJ 0 _ rfl)))) rfl ?_
    refine WL.mv rfl rfl (WL.call (vs := [_, _, _]) Tryz.call90 ⟨OV.p rfl, OV.p rfl, OV.p rfl, trivial⟩ (nW hC hg b 0) rfl ?_)
    rintro _ _ ⟨Ad, cd, rfl, rfl⟩
    obtain ⟨G, hG⟩ : ∃ G, G = C.sem.bB b 0 := ⟨_, rfl⟩
    have Ov := hC.kU b 0
    rw [← hG] at Ov hX ⊢
    refine WL.mv rfl rfl (WL.xt rfl rfl rfl (WL.xt rfl rfl rfl (WL.xt rfl rfl rfl (WL.sg rfl rfl (WL.sg rfl rfl (WL.sg rfl rfl (WL.nil (WC.seq (WC.sr (WL.mv rfl rfl (WL.val (V.neq (OV.p rfl) (OV.p rfl)) rfl (WL.nil ?_))))))))))))
    refine WC.cond rfl (fun hc2 => ?_) (fun hc2 => ?_)
    ·simp only [Bool.not_eq_true', Bool.not_eq_false', decide_eq_true_eq, decide_eq_false_iff_not] at hc2
     have h2 := hc2
     rw [if_pos h2] at hX
     refine WC.sr (WL.mv rfl rfl (WL.mv rfl rfl ?_))
     refine WL.sub (Sub.refl _) (fun w h => h.sel 4 [3, 1, 2] rfl) ?_
     refine WL.call (vs := [_, _]) Tryz.call65 ⟨OV.p rfl, OV.p rfl, trivial⟩ (nD G.err) rfl ?_
     rintro _ _ ⟨rfl, rfl⟩
     refine WL.sg rfl rfl (WL.sg rfl rfl (WL.sg rfl rfl (WL.nil (WC.ret ?_))))
     subst hX
     exact aj.ret (H' := bC (.slice none 0 0) 5 1 0 [] :: C.A bc :: bQ bd bc g :: (T.told G.err).A bs bd g :: F) (aL.vD rfl rfl rfl rfl) (fun w h => Sat.iA (h.sel 3 [1, 2, 0] rfl) _ _) ⟨none, 0, T.told G.err, hT.told _, rfl, rfl, rfl⟩
    ·simp only [Bool.not_eq_true', Bool.not_eq_false', decide_eq_true_eq, decide_eq_false_iff_not] at hc2
     have h2 := hc2
     rw [if_neg (fun h => h (by omega))] at hX
     obtain ⟨pe, hpe⟩ : ∃ pe, pe = gX g G.d := ⟨_, rfl⟩
     obtain ⟨ph, MU⟩ : ∃ ph, ph = eZ g G.d := ⟨_, rfl⟩
     rw [← hpe, ← MU] at hX
     refine WC.skip (WC.sr (WL.mv rfl rfl (WL.nc rfl rfl (WL.val (V.fieldAddr jw (OV.p rfl)) rfl ?_))))
     refine WL.val (V.aU (vs := [.int .i64 g.bl, .int .i64 g.pg, .int .i64 g.se, .int .i64 g.sb, .int .i64 g.fl]) ⟨Tryz.isAgg23, Tryz.sizeOf23⟩ (OV.p rfl) rfl (fun _ => aT.up (aT.up (aT.up bI.OP)))) rfl ?_
     refine WL.mv rfl rfl ?_
     refine WL.call (vs := [_, _]) Tryz.call91 ⟨OV.p rfl, OV.p rfl, trivial⟩ (aG.eq (v' := .tuple #[ph.v, .int .i64 pe]) (zD (d := G.d) hgm (bC.seq (by rw [aH, Nat.mul_one])) Ov.1 (by omega)) (by rw [MU, hpe])) rfl ?_
     rintro _ H0 ⟨rfl, h0⟩
     subst H0
     refine WL.mv rfl rfl (WL.xt rfl rfl rfl (WL.xt rfl rfl rfl ?_))
     refine WL.alloc (cs := [(.int .i64 0), (.int .i64 0), (.int .i64 0)]) Tryz.zeroValue157 rfl rfl (fun b12 => ?_)
     refine WL.store (cs := [_, _, _]) Tryz.sizeOf157 (OV.p rfl) (OV.p rfl) rfl rfl rfl (by repeat (first | exact aQ.here (cs' := [_, _, _]) rfl rfl | apply aQ.up)) ?_
     refine WL.sg rfl rfl (WL.nil (WC.seq (WC.sr (WL.mv rfl rfl (WL.val (V.neq (OV.p rfl) (OV.p rfl)) rfl (WL.nil ?_))))))
     refine WC.cond rfl (fun hc3 => ?_) (fun hc3 => ?_)
     ·simp only [Bool.not_eq_true', Bool.not_eq_false', decide_eq_true_eq, decide_eq_false_iff_not] at hc3
      have h3 := hc3
      rw [if_pos h3] at hX
      refine WC.sr (WL.mv rfl rfl (WL.sg rfl rfl (WL.sg rfl rfl (WL.sg rfl rfl (WL.nil (WC.ret ?_))))))
      subst hX
      exact aj.ret (H' := bC (.slice none 0 0) 5 1 0 [] :: C.A bc :: bQ bd bc g :: T.A bs bd g :: F) (aL.vD rfl rfl rfl rfl) (fun w h => Sat.iA (h.sel 5 [2, 3, 4] rfl) _ _) ⟨none, 0, T, hT, rfl, rfl, rfl⟩
     ·simp only [Bool.not_eq_true', Bool.not_eq_false', decide_eq_true_eq, decide_eq_false_iff_not] at hc3
      have h3 := hc3
      have hp0 : pe = 0 := by omega
      rw [if_neg (fun h => h hp0)] at hX
      have CX : ph.may g = true := by rw [MU]; exact (EF hgm (by rw [← hpe]; exact hp0)).1
      have hmb := CX
      unfold Hd.may at hmb
      simp only [Bool.and_eq_true, decide_eq_true_eq] at hmb
      have hfit := hmb.1.1.1.1
      have MK := hfit
      unfold Geo.fits at MK
      simp only [Bool.and_eq_true, decide_eq_true_eq] at MK
      have hcb := Geo.rC hgm
      have hpf := Geo.Au hgm hfit
      obtain ⟨N, hN⟩ : ∃ N : Nat, g.aW ph.len = (N : Int) := ⟨(g.aW ph.len).toNat, by omega⟩
      rw [hN, Int.toNat_natCast] at hX
      rw [hN] at hpf
      obtain ⟨ln, hln⟩ : ∃ ln : Nat, ph.len = (ln : Int) := ⟨ph.len.toNat, by omega⟩
      refine WC.skip (WC.sr (WL.sg rfl rfl (WL.nil (WC.seq ?_))))
      refine WC.fK (by kernel_rfl) (by kernel_rfl) ?_
      refine WQ.val (V.move (OV.p rfl)) rfl (WQ.val (V.nilCheck (OV.p rfl)) rfl (WQ.val (V.fieldAddr jw (OV.p rfl)) rfl ?_))
      refine WQ.val (V.aU (vs := [.int .i64 g.bl, .int .i64 g.pg, .int .i64 g.se, .int .i64 g.sb, .int .i64 g.fl]) ⟨Tryz.isAgg23, Tryz.sizeOf23⟩ (OV.p rfl) rfl (fun _ => by repeat (first | exact bI.OP | apply aT.up))) rfl ?_
      refine WQ.val (V.fieldAddr tJ (OV.p rfl)) rfl ?_
      refine WQ.val (V.load Tryz.isAgg3 (OV.p rfl) (fun _ => by repeat (first | exact Rd.here rfl | apply Rd.up))) rfl ?_
      refine WQ.call (vs := [_, _]) Tryz.call92 ⟨OV.p rfl, OV.p rfl, trivial⟩ (aG.eq (v' := .tuple #[.int .i64 (N : Int), .int .i64 0]) (rZ hgm (by omega)) (by rw [hfit, hN]; rfl)) rfl ?_
      refine WQ.val (V.move (OV.p rfl)) rfl (WQ.val (V.extract (OV.p rfl) rfl) rfl (WQ.val (V.extract (OV.p rfl) rfl) rfl (WQ.val (V.assign (OV.p rfl)) rfl (WQ.val (V.assign (OV.p rfl)) rfl (WQ.nil (WC.seq (WC.seq ?_)))))))
      refine WC.sub (H' := C.A bc :: bQ bd bc g :: T.A bs bd g :: bC (.slice none 0 0) 5 1 0 [] :: Cells b12 157 [.int .i64 ph.aI, .int .i64 ph.len, .int .i64 ph.num] :: F) (Sub.refl _) (fun w h => (Sat.iA (h.sel 5 [0, 2, 3, 4] rfl) 5 1).sel 5 [2, 3, 4, 0, 1] rfl) ?_
      have hsz : ∀ k, k ≤ N → (eD C.sem b G.n k).err = 0 → (eD C.sem b G.n k).d.length = k * g.room.toNat := fun k => by
        induction k with
        | zero => intro _ _; show ([] : List Nat).length = _; simp
        | succ k ih =>
          intro hk he
          rw [eD] at he ⊢
          split at he
          · rename_i h; exact absurd he h
          · rename_i h
            rw [if_neg h]
            split at he
            · rename_i h'; exact absurd he h'
            · rename_i h'
              rw [if_neg h']
              have h4 := hC.FN (b := b) (p := 1 + (k : Int)) (by omega)
              show ((eD C.sem b G.n k).d ++ (C.sem.bB b (1 + (k : Int))).d).length = _
              rw [List.length_append, ih (by omega) (by omega), h4, hg, Nat.succ_mul]
      refine WC.region (WL.mv rfl rfl (WL.mv rfl rfl (WL.nil (WC.block ?_))))
      refine WC.loop (σ := Nat × Option Addr × Nat) (fun s => [(0, ptr bs 0), (8, .int .i64 b), (10, .int .i64 ((eD C.sem b G.n s.1).n : Nat)), (12, ptr b12 0), (13, .slice s.2.1 (eD C.sem b G.n s.1).d.length s.2.2), (72, .int .i64 (N : Int)), (73, .int .i64 (s.1 : Int))]) (fun s => C.A bc :: bQ bd bc g :: T.A bs bd g :: bC (.slice s.2.1 (eD C.sem b G.n s.1).d.length s.2.2) 5 1 (eD C.sem b G.n s.1).d.length (aB .u8 (eD C.sem b G.n s.1).d) :: Cells b12 157 [.int .i64 ph.aI, .int .i64 ph.len, .int .i64 ph.num] :: F) (fun s => s.1 ≤ N ∧ (eD C.sem b G.n s.1).err = 0) (fun s => N - s.1) (0, none, 0) ⟨Nat.zero_le _, rfl⟩ (.cons rfl (.cons rfl (.cons rfl (.cons rfl (.cons rfl (.cons rfl (.cons rfl (.nil _)))))))) (fun w h => h) ?_
      rintro ⟨k, Ao, co⟩ ⟨hk, hke⟩
      dsimp only at hk hke ⊢
      obtain ⟨r, hr⟩ : ∃ r, r = eD C.sem b G.n k := ⟨_, rfl⟩
      have hrl := hsz k hk hke
      rw [← hr] at hke hrl ⊢
      have hkN : k * g.room.toNat ≤ 63 * 4096 := Nat.mul_le_mul (by omega) (by omega)
      refine WC.sr (WL.val (V.lss (OV.p rfl) (OV.p rfl)) rfl (WL.nil (WC.seq ?_)))
      refine WC.cond rfl (fun hc4 => ?_) (fun hc4 => ?_)
      ·simp only [decide_eq_true_eq, decide_eq_false_iff_not] at hc4
       have hkl : k < N := by omega
       have hst : eD C.sem b G.n (k + 1) = if (C.sem.bB b (1 + (k : Int))).err ≠ 0 then ⟨(C.sem.bB b (1 + (k : Int))).err, [], 0⟩ else ⟨0, r.d ++ (C.sem.bB b (1 + (k : Int))).d, max r.n (C.sem.bB b (1 + (k : Int))).n⟩ := by rw [eD, ← hr, if_neg (fun h => h hke)]
       refine WC.skip (WC.seq (WC.block (WC.sr (WL.mv rfl rfl (WL.sg rfl rfl (WL.nil (WC.sr (WL.mv rfl rfl (WL.nc rfl rfl (WL.val (V.fieldAddr qy (OV.p rfl)) rfl ?_))))))))))
       refine WL.val (V.load Tryz.isAgg70 (OV.p rfl) (fun _ => Rd.up (Rd.up (bI.sJ 0 _ rfl)))) rfl ?_
       refine WL.mv rfl rfl (WL.mv rfl rfl (WL.ad rfl rfl rfl ?_))
       refine WL.call (vs := [_, _, _]) Tryz.call90 ⟨OV.p rfl, OV.p rfl, OV.p rfl, trivial⟩ (nW hC hg b (1 + (k : Int))) rfl ?_
       rintro _ _ ⟨A2, c2, rfl, rfl⟩
       have Qp := hC.kU b (1 + (k : Int))
       obtain ⟨G2, hG2⟩ : ∃ G2, G2 = C.sem.bB b (1 + (k : Int)) := ⟨_, rfl⟩
       rw [← hG2] at hst Qp ⊢
       refine WL.mv rfl rfl (WL.xt rfl rfl rfl (WL.xt rfl rfl rfl (WL.xt rfl rfl rfl (WL.sg rfl rfl (WL.sg rfl rfl (WL.sg rfl rfl (WL.nil (WC.seq (WC.sr (WL.mv rfl rfl (WL.val (V.neq (OV.p rfl) (OV.p rfl)) rfl (WL.nil ?_))))))))))))
       refine WC.cond rfl (fun pI => ?_) (fun pI => ?_)
       ·simp only [Bool.not_eq_true', Bool.not_eq_false', decide_eq_true_eq, decide_eq_false_iff_not] at pI
        have h5 := pI
        rw [if_pos h5] at hst
        have hNe : eD C.sem b G.n N = ⟨G2.err, [], 0⟩ := by
          have := AV (S := C.sem) (b := b) (n0 := G.n) (k := k + 1) (by rw [hst]; exact h5) (N - (k + 1))
          rw [show k + 1 + (N - (k + 1)) = N by omega, hst] at this
          exact this
        rw [hNe, if_pos h5] at hX
        refine WC.sr (WL.mv rfl rfl (WL.mv rfl rfl ?_))
        refine WL.sub (Sub.refl _) (fun w h => h.sel 6 [3, 1, 2] rfl) ?_
        refine WL.call (vs := [_, _]) Tryz.call65 ⟨OV.p rfl, OV.p rfl, trivial⟩ (nD G2.err) rfl ?_
        rintro _ _ ⟨rfl, rfl⟩
        refine WL.sg rfl rfl (WL.sg rfl rfl (WL.sg rfl rfl (WL.nil (WC.ret ?_))))
        subst hX
        exact aj.ret (H' := bC (.slice none 0 0) 5 1 0 [] :: C.A bc :: bQ bd bc g :: (T.told G2.err).A bs bd g :: F) (aL.vD rfl rfl rfl rfl) (fun w h => Sat.iA (h.sel 3 [1, 2, 0] rfl) _ _) ⟨none, 0, T.told G2.err, hT.told _, rfl, rfl, rfl⟩
       ·simp only [Bool.not_eq_true', Bool.not_eq_false', decide_eq_true_eq, decide_eq_false_iff_not] at pI
        have h5 := pI
        rw [if_neg (fun h => h (by omega))] at hst
        refine WC.skip (WC.sr (WL.mv rfl rfl (WL.mv rfl rfl ?_)))
        refine WL.sub (Sub.refl _) (fun w h => h.sel 5 [4, 0, 1, 2, 3] rfl) ?_
        refine WL.append (m := r.d.length) (q := G2.d.length) (news := aB .u8 G2.d) Tryz.underlying34 vP (OV.p rfl) (OV.p rfl) (bC.seq (by rw [aH, Nat.mul_one])) (o9 .u8 G2.d) (by omega) rfl rfl (fun A5 c5 KM pI => ?_)
        refine WL.sg rfl rfl (WL.nil (WC.region (WL.mv rfl rfl (WL.mv rfl rfl (WL.val (V.max (OV.p rfl) (OV.p rfl)) rfl (WL.sg rfl rfl (WL.nil (WC.region (WL.ad rfl rfl rfl ?_)))))))))
        refine WL.mv rfl rfl (WL.nil ?_)
        refine ⟨rfl, ?_⟩
        refine ⟨(k + 1, A5, c5), ⟨hkl, by rw [hst]⟩, (by show N - (k + 1) < N - k; omega), .cons rfl (.cons rfl (.cons (look_eq rfl (by dsimp only; rw [hst]; dsimp only; refine congrArg (Value.int .i64) ?_; omega)) (.cons rfl (.cons (look_eq rfl (by dsimp only; rw [hst]; dsimp only; rw [List.length_append])) (.cons rfl (.cons (look_eq rfl (by simp)) (.nil _))))))), fun w h => ?_⟩
        dsimp only
        rw [hst]
        dsimp only
        rw [List.length_append, dx]
        exact h.sel 6 [2, 3, 4, 0, 5] rfl
      ·simp only [decide_eq_true_eq, decide_eq_false_iff_not] at hc4
       refine WC.exit (WC.seq ?_)
       obtain rfl : k = N := by omega
       rw [← hr, if_neg (fun h => h hke)] at hX
       have hlr : ln ≤ r.d.length := by
         have h6 := hpf.2.2.1
         rw [hln] at h6
         have h7 : ((k * g.room.toNat : Nat) : Int) = (k : Int) * g.room := by rw [Int.natCast_mul]; congr 1; omega
         omega
       have QV : X.1.d = r.d.take ln := by rw [hX, hln]; rfl
       have Qy : X.1.d.length = ln := by rw [QV, List.length_take]; omega
       refine WC.have_ (p := r.d.length ≤ co) (fun w h => by
         have h9 := h.sel 4 [3] rfl
         obtain ⟨_, cap', hv, hle, _⟩ := bC.shape h9.head
         injection hv with _ _ e3
         rw [e3]; exact hle) (fun hrc => ?_)
       refine WC.region (WL.mv rfl rfl (WL.val (V.fieldAddr tJ (OV.p rfl)) rfl (WL.ld Tryz.isAgg3 rfl rfl ?_)))
       refine WL.val (V.aA (v' := .slice Ao ln co) (V.slice (l := 0) (h := ln) (u := co) dB (OV.p rfl) OO.none (OO.some (OV.p rfl) (fun _ => hln)) OO.none (by simp) (Nat.zero_le _) (by omega) (Nat.le_refl _)) (fun _ => by rw [Nat.sub_zero, Nat.sub_zero, Ic])) rfl ?_
       refine WL.mv rfl rfl (WL.sg rfl rfl (WL.sg rfl rfl (WL.sg rfl rfl (WL.nil (WC.ret ?_)))))
       refine aj.ret (H' := bC (.slice Ao X.1.d.length co) 5 1 X.1.d.length (aB .u8 X.1.d) :: C.A bc :: bQ bd bc g :: T.A bs bd g :: F) (aL.vD rfl rfl rfl rfl) (fun w h => ?_) ⟨Ao, co, T, hT, by rw [hX], by rw [Qy, hX], rfl⟩
       have h9 := LZ hlr w (h.sel 5 [3, 0, 1, 2] rfl)
       rw [fZ, ← QV] at h9
       rw [Qy]
       exact h9
end
def Ji (b : Int) (xs : List Int) : Int := if b ∈ xs then (xs.idxOf b : Int) else -1
theorem Nb {b : Int} {xs : List Int} {i : Nat} (h : i < xs.length) (hp : b ∉ xs.take i) (he : b = xs.getD i 0) : Ji b xs = (i : Int) := by
  have hget : xs.getD i 0 = xs[i] := by simp [List.getD, h]
  rw [hget] at he
  have hx : xs = xs.take i ++ b :: xs.drop (i + 1) := by
    rw [he, ← List.drop_eq_getElem_cons h, List.take_append_drop]
  have hb : b ∈ xs := by rw [he]; exact List.getElem_mem _
  unfold Ji
  rw [if_pos hb]
  have : xs.idxOf b = i := by
    rw [hx, List.idxOf_append, if_neg hp, List.idxOf_cons_self, List.length_take]; omega
  rw [this]
theorem Kl {b : Int} {xs : List Int} : decide (Ji b xs ≥ 0) = decide (b ∈ xs) := by
  unfold Ji
  by_cases h : b ∈ xs
  · rw [if_pos h]; simp [h]
  · rw [if_neg h]; simp [h]
section
variable {K : World} {F : List au}
theorem Fw {A : Option Addr} {m cap : Nat} {xs : List Int} (hs : Seq K F A m 1 (ints .i64 xs)) (hm : m ≤ 1000000) (b : Int) :
    aG Tryz.prog 187 #[.slice A m cap, .int .i64 b] K F (.int .i64 (Ji b xs)) := by
  have hl : xs.length = m := by simpa [ints] using hs.len
  refine Does.enter Tryz.func187 rfl Tryz.ntmps187 rfl ?_
  simp only [aJ, Nat.reduceAdd]
  refine WC.sr (WL.sg rfl rfl (WL.nil (WC.seq (WC.sr (WL.mv rfl rfl (WL.val (V.len (t := 124) Tryz.runUnderlying124 (OV.p rfl)) rfl (WL.mv rfl rfl (WL.nil (WC.block ?_)))))))))
  refine WC.loop (σ := Nat) (fun i => [(0, .slice A m cap), (1, .int .i64 b), (7, .int .i64 (m : Int)), (8, .int .i64 (i : Int))]) (fun i => F) (fun i => i ≤ m ∧ b ∉ xs.take i) (fun i => m - i) 0 ⟨Nat.zero_le _, by simp⟩ (.cons rfl (.cons rfl (.cons rfl (.cons rfl (.nil _))))) (fun w h => h) ?_
  rintro i ⟨hi, hp⟩
  refine WC.sr (WL.val (V.lss (OV.p rfl) (OV.p rfl)) rfl (WL.nil (WC.seq ?_)))
  refine WC.cond rfl (fun hc0 => ?_) (fun hc0 => ?_)
  ·simp only [decide_eq_true_eq, decide_eq_false_iff_not] at hc0
   have him : i < m := by omega
   have hti : (i : Int).toNat = i := by omega
   have hget : xs.getD i 0 = xs[i]'(by omega) := by simp [List.getD, show i < xs.length by omega]
   refine WC.skip (WC.seq (WC.block (WC.sr (WL.mv rfl rfl (WL.sg rfl rfl (WL.nil (WC.sr (WL.mv rfl rfl (WL.mv rfl rfl (WL.mv rfl rfl ?_))))))))))
   refine WL.val (V.fu bO (OV.p rfl) (OV.p rfl) (fun hc => by omega) (fun hc => Seq.fB hs (by omega))) rfl ?_
   refine WL.val (V.load Tryz.isAgg3 (OV.p rfl) (fun hc => Seq.fB hs (by omega))) rfl ?_
   refine WL.val (V.eql (OV.p rfl) (OV.p rfl)) rfl (WL.nil ?_)
   refine WC.cond rfl (fun hc1 => ?_) (fun hc1 => ?_)
   ·simp only [decide_eq_true_eq, decide_eq_false_iff_not, hti] at hc1
    have h1 := hc1
    refine WC.sr (WL.mv rfl rfl (WL.sg rfl rfl (WL.nil (WC.ret ?_))))
    exact aj.ret (H' := F) (aL.tmp rfl rfl) (fun w h => h) ⟨by rw [Nb (by omega) hp h1], rfl⟩
   ·simp only [decide_eq_true_eq, decide_eq_false_iff_not, hti] at hc1
    have h1 := hc1
    refine WC.skip (WC.region (WL.ad rfl rfl rfl ?_))
    refine WL.mv rfl rfl (WL.nil ?_)
    refine ⟨rfl, ?_⟩
    refine ⟨i + 1, ⟨by show i + 1 ≤ m; omega, ?_⟩, (by show m - (i + 1) < m - i; omega), .cons rfl (.cons rfl (.cons rfl (.cons (look_eq rfl (by simp)) (.nil _)))), fun w h => h⟩
    rw [List.take_add_one, List.getElem?_eq_getElem (by omega), ← hget]
    simp only [Option.toList, List.mem_append, List.mem_singleton]
    rintro (h | h)
    · exact hp h
    · exact h1 h
  ·simp only [decide_eq_true_eq, decide_eq_false_iff_not] at hc0
   refine WC.exit (WC.sr (WL.sg rfl rfl (WL.nil (WC.ret ?_))))
   obtain rfl : i = m := by omega
   rw [List.take_of_length_le (by omega)] at hp
   exact aj.ret (H' := F) (aL.tmp rfl rfl) (fun w h => h) ⟨by unfold Ji; rw [if_neg hp], rfl⟩
theorem qP {A : Option Addr} {m cap : Nat} {xs : List Int} (hs : Seq K F A m 1 (ints .i64 xs)) (hm : m ≤ 1000000) (b : Int) :
    aG Tryz.prog 119 #[.slice A m cap, .int .i64 b] K F (.bool (decide (b ∈ xs))) := by
  refine Does.enter Tryz.func119 rfl Tryz.ntmps119 rfl ?_
  simp only [aJ, Nat.reduceAdd]
  refine WC.sr (WL.sg rfl rfl (WL.nil (WC.sr (WL.mv rfl rfl (WL.mv rfl rfl (WL.call (vs := [_, _]) Tryz.call187 ⟨OV.p rfl, OV.p rfl, trivial⟩ (Fw hs hm b) rfl ?_))))))
  rintro _ H0 ⟨rfl, h0⟩
  subst H0
  refine WL.val (V.geq (OV.p rfl) (OV.p rfl)) rfl (WL.sg rfl rfl (WL.nil (WC.ret ?_)))
  exact aj.ret (H' := F) (aL.tmp rfl rfl) (fun w h => h) ⟨by rw [Kl], rfl⟩
theorem Iy {b3 : Nat} {b : Int} (hb : Rd K F (some ⟨b3, 0, none⟩) (.int .i64 b)) (x : Int) : aG Tryz.prog 121 ([Value.int .i64 x] ++ [ptr b3 0]).toArray K F (.bool (decide (x = b))) := by
  simp only [List.cons_append, List.nil_append]
  refine Does.enter Tryz.func121 rfl Tryz.ntmps121 rfl ?_
  simp only [aJ, Nat.reduceAdd]
  refine WC.sr (WL.sg rfl rfl (WL.nil (WC.sr (WL.mv rfl rfl ?_))))
  refine WL.val (V.load Tryz.isAgg3 (OV.p rfl) (fun hc => hb)) rfl ?_
  refine WL.val (V.eql (OV.p rfl) (OV.p rfl)) rfl (WL.sg rfl rfl (WL.nil (WC.ret ?_)))
  exact aj.ret (H' := F) (aL.tmp rfl rfl) (fun w h => h) ⟨rfl, rfl⟩
end
def dR (b : Int) (l : List Int) : List Int := l.filter fun x => !decide (x = b)
def St.forget (T : St) (b : Int) : St := { T with stale := T.stale.map (dR b) }
section
variable {bs bd bc : Nat} {g : Geo} {T : bI} {C : Cw} {K : World} {F : List au}
theorem Cc (hT : T.Ok g) (b : Int) : Does Tryz.prog 63 #[ptr bs 0, .int .i64 b] K (T.A bs bd g :: F)
    (fun v H' => ∃ T' : bI, T'.Ok g ∧ T'.sem = T.sem.forget b ∧ H' = T'.A bs bd g :: F) := by
  have Rh : T.dD.length ≤ 64 := by rw [hT.len]; exact hT.av.2
  refine Does.MQ ?_
  dsimp only [bI.parts, List.cons_append, List.nil_append]
  refine Does.enter Tryz.func63 rfl Tryz.ntmps63 rfl ?_
  simp only [aJ, Nat.reduceAdd]
  refine WC.sr ?_
  refine WL.box (cs := [_]) (OV.p rfl) rfl rfl (fun b3 => ?_)
  refine WL.nil (WC.sr (WL.mv rfl rfl (WL.nc rfl rfl (WL.val (V.fieldAddr uh (OV.p rfl)) rfl (WL.ld Tryz.isAgg125 rfl rfl ?_)))))
  refine WL.val (V.len (t := 125) Tryz.runUnderlying125 (OV.p rfl)) rfl (WL.mv rfl rfl (WL.nil (WC.block ?_)))
  refine WC.loop (σ := Nat × List bg) (fun s => [(0, ptr bs 0), (3, ptr b3 0), (9, .slice (some ⟨T.b8, 0, none⟩) T.dD.length T.dD.length), (10, .int .i64 (T.dD.length : Int)), (11, .int .i64 (s.1 : Int))]) (fun s => Cells T.b8 124 (s.2.map bg.v) :: bH (s.2.map bg.row) :: Cells b3 3 [.int .i64 b] :: Cells bs 127 (T.cells bd g) :: T.sl :: F) (fun s => s.1 ≤ T.dD.length ∧ s.2.length = T.dD.length ∧ s.2.map bg.l = (T.dD.take s.1).map (fun r => dR b r.l) ++ (T.dD.drop s.1).map bg.l) (fun s => T.dD.length - s.1) (0, T.dD) ⟨Nat.zero_le _, rfl, by simp⟩ (.cons rfl (.cons rfl (.cons rfl (.cons rfl (.cons rfl (.nil _)))))) (fun w h => h.sel 5 [3, 4, 0, 1, 2] rfl) ?_
  rintro ⟨j, dD⟩ ⟨hj, hil, his⟩
  dsimp only at hj hil his ⊢
  have hcl : (T.cells bd g)[7]? = some (.slice (some ⟨T.b8, 0, none⟩) T.dD.length T.dD.length) := rfl
  refine WC.sr (WL.val (V.lss (OV.p rfl) (OV.p rfl)) rfl (WL.nil (WC.seq ?_)))
  refine WC.cond rfl (fun hc0 => ?_) (fun hc0 => ?_)
  ·simp only [decide_eq_true_eq, decide_eq_false_iff_not] at hc0
   have hjn : j < T.dD.length := by omega
   obtain ⟨r, hr⟩ : ∃ r, r = dD[j]'(by omega) := ⟨_, rfl⟩
   have hrg : dD[j]? = some r := by rw [hr]; exact List.getElem?_eq_getElem (by omega)
   have Li : (dD.map bg.v)[0 + ((j : Nat) : Int).toNat * 1]? = some r.v := by rw [show 0 + ((j : Nat) : Int).toNat * 1 = j by omega, List.getElem?_map, hrg]; rfl
   have hrow : (dD.map bg.row)[j]'(by rw [List.length_map]; omega) = r.row := by rw [List.getElem_map, hr]
   have hrl : r.l = (T.dD[j]'(by omega)).l := by
     have h1 : (dD.map bg.l)[j]? = some r.l := by rw [List.getElem?_map, hrg]; rfl
     rw [his, List.getElem?_append_right (by rw [List.length_map, List.length_take]; omega), List.length_map, List.length_take, show j - min j T.dD.length = 0 by omega, List.getElem?_map, List.getElem?_drop, Nat.add_zero, List.getElem?_eq_getElem (by omega)] at h1
     injection h1 with h1
     exact h1.symm
   refine WC.skip (WC.seq (WC.block (WC.sr (WL.mv rfl rfl ?_))))
   refine WL.val (V.bP sQ (OV.p rfl) (OV.p rfl) (fun hc => by omega)) rfl ?_
   refine WL.val (V.load Tryz.isAgg124 (OV.p rfl) (fun _ => Rd.here Li)) rfl ?_
   refine WL.sg rfl rfl (WL.sg rfl rfl (WL.nil ?_))
   refine WC.sub (H' := bC (.slice r.A r.l.length r.c) 3 1 r.l.length (ints .i64 r.l) :: Cells T.b8 124 (dD.map bg.v) :: bH ((dD.map bg.row).eraseIdx j) :: Cells b3 3 [.int .i64 b] :: Cells bs 127 (T.cells bd g) :: T.sl :: F) (Sub.refl _) (fun w h => by
     have h4 := Sat.takeA (k := j) (by rw [List.length_map]; omega) (h.sel 2 [1, 0] rfl)
     rw [hrow] at h4
     exact h4.sel 3 [0, 2, 1] rfl) ?_
   refine WC.dY (bH ((dD.map bg.row).eraseIdx j) :: Cells b3 3 [.int .i64 b] :: Cells bs 127 (T.cells bd g) :: T.sl :: F) (by kernel_rfl) ?_
   refine WA.t 0 rfl (V.move (OV.p rfl)) (WA.t 1 rfl (V.nilCheck (OV.p rfl)) (WA.t 2 rfl (V.fieldAddr uh (OV.p rfl)) ?_))
   refine WA.t 3 rfl (V.load Tryz.isAgg125 (OV.p rfl) (fun _ => by repeat (first | exact Rd.here hcl | apply Rd.up))) ?_
   refine WA.t 4 rfl (V.move (OV.p rfl)) (WA.t 5 rfl (V.move (OV.p rfl)) (WA.t 6 rfl (V.makeFunc (us := []) (vs := [_]) trivial ⟨OV.p rfl, trivial⟩) (WA.o 7 rfl ?_)))
   refine WL.call (vs := [_, _]) Tryz.call120 ⟨OV.p rfl, OV.p rfl, trivial⟩ (FC (xs := r.l) (p := fun x => decide (x = b)) (zZ := [ptr b3 0]) Tryz.call121 (fun x _ X => Iy (by repeat (first | exact Rd.here rfl | apply Rd.up)) x)) rfl ?_
   rintro _ _ ⟨q, hq, rfl, rfl⟩
   refine WL.nil ?_
   refine WA.t 8 rfl (V.bP sQ (OV.p rfl) (OV.p rfl) (fun hc => by omega)) ?_
   refine WA.o 9 rfl ?_
   refine WL.store (cs := [_]) Tryz.sizeOf124 (OV.p rfl) (OV.p rfl) rfl rfl rfl (aQ.up (aQ.at_ (by rw [List.length_map]; omega))) ?_
   refine WL.nil (WA.fin (WC.region (WL.ad rfl rfl rfl ?_)))
   refine WL.mv rfl rfl (WL.nil ?_)
   refine ⟨rfl, ?_⟩
   refine ⟨(j + 1, dD.set j ⟨r.A, r.c, dR b r.l⟩), ⟨hjn, by show (dD.set _ _).length = T.dD.length; rw [List.length_set]; exact hil, ?_⟩, (by show T.dD.length - (j + 1) < T.dD.length - j; omega), .cons rfl (.cons rfl (.cons rfl (.cons rfl (.cons (look_eq rfl (by simp)) (.nil _))))), fun w h => ?_⟩
   · show (dD.set j _).map bg.l = (T.dD.take (j + 1)).map (fun r => dR b r.l) ++ (T.dD.drop (j + 1)).map bg.l
     rw [List.map_set, his, List.set_append_right _ _ (by rw [List.length_map, List.length_take]; omega), List.length_map, List.length_take, show j - min j T.dD.length = 0 by omega, List.drop_eq_getElem_cons (show j < T.dD.length by omega), List.map_cons, List.set_cons_zero, List.take_add_one, List.getElem?_eq_getElem (by omega), List.map_append, List.append_assoc]
     show _ ++ dR b r.l :: _ = _ ++ ([dR b (T.dD[j]'(by omega)).l] ++ _)
     rw [hrl]; rfl
   · subst hq
     have e1 : bC (.slice r.A (r.l.filter fun x => !decide (x = b)).length r.c) 3 1 (r.l.filter fun x => !decide (x = b)).length (ints .i64 (r.l.filter fun x => !decide (x = b))) = bg.row ⟨r.A, r.c, dR b r.l⟩ := rfl
     rw [e1] at h
     have h6 := Sat.zR (l := dD.map bg.row) (k := j) (by rw [List.length_map]; omega) (h.sel 3 [0, 2, 1] rfl)
     have e2 : (dD.map bg.v).set (0 + (j : Int).toNat * 1) (.slice r.A (r.l.filter fun x => !decide (x = b)).length r.c) = (dD.set j ⟨r.A, r.c, dR b r.l⟩).map bg.v := by
       rw [show 0 + ((j : Nat) : Int).toNat * 1 = j by omega, List.map_set]; rfl
     rw [e2, ← List.map_set] at h6
     exact h6.p1
  ·simp only [decide_eq_true_eq, decide_eq_false_iff_not] at hc0
   refine WC.exit ?_
   obtain rfl : j = T.dD.length := by omega
   obtain ⟨T', hT'⟩ : ∃ T' : bI, T' = { T with dD := dD } := ⟨_, rfl⟩
   refine aj.normal (H' := T'.A bs bd g :: F) (aL.none rfl) (fun w h => ?_) ⟨T', ?_, ?_, rfl⟩
   · refine Sat.all (l := bI.parts bs bd g T') (H := F) ?_
     rw [hT']
     unfold bI.parts bI.cells
     dsimp only
     rw [hil]
     exact h.sel 5 [3, 4, 0, 1] rfl
   · rw [hT']
     exact ⟨by show dD.length = T.stands.length; rw [hil, hT.len], hT.av, hT.next, hT.at_, hT.std⟩
   · rw [hT']
     unfold bI.sem St.forget
     dsimp only
     rw [his, List.take_of_length_le (by omega), List.drop_eq_nil_of_le (by omega)]
     simp
end
end Go.Proofs.YtcedojacbhnbiaaGreat
namespace Go.Sl
open Go.RowKit Go.BigFrame
set_option linter.unusedVariables false
set_option linter.unusedSimpArgs false
def pW (ops : Array Oper) : Bool := ops.all fun o => match o.op with | .defer _ => false | _ => true
theorem BL {ops : Array Oper} (h : pW ops = true) {i : Nat} {o : Oper} (hi : ops[i]? = some o) : ∀ c, o.op ≠ .defer c := fun c hc => by
  unfold pW at h
  rw [Array.all_eq_true_iff_forall_mem] at h
  have h1 := h o (Array.mem_of_getElem? hi)
  rw [hc] at h1
  cases h1
section
variable {P : Program} {q : Exit → Act → World → Prop} {ops : Array Oper} {md : Region.Mode} {l : Option Nat}
theorem LK {o : Oper} {a : Act} {K : Act → World → Prop} {x : Result Next} (h : o.upon P a K q x) : o.uponIn (zu l) 0 P a K q x := by
  cases x with
  | ok nx w' =>
    cases nx <;> simp only [Oper.upon, Oper.uponIn] at h ⊢ <;> first
      | exact h
      | exact ⟨qC l, A8.2 h⟩
      | (refine ⟨qC l, fun c cs _ => ?_⟩
         obtain ⟨v, w'', h1, h2⟩ := h c cs
         refine ⟨v, w'', h1, ?_⟩
         cases l
         · exact stepsIn_wide.2 h2
         · rw [fenced_inRound]; exact stepsIn_wide.2 h2)
  | halt x w' => cases x <;> simp only [Oper.upon, Oper.uponIn] at h ⊢ <;> exact h
theorem Me (hnd : pW ops = true) (hlo : ¬ LetsOut q) {i : Nat} {S S' : Act → World → Prop} (hS : ∀ a w, S a w → S' a w) {a : Act} {w : World} (h : wpOp P ops q i S a w) : wpOpIn (zu l) 0 P ops q i S' a w := by
  unfold wpOp at h
  unfold wpOpIn
  cases ho : ops[i]? with
  | none => rw [ho] at h; exact hS _ _ h
  | some o =>
    rw [ho] at h
    dsimp only at h ⊢
    split at h
    · rename_i hw
      rw [if_pos hw]
      rcases h with h | ⟨_, h⟩
      · refine ⟨fun f _ => sI _ f, ?_⟩
        rw [Oper.semAt_eq _ _ _ (BL hnd ho)]
        exact LK (Oper.wp_mono hS h)
      · exact absurd h hlo
    · rename_i hw
      rw [if_neg hw]
      exact ⟨fun f _ => sI _ f, hS _ _ h⟩
theorem zG (hnd : pW ops = true) (hlo : ¬ LetsOut q) : ∀ (fuel : Nat) (listed : Array Bool) (a : Act) (w : World), wpAny P md ops q fuel listed a w → wpAnyIn (zu l) 0 P md ops q fuel listed a w
  | 0, _, _, _, h => h
  | fuel + 1, _, _, _, h => ⟨h.1, fun i hi => Me hnd hlo (fun a w hh => zG hnd hlo fuel _ a w hh) (h.2 i hi)⟩
end
abbrev Nu (l : Option Nat) (Q : Post) : Post := fun Mo x e H => Q ⟨some l, Mo.ds⟩ x e H
section
variable {K : World} {H : List au} {P : Program} {n : Nat} {e : Env} {Q : Post}
theorem EU {l : Option Nat} {x : Exit} {a : Act} {w : World} (h : lift none K n (Nu l Q) x a w) : lift (some l) K n Q x a w := by
  obtain ⟨ds, e, H, h1, h2, h3⟩ := h
  exact ⟨ds, e, H, ⟨h1.defers, h1.size, h1.at_⟩, h2, h3⟩
theorem WC.jN {l : Option Nat} {id : Nat} {os : List Oper} {ds : List Deferred} (F0 : List au) (hm : P.follows .mixedOrders = true) (h : WA ⟨none, ds⟩ P K n F0 os.toArray (Nu l Q) os.length (Array.replicate os.length false) e H)
    (hnd : pW os.toArray = true := by kernel_rfl) (hlo : ∀ (p : Mode × Env) H, ¬ Q p.1 .outgrown p.2 H := by exact fun _ _ h => h) : WC ⟨some l, ds⟩ P K n (.region id os.toArray true) Q e H := fun a w ha hw => by
  show (Code.region id os.toArray true).wpIn (zu l) 0 P _ a w
  have hl : ¬ LetsOut (lift none K n (Nu l Q)) := by
    rintro ⟨a, w, ds', e', H', _, _, h3⟩
    exact hlo (⟨some l, ds'⟩, e') H' h3
  have h1 := h a _ ⟨ha.defers, ha.size, ha.at_⟩ hw.drew
  have h2 := zG (l := l) hnd hl _ _ _ _ (su (C := fun w => Sat K w F0) _ _ _ _ h1)
  have h3 : (Code.region id os.toArray true).wpIn (zu l) 0 P (lift none K n (Nu l Q)) a w := wpIn_region_any hm (by simpa using h2)
  exact wpIn_mono h3 fun x a w h => EU h
theorem WC.Dp {l : Option Nat} {id : Nat} {os : List Oper} {ds : List Deferred} (hm : P.follows .mixedOrders = true) (hB : Region.lexB .any os.toArray = true) (h : WQ ⟨none, ds⟩ P K n os.toArray os (fun e' => Q ⟨some l, ds⟩ .normal e' H) e H)
    (hnd : pW os.toArray = true := by kernel_rfl) (hlo : ∀ (p : Mode × Env) H, ¬ Q p.1 .outgrown p.2 H := by exact fun _ _ h => h) : WC ⟨some l, ds⟩ P K n (.region id os.toArray true) Q e H := fun a w ha hw => by
  show (Code.region id os.toArray true).wpIn (zu l) 0 P _ a w
  have hl : ¬ LetsOut (lift none K n (Nu l Q)) := by
    rintro ⟨a, w, ds', e', H', _, _, h3⟩
    exact hlo (⟨some l, ds'⟩, e') H' h3
  have h1 := h a ⟨ha.defers, ha.size, ha.at_⟩
  simp only [Region.lexB, Bool.and_eq_true] at hB
  have h2 : wpAny P .any os.toArray (lift none K n (Nu l Q)) os.toArray.size (Array.replicate os.toArray.size false) a { w with drawn := w.drawn + 1 } := by
    refine wpAny_of_quiet (C := fun w => Sat K w H) (Q := fun a' => ∃ e', Agree ⟨none, ds⟩ n e' a' ∧ Q ⟨some l, ds⟩ .normal e' H) (fun a' w' hw' ⟨e', k1, k2⟩ => ⟨ds, e', H, k1, hw', k2⟩) _ _ _ _ hw.drew ?_
    have := wpAnyQ_lex (C := fun w => Sat K w H) (md := .any) hB.1 os.toArray.toList 0 (Array.replicate os.toArray.size false) a (by simp) (by simpa using hB.2) (by simpa using h1)
    simpa using this
  have h3 : (Code.region id os.toArray true).wpIn (zu l) 0 P (lift none K n (Nu l Q)) a w := wpIn_region_any hm (zG hnd hl _ _ _ _ h2)
  exact wpIn_mono h3 fun x a w h => EU h
end
end Go.Sl
namespace Go.Proofs.YtcedojacbhnbiaaGreat
open Go.Sl Go.RowKit
set_option linter.unusedVariables false
set_option linter.unusedSimpArgs false
set_option maxRecDepth 20000
section
variable {bs bd bc : Nat} {g : Geo} {K : World} {F : List au}
theorem Ii : Does Tryz.prog 62 #[ptr bs 0] K F (fun v H' => ∃ b1, v = .func (.func 117) #[] #[ptr b1 0] ∧ H' = Cells b1 28 [ptr bs 0] :: F) := by
  refine Does.enter Tryz.func62 rfl Tryz.ntmps62 rfl ?_
  simp only [aJ, Nat.reduceAdd]
  refine WC.sr ?_
  refine WL.box (cs := [_]) (OV.p rfl) rfl rfl (fun b1 => ?_)
  refine WL.sg rfl rfl (WL.nil (WC.sr (WL.val (V.makeFunc (us := []) (vs := [_]) trivial ⟨OV.p rfl, trivial⟩) rfl (WL.sg rfl rfl (WL.nil (WC.ret ?_))))))
  exact aj.ret (H' := Cells b1 _ _ :: F) (aL.tmp rfl rfl) (fun w h => h) ⟨b1, rfl, rfl⟩
theorem Jb {l b1 : Nat} {Y1 Y2 : au} {gd std : List Int} {wQ : Int} {n : Nat} (hn : g.bl = (n : Int)) (hgm : g.aF) (hat : 0 ≤ wQ ∧ wQ < g.bl) (I : Nat → Cw → bI → Prop) (Stop : au → List au → Prop)
    (hI : ∀ j C T, I j C T → C.Ok ∧ C.g = g ∧ T.Ok g ∧ T.stands = std ∧ T.at_ = wQ)
    (Dx : ∀ j C T, j < n → ¬ ((wQ + (j : Int)) % g.bl ∈ gd ∧ ¬ (wQ + (j : Int)) % g.bl ∈ std) → I j C T → I (j + 1) C T)
    (rO : ∀ j C T X, j < n → ((wQ + (j : Int)) % g.bl ∈ gd ∧ ¬ (wQ + (j : Int)) % g.bl ∈ std) → I j C T → eF Tryz.prog K none l #[.int .i64 ((wQ + (j : Int)) % g.bl)] (Y1 :: Y2 :: X :: C.A bc :: bQ bd bc g :: T.A bs bd g :: Cells b1 28 [ptr bs 0] :: F)
      (fun b H' => (b = true ∧ ∃ C' T', I (j + 1) C' T' ∧ H' = Y1 :: Y2 :: X :: C'.A bc :: bQ bd bc g :: T'.A bs bd g :: Cells b1 28 [ptr bs 0] :: F) ∨ (b = false ∧ Stop X H')))
    {C0 : Cw} {T0 : bI} (hgd : gd = C0.sem.good) (h0 : I 0 C0 T0) :
    Does Tryz.prog 117 #[.func (.yield l) #[] #[], ptr b1 0] K (Y1 :: Y2 :: C0.A bc :: bQ bd bc g :: T0.A bs bd g :: Cells b1 28 [ptr bs 0] :: F)
      (fun v H' => ∃ X, (∃ C T, I n C T ∧ H' = Y1 :: Y2 :: X :: C.A bc :: bQ bd bc g :: T.A bs bd g :: Cells b1 28 [ptr bs 0] :: F) ∨ Stop X H') := by
  have hgb := hgm
  unfold Geo.aF at hgb
  obtain ⟨hC0, Ou, hT0, Rj, Q7⟩ := hI _ _ _ h0
  have hgl : gd.length ≤ 256 := by
    have h1 := ak.fV C0.sem C0.sem.g.bl.toNat
    have h2 : C0.sem.g.bl.toNat ≤ 256 := by rw [show C0.sem.g = C0.g from rfl, Ou]; omega
    rw [hgd]; unfold ak.good; omega
  refine Does.KU Tryz.func117 rfl Tryz.ntmps117 rfl ?_
  simp only [aJ, Nat.reduceAdd]
  refine WC.sr (WL.ld Tryz.isAgg28 rfl rfl ?_)
  refine WL.nc rfl rfl (WL.val (V.fieldAddr qy (OV.p rfl)) rfl ?_)
  refine WL.val (V.load Tryz.isAgg70 (OV.p rfl) (fun _ => by repeat (first | exact bI.sJ 0 _ rfl | apply Rd.up))) rfl ?_
  refine WL.sub (Sub.refl _) (fun w h => h.sel 6 [2, 3, 0, 1, 4, 5] rfl) ?_
  refine WL.call (vs := [_]) Tryz.call118 ⟨OV.p rfl, trivial⟩ (vV hC0 Ou) rfl ?_
  rintro _ _ ⟨Ag, cg, rfl, rfl⟩
  rw [← hgd]
  refine WL.sg rfl rfl (WL.nil (WC.sr (WL.ld Tryz.isAgg28 rfl rfl ?_)))
  refine WL.nc rfl rfl (WL.val (V.fieldAddr jw (OV.p rfl)) rfl (WL.val (V.fieldAddr jk (OV.p rfl)) rfl ?_))
  refine WL.val (V.load Tryz.isAgg3 (OV.p rfl) (fun _ => by repeat (first | exact bI.sJ 1 _ rfl | apply Rd.up))) rfl ?_
  refine WL.mv rfl rfl (WL.nil (WC.block ?_))
  obtain ⟨X, hX⟩ : ∃ X, X = bC (.slice Ag gd.length cg) 3 1 gd.length (ints .i64 gd) := ⟨_, rfl⟩
  rw [← hX]
  have Lp : ∀ {H : List au}, Seq K (X :: H) Ag gd.length 1 (ints .i64 gd) := fun {H} => by rw [hX]; exact bC.seq (by rw [bK, Nat.mul_one])
  refine WC.loop (σ := Nat × Cw × bI) (fun s => [(0, .func (.yield l) #[] #[]), (1, ptr b1 0), (3, .slice Ag gd.length cg), (15, .int .i64 (n : Int)), (16, .int .i64 (s.1 : Int))]) (fun s => Y1 :: Y2 :: X :: s.2.1.A bc :: bQ bd bc g :: s.2.2.A bs bd g :: Cells b1 28 [ptr bs 0] :: F) (fun s => s.1 ≤ n ∧ I s.1 s.2.1 s.2.2) (fun s => n - s.1) (0, C0, T0) ⟨Nat.zero_le _, h0⟩ (.cons rfl (.cons rfl (.cons rfl (.cons (look_eq rfl (by rw [hn])) (.cons rfl (.nil _)))))) (fun w h => h.sel 7 [3, 4, 0, 1, 2, 5, 6] rfl) ?_
  rintro ⟨j, C, T⟩ ⟨hj, hIj⟩
  dsimp only at hj hIj ⊢
  obtain ⟨hC, SS, hT, hst, hat⟩ := hI _ _ _ hIj
  refine WC.sr (WL.val (V.lss (OV.p rfl) (OV.p rfl)) rfl (WL.nil (WC.seq ?_)))
  refine WC.cond rfl (fun hc0 => ?_) (fun hc0 => ?_)
  ·simp only [decide_eq_true_eq, decide_eq_false_iff_not] at hc0
   have hjn : j < n := by omega
   obtain ⟨b, hb⟩ : ∃ b, b = (wQ + (j : Int)) % g.bl := ⟨_, rfl⟩
   have hro := rO j C T X hjn
   have hsk := Dx j C T hjn
   rw [← hb] at hro hsk
   refine WC.skip (WC.seq (WC.block (WC.sr (WL.mv rfl rfl (WL.sg rfl rfl (WL.nil (WC.seq ?_)))))))
   refine WC.Dp (by kernel_rfl) (by kernel_rfl) ?_
   refine WQ.val (V.load Tryz.isAgg28 (OV.p rfl) (fun hc => by repeat (first | exact Rd.here rfl | apply Rd.up))) rfl ?_
   refine WQ.val (V.nilCheck (OV.p rfl)) rfl (WQ.val (V.fieldAddr xw (OV.p rfl)) rfl ?_)
   refine WQ.val (V.aA (v' := .int .i64 wQ) (V.load Tryz.isAgg3 (OV.p rfl) (fun _ => by repeat (first | exact bI.sJ 9 _ rfl | apply Rd.up))) (fun _ => by rw [hat])) rfl ?_
   refine WQ.val (V.move (OV.p rfl)) rfl ?_
   refine WQ.val (V.jO (OV.p rfl) (OV.p rfl) (fun hc => by first | omega | (simp at hc; omega))) rfl ?_
   refine WQ.val (V.load Tryz.isAgg28 (OV.p rfl) (fun hc => by repeat (first | exact Rd.here rfl | apply Rd.up))) rfl ?_
   refine WQ.val (V.nilCheck (OV.p rfl)) rfl (WQ.val (V.fieldAddr jw (OV.p rfl)) rfl (WQ.val (V.fieldAddr jk (OV.p rfl)) rfl ?_))
   refine WQ.val (V.load Tryz.isAgg3 (OV.p rfl) (fun _ => by repeat (first | exact bI.sJ 1 _ rfl | apply Rd.up))) rfl ?_
   refine WQ.val (V.aA (v' := .int .i64 b) (V.qH (OV.p rfl) (OV.p rfl) (fun _ => by omega)) (fun _ => by rw [hb])) rfl ?_
   refine WQ.val (V.assign (OV.p rfl)) rfl (WQ.nil (WC.seq (WC.sr (WL.mv rfl rfl (WL.mv rfl rfl ?_)))))
   refine WL.call (vs := [_, _]) Tryz.call119 ⟨OV.p rfl, OV.p rfl, trivial⟩ (qP (by repeat (first | exact Lp | apply Seq.up)) (by omega) b) rfl ?_
   rintro _ H0 ⟨rfl, h0⟩
   subst H0
   refine WL.val (V.not (OV.p rfl)) rfl (WL.mv rfl rfl ?_)
   refine WL.ah (oj := _) rfl rfl rfl GC.f (V.load Tryz.isAgg28 (OV.p rfl) (fun hc => by repeat (first | exact Rd.here rfl | apply Rd.up))) rfl ?_
   refine WL.ah (oj := _) rfl rfl rfl GC.f (V.nilCheck (OV.g rfl id)) rfl (WL.ah (oj := _) rfl rfl rfl GC.f (V.fieldAddr jA (OV.g rfl id)) rfl ?_)
   refine WL.ah (oj := _) rfl rfl rfl GC.f (V.load Tryz.isAgg124 (OV.g rfl id) (fun hc => by repeat (first | exact bI.sJ 6 _ rfl | apply Rd.up))) rfl ?_
   refine WL.ah (oj := _) rfl rfl rfl GC.f (V.move (OV.p rfl)) rfl ?_
   refine WL.kN (oj := _) (vs := [_, _]) rfl rfl rfl GC.f Tryz.call119 ⟨OV.g rfl id, OV.g rfl id, trivial⟩ (fun hg => qP (by repeat (first | exact bI.Ol | apply Seq.up)) (by have := hT.av; omega) b) rfl ?_
   refine WL.val (V.aS (OV.p rfl) (OV.g rfl id)) rfl (WL.nil ?_)
   refine WC.cond rfl (fun hc1 => ?_) (fun hc1 => ?_)
   ·rw [hst] at hc1
    have h1 := hc1
    refine WC.exit (WC.region (WL.ad rfl rfl rfl ?_))
    refine WL.mv rfl rfl (WL.nil ?_)
    refine ⟨rfl, ?_⟩
    first
    | exact ⟨(j + 1, C2, T2), ⟨hjn, hI2⟩, (by show n - (j + 1) < n - j; omega), .cons rfl (.cons rfl (.cons rfl (.cons rfl (.cons (look_eq rfl (by simp)) (.nil _))))), fun w h => h⟩
    | exact ⟨(j + 1, C, T), ⟨hjn, hsk (fun hn => by simp only [Bool.or_eq_true, Bool.not_eq_true', decide_eq_false_iff_not, decide_eq_true_eq] at h1; rcases h1 with h | h; exact h hn.1; exact hn.2 h) hIj⟩, (by show n - (j + 1) < n - j; omega), .cons rfl (.cons rfl (.cons rfl (.cons rfl (.cons (look_eq rfl (by simp)) (.nil _))))), fun w h => h⟩
   ·rw [hst] at hc1
    have h1 := hc1
    refine WC.skip (WC.sr (WL.mv rfl rfl (WL.mv rfl rfl ?_)))
    refine WL.MS (r := none) (l := l) (vs := [_]) (OV.p rfl) ⟨OV.p rfl, trivial⟩ (hro (by simpa using h1) hIj) rfl ?_
    rintro yb YH hy
    refine WL.val (V.not (OV.p rfl)) rfl (WL.nil ?_)
    refine WC.cond rfl (fun hc2 => ?_) (fun hc2 => ?_)
    ·skip
     have h2 := hc2
     simp only [Bool.not_eq_true', Bool.not_eq_false'] at h2
     have hstop : Stop X YH := by
       rcases hy with ⟨h3, _⟩ | ⟨_, h3⟩
       · rw [h3] at h2; cases h2
       · exact h3
     refine WC.ret ?_
     exact aj.ret (H' := YH) (aL.none rfl) (fun w h => h) ⟨X, .inr hstop⟩
    ·skip
     have h2 := hc2
     simp only [Bool.not_eq_true', Bool.not_eq_false'] at h2
     obtain ⟨C2, T2, hI2, rfl⟩ : ∃ C2 T2, I (j + 1) C2 T2 ∧ YH = Y1 :: Y2 :: X :: C2.A bc :: bQ bd bc g :: T2.A bs bd g :: Cells b1 28 [ptr bs 0] :: F := by
       rcases hy with ⟨_, h3⟩ | ⟨h3, _⟩
       · exact h3
       · rw [h3] at h2; cases h2
     refine WC.skip (WC.region (WL.ad rfl rfl rfl ?_))
     refine WL.mv rfl rfl (WL.nil ?_)
     refine ⟨rfl, ?_⟩
     first
     | exact ⟨(j + 1, C2, T2), ⟨hjn, hI2⟩, (by show n - (j + 1) < n - j; omega), .cons rfl (.cons rfl (.cons rfl (.cons rfl (.cons (look_eq rfl (by simp)) (.nil _))))), fun w h => h⟩
     | exact ⟨(j + 1, C, T), ⟨hjn, hsk (fun hn => by simp only [Bool.or_eq_true, Bool.not_eq_true', decide_eq_false_iff_not, decide_eq_true_eq] at h1; rcases h1 with h | h; exact h hn.1; exact hn.2 h) hIj⟩, (by show n - (j + 1) < n - j; omega), .cons rfl (.cons rfl (.cons rfl (.cons rfl (.cons (look_eq rfl (by simp)) (.nil _))))), fun w h => h⟩
  ·simp only [decide_eq_true_eq, decide_eq_false_iff_not] at hc0
   refine WC.exit ?_
   obtain rfl : j = n := by omega
   exact aj.normal (H' := Y1 :: Y2 :: X :: C.A bc :: bQ bd bc g :: T.A bs bd g :: Cells b1 28 [ptr bs 0] :: F) (aL.none rfl) (fun w h => h) ⟨X, .inl ⟨C, T, hIj, rfl⟩⟩
end
end Go.Proofs.YtcedojacbhnbiaaGreat
