import Derived.Test.YtcmojpiokjhmhaaGreatP21
import Derived.Test.YtcmojpiokjhmhaaGreatP5
import Derived.OrdersIn
namespace Go.Proofs.YtcmojpiokjhmhaaGreat
open Go.Sl Go.RowKit
set_option linter.unusedVariables false
set_option linter.unusedSimpArgs false
set_option maxRecDepth 20000
theorem Kh {t : Nat} {d m : List Nat} {p : LL} {k : Nat} (hd : lJ t d m = some (p, k)) : p.1.length = d.length := by
  unfold lJ at hd
  split at hd
  · cases hd
  · split at hd
    · cases hd
    · split at hd
      · cases hd
      · injection hd with hd
        have := (iY t (lK (dL t (d, dH t m))) (ni (dL t (d, dH t m))) (d, dH t m) (13 * t + 8 * d.length)).1
        rw [hd] at this
        exact this
theorem FT {t S B : Nat} {raw : List Nat} (hr : raw.length = fU S B t) (he : (dB t S B raw).err = 0) : (dB t S B raw).d.length = S * B := by
  unfold dB at he ⊢
  split at he
  · rename_i h; exact absurd he h
  · rename_i h
    rw [if_neg h]
    have key : ∀ (l : List (Option (LL × Nat))) (d : List Nat) (n : Nat), (∀ o ∈ l, ∀ p k, o = some (p, k) → p.1.length = B) → (gH l d n).err = 0 → (gH l d n).d.length = d.length + l.length * B := fun l => by
      induction l with
      | nil => intro d n _ _; show d.length = _; simp
      | cons o l ih =>
        intro d n h he
        cases o with
        | none => exact absurd he (by show ¬ (50 = 0); decide)
        | some r =>
          obtain ⟨p, k⟩ := r
          rw [gH] at he ⊢
          have h1 := ih (d ++ p.1) (max n k) (fun o ho => h o (.tail _ ho)) he
          have h2 := h _ (.head _) p k rfl
          rw [List.length_append] at h1
          rw [List.length_cons, Nat.succ_mul]
          omega
    have := key ((List.range S).map (sj t B (B + ay t) raw)) [] 0 (fun o ho p k hp => by
      obtain ⟨j, hj, rfl⟩ := List.mem_map.1 ho
      have hj := List.mem_range.1 hj
      unfold sj at hp
      rw [Kh hp]
      unfold uN
      have h3 : (j + 1) * (B + ay t) ≤ S * (B + ay t) := Nat.mul_le_mul_right _ hj
      rw [Nat.succ_mul] at h3
      rw [List.length_take, List.length_drop, hr]
      unfold fU
      omega) he
    rw [List.length_map, List.length_range] at this
    simpa using this
theorem Cw.Ok.G5 {C : Cw} (hC : C.Ok) {b p : Int} (he : (C.sem.bG b p).err = 0) : (C.sem.bG b p).d.length = C.g.room.toNat := by
  have hg := hC.aD
  unfold ah.bG at he ⊢
  split at he
  · rename_i h; exact absurd he h
  · rename_i h
    rw [if_neg h]
    have h0 : (dB C.sem.g.fl.toNat C.sem.g.se.toNat C.sem.g.sb.toNat (C.sem.fU b p)).err = 0 := by
      have he' : ((dB C.sem.g.fl.toNat C.sem.g.se.toNat C.sem.g.sb.toNat (C.sem.fU b p)).err : Int) = 0 := he
      omega
    have h1 := FT (by rw [(hC.nT b p).2.2, Geo.nQ hg, Int.toNat_natCast]; rfl) h0
    show (dB _ _ _ _).d.length = _
    rw [h1, Geo.zS hg, Int.toNat_natCast]; rfl
theorem Geo.Bc {g : Geo} (hg : g.aD) {n : Int} (h : g.fits n = true) : 0 ≤ g.aW n ∧ g.aW n ≤ g.pg - 1 ∧ n ≤ g.aW n * g.room ∧ (n ≤ 0 → g.aW n = 0) := by
  have hr := Geo.iR hg
  have hgb := hg
  unfold Geo.aD at hgb
  unfold Geo.fits at h
  simp only [Bool.and_eq_true, decide_eq_true_eq] at h
  have h1 := Int.emod_add_mul_ediv (n + g.room - 1) g.room
  have h2 := Int.emod_lt_of_pos (n + g.room - 1) (show 0 < g.room by omega)
  have h3 := Int.emod_nonneg (n + g.room - 1) (show g.room ≠ 0 by omega)
  have hq : g.aW n = (n + g.room - 1) / g.room := rfl
  rw [← hq, Int.mul_comm] at h1
  have h4 : 0 ≤ g.aW n := by rw [hq]; exact Int.ediv_nonneg (by omega) (by omega)
  refine ⟨h4, ?_, by omega, fun hn => ?_⟩
  · have h5 : g.aW n * g.room ≤ g.cap + g.room - 1 := by omega
    have h6 : g.cap + g.room = g.pg * g.room := by unfold Geo.cap; rw [Int.sub_mul, Int.one_mul]; omega
    have h7 : g.aW n * g.room < g.pg * g.room := by omega
    have := Int.lt_of_mul_lt_mul_right h7 (by omega)
    omega
  · have : n = 0 := by omega
    rw [hq, this]
    exact Int.ediv_eq_zero_of_lt (by omega) (by omega)
def fA (S : ah) (b : Int) (n0 : Nat) : Nat → ah.Got
  | 0 => ⟨0, [], n0⟩
  | k + 1 => if (fA S b n0 k).err ≠ 0 then fA S b n0 k
    else if (S.bG b (1 + (k : Int))).err ≠ 0 then ⟨(S.bG b (1 + (k : Int))).err, [], 0⟩
    else ⟨0, (fA S b n0 k).d ++ (S.bG b (1 + (k : Int))).d, max (fA S b n0 k).n (S.bG b (1 + (k : Int))).n⟩
theorem BI {S : ah} {b : Int} {n0 k : Nat} (h : (fA S b n0 k).err ≠ 0) : ∀ m, fA S b n0 (k + m) = fA S b n0 k
  | 0 => rfl
  | m + 1 => by rw [← Nat.add_assoc, fA, BI h m, if_pos h]
def jE (S : ah) (T : St) (aC : Int) : ah.Got × St :=
  if T.ready aC ≠ 0 then (⟨T.ready aC, [], 0⟩, T)
  else if T.at' aC < 0 then (⟨5, [], 0⟩, T)
  else if (S.bG (T.at' aC) 0).err ≠ 0 then (⟨(S.bG (T.at' aC) 0).err, [], 0⟩, T.told (S.bG (T.at' aC) 0).err)
  else if gG S.g (S.bG (T.at' aC) 0).d ≠ 0 then (⟨gG S.g (S.bG (T.at' aC) 0).d, [], 0⟩, T)
  else if (fA S (T.at' aC) (S.bG (T.at' aC) 0).n (S.g.aW (eB S.g (S.bG (T.at' aC) 0).d).len).toNat).err ≠ 0 then
    (⟨(fA S (T.at' aC) (S.bG (T.at' aC) 0).n (S.g.aW (eB S.g (S.bG (T.at' aC) 0).d).len).toNat).err, [], 0⟩, T.told (fA S (T.at' aC) (S.bG (T.at' aC) 0).n (S.g.aW (eB S.g (S.bG (T.at' aC) 0).d).len).toNat).err)
  else (⟨0, (fA S (T.at' aC) (S.bG (T.at' aC) 0).n (S.g.aW (eB S.g (S.bG (T.at' aC) 0).d).len).toNat).d.take (eB S.g (S.bG (T.at' aC) 0).d).len.toNat, (fA S (T.at' aC) (S.bG (T.at' aC) 0).n (S.g.aW (eB S.g (S.bG (T.at' aC) 0).d).len).toNat).n⟩, T)
theorem Nv {K : World} {F : List aj} {A : Option Addr} {m n cap E : Nat} {cs : List Value} (hn : n ≤ m) : ∀ w, Sat K w (aZ (.slice A m cap) E 1 m cs :: F) → Sat K w (aZ (.slice A n cap) E 1 n (cs.take n) :: F) := fun w h => by
  cases A with
  | none =>
    obtain ⟨h1, h2, h3⟩ := aZ.oF h
    obtain rfl : n = 0 := by omega
    subst h1 h2 h3
    exact h
  | some a =>
    obtain ⟨g, rfl⟩ := aZ.addr h
    obtain ⟨r, ⟨h1, h2, h3, h4⟩, h5⟩ := Sat.kH h
    have h6 := Sat.uf (m := n) (cap := cap) (s := 1) h5 h1 (by omega) h4
    rw [Nat.mul_one, List.take_append_of_le_length (by omega)] at h6
    exact h6
theorem D9 {g : Geo} {d : List Nat} (hg : g.aD) (h : gG g d = 0) : (eB g d).may g = true ∧ gF g d = some (eB g d) := by
  unfold gG at h
  unfold eB
  cases hp : gF g d with
  | none => rw [hp] at h; dsimp only at h; split at h <;> cases h
  | some x => exact ⟨(q8 hg hp).2.1, rfl⟩
section
variable {bs bd bc : Nat} {g : Geo} {T : bC} {C : Cw} {K : World} {F : List aj}
theorem ow (hC : C.Ok) (hg : C.g = g) (hT : T.Ok g) (aC : Int) : Does Tryz.prog 36 #[ptr bs 0, .int .i64 aC] K (C.A bc :: bO bd bc g :: T.A bs bd g :: F)
    (fun v H' => ∃ (A' : Option Addr) (c' : Nat) (T' : bC), T'.Ok g ∧ T'.sem = (jE C.sem T.sem aC).2 ∧ v = .tuple #[.slice A' (jE C.sem T.sem aC).1.d.length c', .int .i64 ((jE C.sem T.sem aC).1.n : Nat), .int .i64 (jE C.sem T.sem aC).1.err] ∧
      H' = aZ (.slice A' (jE C.sem T.sem aC).1.d.length c') 5 1 (jE C.sem T.sem aC).1.d.length (aA .u8 (jE C.sem T.sem aC).1.d) :: C.A bc :: bO bd bc g :: T'.A bs bd g :: F) := by
  have hgm : g.aD := by rw [← hg]; exact hC.aD
  have hgs : C.sem.g = g := hg
  have hrb := Geo.iR hgm
  have hgb := hgm
  unfold Geo.aD at hgb
  obtain ⟨X, hX⟩ : ∃ X, X = jE C.sem T.sem aC := ⟨_, rfl⟩
  rw [← hX]
  unfold jE at hX
  rw [hgs] at hX
  have hin : T.sem.ready aC = 0 → 0 ≤ aC ∧ aC < T.stands.length := fun h => by
    unfold St.ready bC.sem at h
    dsimp only at h
    split at h
    · cases h
    · split at h
      · cases h
      · omega
  refine Does.enter Tryz.func36 rfl Tryz.ntmps36 rfl ?_
  simp only [aH, Nat.reduceAdd]
  refine WC.sr (WL.sg rfl rfl (WL.sg rfl rfl (WL.sg rfl rfl (WL.nil (WC.seq (WC.sr (WL.mv rfl rfl (WL.mv rfl rfl ?_))))))))
  refine WL.sub (Sub.refl _) (fun w h => h.sel 3 [2, 0, 1] rfl) ?_
  refine WL.call (vs := [_, _]) Tryz.call51 ⟨OV.p rfl, OV.p rfl, trivial⟩ (lU aC) rfl ?_
  rintro _ _ ⟨rfl, rfl⟩
  refine WL.sub (Sub.refl _) (fun w h => h.sel 3 [1, 2, 0] rfl) ?_
  refine WL.sg rfl rfl (WL.nil (WC.sr (WL.mv rfl rfl (WL.val (V.neq (OV.p rfl) (OV.p rfl)) rfl (WL.nil ?_)))))
  refine WC.cond rfl (fun hc0 => ?_) (fun hc0 => ?_)
  ·simp only [Bool.not_eq_true', Bool.not_eq_false', decide_eq_true_eq, decide_eq_false_iff_not] at hc0
   have h0 := hc0
   rw [if_pos h0] at hX
   refine WC.sr (WL.mv rfl rfl (WL.sg rfl rfl (WL.sg rfl rfl (WL.sg rfl rfl (WL.nil (WC.ret ?_))))))
   subst hX
   exact ak.ret (H' := aZ (.slice none 0 0) 5 1 0 [] :: C.A bc :: bO bd bc g :: T.A bs bd g :: F) (aQ.vV rfl rfl rfl rfl) (fun w h => Sat.iE h _ _) ⟨none, 0, T, hT, rfl, rfl, rfl⟩
  ·simp only [Bool.not_eq_true', Bool.not_eq_false', decide_eq_true_eq, decide_eq_false_iff_not] at hc0
   have h0 := hc0
   have hr0 : T.sem.ready aC = 0 := by omega
   rw [if_neg (fun h => h hr0)] at hX
   have hinl := hin hr0
   obtain ⟨b, hb⟩ : ∃ b, b = T.sem.at' aC := ⟨_, rfl⟩
   rw [← hb] at hX
   have hrs : ∀ {X Y : aj}, Rd K (X :: Y :: T.A bs bd g :: F) (T.sA.map (·.add (aC.toNat * 1))) (.int .i64 b) := fun {X Y} => by rw [hb]; exact Rd.up (Rd.up (bC.Pw hinl))
   refine WC.skip (WC.sr (WL.mv rfl rfl (WL.nc rfl rfl (WL.val (V.fieldAddr ku (OV.p rfl)) rfl ?_))))
   refine WL.val (V.load Tryz.isAgg24 (OV.p rfl) (fun _ => Rd.up (Rd.up (bC.rF 6 _ rfl)))) rfl ?_
   refine WL.mv rfl rfl ?_
   refine WL.val (V.eP cO (OV.p rfl) (OV.p rfl) (fun _ => hinl) (fun _ => hrs)) rfl ?_
   refine WL.val (V.load Tryz.isAgg3 (OV.p rfl) (fun _ => hrs)) rfl ?_
   refine WL.sg rfl rfl (WL.nil (WC.seq (WC.sr (WL.mv rfl rfl (WL.val (V.lss (OV.p rfl) (OV.p rfl)) rfl (WL.nil ?_))))))
   refine WC.cond rfl (fun hc1 => ?_) (fun hc1 => ?_)
   ·simp only [decide_eq_true_eq, decide_eq_false_iff_not] at hc1
    have h1 := hc1
    rw [if_pos h1] at hX
    refine WC.sr (WL.sg rfl rfl (WL.sg rfl rfl (WL.sg rfl rfl (WL.nil (WC.ret ?_)))))
    subst hX
    exact ak.ret (H' := aZ (.slice none 0 0) 5 1 0 [] :: C.A bc :: bO bd bc g :: T.A bs bd g :: F) (aQ.vV rfl rfl rfl rfl) (fun w h => Sat.iE h _ _) ⟨none, 0, T, hT, rfl, rfl, rfl⟩
   ·simp only [decide_eq_true_eq, decide_eq_false_iff_not] at hc1
    have h1 := hc1
    rw [if_neg h1] at hX
    refine WC.skip (WC.sr (WL.mv rfl rfl (WL.nc rfl rfl (WL.val (V.fieldAddr tK (OV.p rfl)) rfl ?_))))
    refine WL.val (V.load Tryz.isAgg58 (OV.p rfl) (fun _ => Rd.up (Rd.up (bC.rF 0 _ rfl)))) rfl ?_
    refine WL.mv rfl rfl (WL.call (vs := [_, _, _]) Tryz.call70 ⟨OV.p rfl, OV.p rfl, OV.p rfl, trivial⟩ (qd hC hg b 0) rfl ?_)
    rintro _ _ ⟨Ad, cd, rfl, rfl⟩
    obtain ⟨G, hG⟩ : ∃ G, G = C.sem.bG b 0 := ⟨_, rfl⟩
    have Qo := hC.oU b 0
    rw [← hG] at Qo hX ⊢
    refine WL.mv rfl rfl (WL.xt rfl rfl rfl (WL.xt rfl rfl rfl (WL.xt rfl rfl rfl (WL.sg rfl rfl (WL.sg rfl rfl (WL.sg rfl rfl (WL.nil (WC.seq (WC.sr (WL.mv rfl rfl (WL.val (V.neq (OV.p rfl) (OV.p rfl)) rfl (WL.nil ?_))))))))))))
    refine WC.cond rfl (fun hc2 => ?_) (fun hc2 => ?_)
    ·simp only [Bool.not_eq_true', Bool.not_eq_false', decide_eq_true_eq, decide_eq_false_iff_not] at hc2
     have h2 := hc2
     rw [if_pos h2] at hX
     refine WC.sr (WL.mv rfl rfl (WL.mv rfl rfl ?_))
     refine WL.sub (Sub.refl _) (fun w h => h.sel 4 [3, 1, 2] rfl) ?_
     refine WL.call (vs := [_, _]) Tryz.call55 ⟨OV.p rfl, OV.p rfl, trivial⟩ (kW G.err) rfl ?_
     rintro _ _ ⟨rfl, rfl⟩
     refine WL.sg rfl rfl (WL.sg rfl rfl (WL.sg rfl rfl (WL.nil (WC.ret ?_))))
     subst hX
     exact ak.ret (H' := aZ (.slice none 0 0) 5 1 0 [] :: C.A bc :: bO bd bc g :: (T.told G.err).A bs bd g :: F) (aQ.vV rfl rfl rfl rfl) (fun w h => Sat.iE (h.sel 3 [1, 2, 0] rfl) _ _) ⟨none, 0, T.told G.err, hT.told _, rfl, rfl, rfl⟩
    ·simp only [Bool.not_eq_true', Bool.not_eq_false', decide_eq_true_eq, decide_eq_false_iff_not] at hc2
     have h2 := hc2
     rw [if_neg (fun h => h (by omega))] at hX
     obtain ⟨pe, hpe⟩ : ∃ pe, pe = gG g G.d := ⟨_, rfl⟩
     obtain ⟨ph, NW⟩ : ∃ ph, ph = eB g G.d := ⟨_, rfl⟩
     rw [← hpe, ← NW] at hX
     refine WC.skip (WC.sr (WL.mv rfl rfl (WL.nc rfl rfl (WL.val (V.fieldAddr mH (OV.p rfl)) rfl ?_))))
     refine WL.val (V.bB (vs := [.int .i64 g.bl, .int .i64 g.pg, .int .i64 g.se, .int .i64 g.sb, .int .i64 g.fl]) ⟨Tryz.isAgg23, Tryz.sizeOf23⟩ (OV.p rfl) rfl (fun _ => bA.up (bA.up (bA.up bC.PG)))) rfl ?_
     refine WL.mv rfl rfl ?_
     refine WL.call (vs := [_, _]) Tryz.call71 ⟨OV.p rfl, OV.p rfl, trivial⟩ (aJ.eq (v' := .tuple #[ph.v, .int .i64 pe]) (zY (d := G.d) hgm (aZ.seq (by rw [aG, Nat.mul_one])) Qo.1 (by omega)) (by rw [NW, hpe])) rfl ?_
     rintro _ H0 ⟨rfl, h0⟩
     subst H0
     refine WL.mv rfl rfl (WL.xt rfl rfl rfl (WL.xt rfl rfl rfl ?_))
     refine WL.alloc (cs := [(.int .i64 0), (.int .i64 0), (.int .i64 0)]) Tryz.zeroValue107 rfl rfl (fun b12 => ?_)
     refine WL.store (cs := [_, _, _]) Tryz.sizeOf107 (OV.p rfl) (OV.p rfl) rfl rfl rfl (by repeat (first | exact bD.here (cs' := [_, _, _]) rfl rfl | apply bD.up)) ?_
     refine WL.sg rfl rfl (WL.nil (WC.seq (WC.sr (WL.mv rfl rfl (WL.val (V.neq (OV.p rfl) (OV.p rfl)) rfl (WL.nil ?_))))))
     refine WC.cond rfl (fun hc3 => ?_) (fun hc3 => ?_)
     ·simp only [Bool.not_eq_true', Bool.not_eq_false', decide_eq_true_eq, decide_eq_false_iff_not] at hc3
      have h3 := hc3
      rw [if_pos h3] at hX
      refine WC.sr (WL.mv rfl rfl (WL.sg rfl rfl (WL.sg rfl rfl (WL.sg rfl rfl (WL.nil (WC.ret ?_))))))
      subst hX
      exact ak.ret (H' := aZ (.slice none 0 0) 5 1 0 [] :: C.A bc :: bO bd bc g :: T.A bs bd g :: F) (aQ.vV rfl rfl rfl rfl) (fun w h => Sat.iE (h.sel 5 [2, 3, 4] rfl) _ _) ⟨none, 0, T, hT, rfl, rfl, rfl⟩
     ·simp only [Bool.not_eq_true', Bool.not_eq_false', decide_eq_true_eq, decide_eq_false_iff_not] at hc3
      have h3 := hc3
      have hp0 : pe = 0 := by omega
      rw [if_neg (fun h => h hp0)] at hX
      have Dz : ph.may g = true := by rw [NW]; exact (D9 hgm (by rw [← hpe]; exact hp0)).1
      have hmb := Dz
      unfold Hd.may at hmb
      simp only [Bool.and_eq_true, decide_eq_true_eq] at hmb
      have hfit := hmb.1.1.1.1
      have NH := hfit
      unfold Geo.fits at NH
      simp only [Bool.and_eq_true, decide_eq_true_eq] at NH
      have hcb := Geo.oZ hgm
      have hpf := Geo.Bc hgm hfit
      obtain ⟨N, hN⟩ : ∃ N : Nat, g.aW ph.len = (N : Int) := ⟨(g.aW ph.len).toNat, by omega⟩
      rw [hN, Int.toNat_natCast] at hX
      rw [hN] at hpf
      obtain ⟨ln, hln⟩ : ∃ ln : Nat, ph.len = (ln : Int) := ⟨ph.len.toNat, by omega⟩
      refine WC.skip (WC.sr (WL.sg rfl rfl (WL.nil (WC.seq ?_))))
      refine WC.dP (by kernel_rfl) (by kernel_rfl) ?_
      refine WQ.val (V.move (OV.p rfl)) rfl (WQ.val (V.nilCheck (OV.p rfl)) rfl (WQ.val (V.fieldAddr mH (OV.p rfl)) rfl ?_))
      refine WQ.val (V.bB (vs := [.int .i64 g.bl, .int .i64 g.pg, .int .i64 g.se, .int .i64 g.sb, .int .i64 g.fl]) ⟨Tryz.isAgg23, Tryz.sizeOf23⟩ (OV.p rfl) rfl (fun _ => by repeat (first | exact bC.PG | apply bA.up))) rfl ?_
      refine WQ.val (V.fieldAddr uy (OV.p rfl)) rfl ?_
      refine WQ.val (V.load Tryz.isAgg3 (OV.p rfl) (fun _ => by repeat (first | exact Rd.here rfl | apply Rd.up))) rfl ?_
      refine WQ.call (vs := [_, _]) Tryz.call72 ⟨OV.p rfl, OV.p rfl, trivial⟩ (aJ.eq (v' := .tuple #[.int .i64 (N : Int), .int .i64 0]) (rY hgm (by omega)) (by rw [hfit, hN]; rfl)) rfl ?_
      refine WQ.val (V.move (OV.p rfl)) rfl (WQ.val (V.extract (OV.p rfl) rfl) rfl (WQ.val (V.extract (OV.p rfl) rfl) rfl (WQ.val (V.assign (OV.p rfl)) rfl (WQ.val (V.assign (OV.p rfl)) rfl (WQ.nil (WC.seq (WC.seq ?_)))))))
      refine WC.sub (H' := C.A bc :: bO bd bc g :: T.A bs bd g :: aZ (.slice none 0 0) 5 1 0 [] :: Cells b12 107 [.int .i64 ph.aC, .int .i64 ph.len, .int .i64 ph.num] :: F) (Sub.refl _) (fun w h => (Sat.iE (h.sel 5 [0, 2, 3, 4] rfl) 5 1).sel 5 [2, 3, 4, 0, 1] rfl) ?_
      have hsz : ∀ k, k ≤ N → (fA C.sem b G.n k).err = 0 → (fA C.sem b G.n k).d.length = k * g.room.toNat := fun k => by
        induction k with
        | zero => intro _ _; show ([] : List Nat).length = _; simp
        | succ k ih =>
          intro hk he
          rw [fA] at he ⊢
          split at he
          · rename_i h; exact absurd he h
          · rename_i h
            rw [if_neg h]
            split at he
            · rename_i h'; exact absurd he h'
            · rename_i h'
              rw [if_neg h']
              have h4 := hC.G5 (b := b) (p := 1 + (k : Int)) (by omega)
              show ((fA C.sem b G.n k).d ++ (C.sem.bG b (1 + (k : Int))).d).length = _
              rw [List.length_append, ih (by omega) (by omega), h4, hg, Nat.succ_mul]
      refine WC.region (WL.mv rfl rfl (WL.mv rfl rfl (WL.nil (WC.block ?_))))
      refine WC.loop (σ := Nat × Option Addr × Nat) (fun s => [(0, ptr bs 0), (8, .int .i64 b), (10, .int .i64 ((fA C.sem b G.n s.1).n : Nat)), (12, ptr b12 0), (13, .slice s.2.1 (fA C.sem b G.n s.1).d.length s.2.2), (72, .int .i64 (N : Int)), (73, .int .i64 (s.1 : Int))]) (fun s => C.A bc :: bO bd bc g :: T.A bs bd g :: aZ (.slice s.2.1 (fA C.sem b G.n s.1).d.length s.2.2) 5 1 (fA C.sem b G.n s.1).d.length (aA .u8 (fA C.sem b G.n s.1).d) :: Cells b12 107 [.int .i64 ph.aC, .int .i64 ph.len, .int .i64 ph.num] :: F) (fun s => s.1 ≤ N ∧ (fA C.sem b G.n s.1).err = 0) (fun s => N - s.1) (0, none, 0) ⟨Nat.zero_le _, rfl⟩ (.cons rfl (.cons rfl (.cons rfl (.cons rfl (.cons rfl (.cons rfl (.cons rfl (.nil _)))))))) (fun w h => h) ?_
      rintro ⟨k, Ao, co⟩ ⟨hk, hke⟩
      dsimp only at hk hke ⊢
      obtain ⟨r, hr⟩ : ∃ r, r = fA C.sem b G.n k := ⟨_, rfl⟩
      have hrl := hsz k hk hke
      rw [← hr] at hke hrl ⊢
      have hkN : k * g.room.toNat ≤ 63 * 4096 := Nat.mul_le_mul (by omega) (by omega)
      refine WC.sr (WL.val (V.lss (OV.p rfl) (OV.p rfl)) rfl (WL.nil (WC.seq ?_)))
      refine WC.cond rfl (fun hc4 => ?_) (fun hc4 => ?_)
      ·simp only [decide_eq_true_eq, decide_eq_false_iff_not] at hc4
       have hkl : k < N := by omega
       have hst : fA C.sem b G.n (k + 1) = if (C.sem.bG b (1 + (k : Int))).err ≠ 0 then ⟨(C.sem.bG b (1 + (k : Int))).err, [], 0⟩ else ⟨0, r.d ++ (C.sem.bG b (1 + (k : Int))).d, max r.n (C.sem.bG b (1 + (k : Int))).n⟩ := by rw [fA, ← hr, if_neg (fun h => h hke)]
       refine WC.skip (WC.seq (WC.block (WC.sr (WL.mv rfl rfl (WL.sg rfl rfl (WL.nil (WC.sr (WL.mv rfl rfl (WL.nc rfl rfl (WL.val (V.fieldAddr tK (OV.p rfl)) rfl ?_))))))))))
       refine WL.val (V.load Tryz.isAgg58 (OV.p rfl) (fun _ => Rd.up (Rd.up (bC.rF 0 _ rfl)))) rfl ?_
       refine WL.mv rfl rfl (WL.mv rfl rfl (WL.ad rfl rfl rfl ?_))
       refine WL.call (vs := [_, _, _]) Tryz.call70 ⟨OV.p rfl, OV.p rfl, OV.p rfl, trivial⟩ (qd hC hg b (1 + (k : Int))) rfl ?_
       rintro _ _ ⟨A2, c2, rfl, rfl⟩
       have RU := hC.oU b (1 + (k : Int))
       obtain ⟨G2, hG2⟩ : ∃ G2, G2 = C.sem.bG b (1 + (k : Int)) := ⟨_, rfl⟩
       rw [← hG2] at hst RU ⊢
       refine WL.mv rfl rfl (WL.xt rfl rfl rfl (WL.xt rfl rfl rfl (WL.xt rfl rfl rfl (WL.sg rfl rfl (WL.sg rfl rfl (WL.sg rfl rfl (WL.nil (WC.seq (WC.sr (WL.mv rfl rfl (WL.val (V.neq (OV.p rfl) (OV.p rfl)) rfl (WL.nil ?_))))))))))))
       refine WC.cond rfl (fun mP => ?_) (fun mP => ?_)
       ·simp only [Bool.not_eq_true', Bool.not_eq_false', decide_eq_true_eq, decide_eq_false_iff_not] at mP
        have h5 := mP
        rw [if_pos h5] at hst
        have hNe : fA C.sem b G.n N = ⟨G2.err, [], 0⟩ := by
          have := BI (S := C.sem) (b := b) (n0 := G.n) (k := k + 1) (by rw [hst]; exact h5) (N - (k + 1))
          rw [show k + 1 + (N - (k + 1)) = N by omega, hst] at this
          exact this
        rw [hNe, if_pos h5] at hX
        refine WC.sr (WL.mv rfl rfl (WL.mv rfl rfl ?_))
        refine WL.sub (Sub.refl _) (fun w h => h.sel 6 [3, 1, 2] rfl) ?_
        refine WL.call (vs := [_, _]) Tryz.call55 ⟨OV.p rfl, OV.p rfl, trivial⟩ (kW G2.err) rfl ?_
        rintro _ _ ⟨rfl, rfl⟩
        refine WL.sg rfl rfl (WL.sg rfl rfl (WL.sg rfl rfl (WL.nil (WC.ret ?_))))
        subst hX
        exact ak.ret (H' := aZ (.slice none 0 0) 5 1 0 [] :: C.A bc :: bO bd bc g :: (T.told G2.err).A bs bd g :: F) (aQ.vV rfl rfl rfl rfl) (fun w h => Sat.iE (h.sel 3 [1, 2, 0] rfl) _ _) ⟨none, 0, T.told G2.err, hT.told _, rfl, rfl, rfl⟩
       ·simp only [Bool.not_eq_true', Bool.not_eq_false', decide_eq_true_eq, decide_eq_false_iff_not] at mP
        have h5 := mP
        rw [if_neg (fun h => h (by omega))] at hst
        refine WC.skip (WC.sr (WL.mv rfl rfl (WL.mv rfl rfl ?_)))
        refine WL.sub (Sub.refl _) (fun w h => h.sel 5 [4, 0, 1, 2, 3] rfl) ?_
        refine WL.append (m := r.d.length) (q := G2.d.length) (news := aA .u8 G2.d) Tryz.underlying43 wX (OV.p rfl) (OV.p rfl) (aZ.seq (by rw [aG, Nat.mul_one])) (ny .u8 G2.d) (by omega) rfl rfl (fun A5 c5 Hz mP => ?_)
        refine WL.sg rfl rfl (WL.nil (WC.region (WL.mv rfl rfl (WL.mv rfl rfl (WL.val (V.max (OV.p rfl) (OV.p rfl)) rfl (WL.sg rfl rfl (WL.nil (WC.region (WL.ad rfl rfl rfl ?_)))))))))
        refine WL.mv rfl rfl (WL.nil ?_)
        refine ⟨rfl, ?_⟩
        refine ⟨(k + 1, A5, c5), ⟨hkl, by rw [hst]⟩, (by show N - (k + 1) < N - k; omega), .cons rfl (.cons rfl (.cons (look_eq rfl (by dsimp only; rw [hst]; dsimp only; refine congrArg (Value.int .i64) ?_; omega)) (.cons rfl (.cons (look_eq rfl (by dsimp only; rw [hst]; dsimp only; rw [List.length_append])) (.cons rfl (.cons (look_eq rfl (by simp)) (.nil _))))))), fun w h => ?_⟩
        dsimp only
        rw [hst]
        dsimp only
        rw [List.length_append, dz]
        exact h.sel 6 [2, 3, 4, 0, 5] rfl
      ·simp only [decide_eq_true_eq, decide_eq_false_iff_not] at hc4
       refine WC.exit (WC.seq ?_)
       obtain rfl : k = N := by omega
       rw [← hr, if_neg (fun h => h hke)] at hX
       have hlr : ln ≤ r.d.length := by
         have h6 := hpf.2.2.1
         rw [hln] at h6
         have h7 : ((k * g.room.toNat : Nat) : Int) = (k : Int) * g.room := by rw [Int.natCast_mul]; congr 1; omega
         omega
       have SK : X.1.d = r.d.take ln := by rw [hX, hln]; rfl
       have Sq : X.1.d.length = ln := by rw [SK, List.length_take]; omega
       refine WC.have_ (p := r.d.length ≤ co) (fun w h => by
         have h9 := h.sel 4 [3] rfl
         obtain ⟨_, cap', hv, hle, _⟩ := aZ.shape h9.head
         injection hv with _ _ e3
         rw [e3]; exact hle) (fun hrc => ?_)
       refine WC.region (WL.mv rfl rfl (WL.val (V.fieldAddr uy (OV.p rfl)) rfl (WL.ld Tryz.isAgg3 rfl rfl ?_)))
       refine WL.val (V.aB (v' := .slice Ao ln co) (V.slice (l := 0) (h := ln) (u := co) eZ (OV.p rfl) OO.none (OO.some (OV.p rfl) (fun _ => hln)) OO.none (by simp) (Nat.zero_le _) (by omega) (Nat.le_refl _)) (fun _ => by rw [Nat.sub_zero, Nat.sub_zero, Je])) rfl ?_
       refine WL.mv rfl rfl (WL.sg rfl rfl (WL.sg rfl rfl (WL.sg rfl rfl (WL.nil (WC.ret ?_)))))
       refine ak.ret (H' := aZ (.slice Ao X.1.d.length co) 5 1 X.1.d.length (aA .u8 X.1.d) :: C.A bc :: bO bd bc g :: T.A bs bd g :: F) (aQ.vV rfl rfl rfl rfl) (fun w h => ?_) ⟨Ao, co, T, hT, by rw [hX], by rw [Sq, hX], rfl⟩
       have h9 := Nv hlr w (h.sel 5 [3, 0, 1, 2] rfl)
       rw [gy, ← SK] at h9
       rw [Sq]
       exact h9
end
def Jz (b : Int) (xs : List Int) : Int := if b ∈ xs then (xs.idxOf b : Int) else -1
theorem OU {b : Int} {xs : List Int} {i : Nat} (h : i < xs.length) (hp : b ∉ xs.take i) (he : b = xs.getD i 0) : Jz b xs = (i : Int) := by
  have hget : xs.getD i 0 = xs[i] := by simp [List.getD, h]
  rw [hget] at he
  have hx : xs = xs.take i ++ b :: xs.drop (i + 1) := by
    rw [he, ← List.drop_eq_getElem_cons h, List.take_append_drop]
  have hb : b ∈ xs := by rw [he]; exact List.getElem_mem _
  unfold Jz
  rw [if_pos hb]
  have : xs.idxOf b = i := by
    rw [hx, List.idxOf_append, if_neg hp, List.idxOf_cons_self, List.length_take]; omega
  rw [this]
theorem K7 {b : Int} {xs : List Int} : decide (Jz b xs ≥ 0) = decide (b ∈ xs) := by
  unfold Jz
  by_cases h : b ∈ xs
  · rw [if_pos h]; simp [h]
  · rw [if_neg h]; simp [h]
section
variable {K : World} {F : List aj}
theorem FY {A : Option Addr} {m cap : Nat} {xs : List Int} (hs : Seq K F A m 1 (ints .i64 xs)) (hm : m ≤ 1000000) (b : Int) :
    aJ Tryz.prog 111 #[.slice A m cap, .int .i64 b] K F (.int .i64 (Jz b xs)) := by
  have hl : xs.length = m := by simpa [ints] using hs.len
  refine Does.enter Tryz.func111 rfl Tryz.ntmps111 rfl ?_
  simp only [aH, Nat.reduceAdd]
  refine WC.sr (WL.sg rfl rfl (WL.nil (WC.seq (WC.sr (WL.mv rfl rfl (WL.val (V.len (t := 24) Tryz.runUnderlying24 (OV.p rfl)) rfl (WL.mv rfl rfl (WL.nil (WC.block ?_)))))))))
  refine WC.loop (σ := Nat) (fun i => [(0, .slice A m cap), (1, .int .i64 b), (7, .int .i64 (m : Int)), (8, .int .i64 (i : Int))]) (fun i => F) (fun i => i ≤ m ∧ b ∉ xs.take i) (fun i => m - i) 0 ⟨Nat.zero_le _, by simp⟩ (.cons rfl (.cons rfl (.cons rfl (.cons rfl (.nil _))))) (fun w h => h) ?_
  rintro i ⟨hi, hp⟩
  refine WC.sr (WL.val (V.lss (OV.p rfl) (OV.p rfl)) rfl (WL.nil (WC.seq ?_)))
  refine WC.cond rfl (fun hc0 => ?_) (fun hc0 => ?_)
  ·simp only [decide_eq_true_eq, decide_eq_false_iff_not] at hc0
   have him : i < m := by omega
   have hti : (i : Int).toNat = i := by omega
   have hget : xs.getD i 0 = xs[i]'(by omega) := by simp [List.getD, show i < xs.length by omega]
   refine WC.skip (WC.seq (WC.block (WC.sr (WL.mv rfl rfl (WL.sg rfl rfl (WL.nil (WC.sr (WL.mv rfl rfl (WL.mv rfl rfl (WL.mv rfl rfl ?_))))))))))
   refine WL.val (V.eP cO (OV.p rfl) (OV.p rfl) (fun hc => by omega) (fun hc => Seq.lF hs (by omega))) rfl ?_
   refine WL.val (V.load Tryz.isAgg3 (OV.p rfl) (fun hc => Seq.lF hs (by omega))) rfl ?_
   refine WL.val (V.eql (OV.p rfl) (OV.p rfl)) rfl (WL.nil ?_)
   refine WC.cond rfl (fun hc1 => ?_) (fun hc1 => ?_)
   ·simp only [decide_eq_true_eq, decide_eq_false_iff_not, hti] at hc1
    have h1 := hc1
    refine WC.sr (WL.mv rfl rfl (WL.sg rfl rfl (WL.nil (WC.ret ?_))))
    exact ak.ret (H' := F) (aQ.tmp rfl rfl) (fun w h => h) ⟨by rw [OU (by omega) hp h1], rfl⟩
   ·simp only [decide_eq_true_eq, decide_eq_false_iff_not, hti] at hc1
    have h1 := hc1
    refine WC.skip (WC.region (WL.ad rfl rfl rfl ?_))
    refine WL.mv rfl rfl (WL.nil ?_)
    refine ⟨rfl, ?_⟩
    refine ⟨i + 1, ⟨by show i + 1 ≤ m; omega, ?_⟩, (by show m - (i + 1) < m - i; omega), .cons rfl (.cons rfl (.cons rfl (.cons (look_eq rfl (by simp)) (.nil _)))), fun w h => h⟩
    rw [List.take_add_one, List.getElem?_eq_getElem (by omega), ← hget]
    simp only [Option.toList, List.mem_append, List.mem_singleton]
    rintro (h | h)
    · exact hp h
    · exact h1 h
  ·simp only [decide_eq_true_eq, decide_eq_false_iff_not] at hc0
   refine WC.exit (WC.sr (WL.sg rfl rfl (WL.nil (WC.ret ?_))))
   obtain rfl : i = m := by omega
   rw [List.take_of_length_le (by omega)] at hp
   exact ak.ret (H' := F) (aQ.tmp rfl rfl) (fun w h => h) ⟨by unfold Jz; rw [if_neg hp], rfl⟩
theorem rJ {A : Option Addr} {m cap : Nat} {xs : List Int} (hs : Seq K F A m 1 (ints .i64 xs)) (hm : m ≤ 1000000) (b : Int) :
    aJ Tryz.prog 83 #[.slice A m cap, .int .i64 b] K F (.bool (decide (b ∈ xs))) := by
  refine Does.enter Tryz.func83 rfl Tryz.ntmps83 rfl ?_
  simp only [aH, Nat.reduceAdd]
  refine WC.sr (WL.sg rfl rfl (WL.nil (WC.sr (WL.mv rfl rfl (WL.mv rfl rfl (WL.call (vs := [_, _]) Tryz.call111 ⟨OV.p rfl, OV.p rfl, trivial⟩ (FY hs hm b) rfl ?_))))))
  rintro _ H0 ⟨rfl, h0⟩
  subst H0
  refine WL.val (V.geq (OV.p rfl) (OV.p rfl)) rfl (WL.sg rfl rfl (WL.nil (WC.ret ?_)))
  exact ak.ret (H' := F) (aQ.tmp rfl rfl) (fun w h => h) ⟨by rw [K7], rfl⟩
theorem Iw {b3 : Nat} {b : Int} (hb : Rd K F (some ⟨b3, 0, none⟩) (.int .i64 b)) (x : Int) : aJ Tryz.prog 84 ([Value.int .i64 x] ++ [ptr b3 0]).toArray K F (.bool (decide (x = b))) := by
  simp only [List.cons_append, List.nil_append]
  refine Does.enter Tryz.func84 rfl Tryz.ntmps84 rfl ?_
  simp only [aH, Nat.reduceAdd]
  refine WC.sr (WL.sg rfl rfl (WL.nil (WC.sr (WL.mv rfl rfl ?_))))
  refine WL.val (V.load Tryz.isAgg3 (OV.p rfl) (fun hc => hb)) rfl ?_
  refine WL.val (V.eql (OV.p rfl) (OV.p rfl)) rfl (WL.sg rfl rfl (WL.nil (WC.ret ?_)))
  exact ak.ret (H' := F) (aQ.tmp rfl rfl) (fun w h => h) ⟨rfl, rfl⟩
end
def dV (b : Int) (l : List Int) : List Int := l.filter fun x => !decide (x = b)
def St.forget (T : St) (b : Int) : St := { T with stale := T.stale.map (dV b) }
section
variable {bs bd bc : Nat} {g : Geo} {T : bC} {C : Cw} {K : World} {F : List aj}
theorem CO (hT : T.Ok g) (b : Int) : Does Tryz.prog 53 #[ptr bs 0, .int .i64 b] K (T.A bs bd g :: F)
    (fun v H' => ∃ T' : bC, T'.Ok g ∧ T'.sem = T.sem.forget b ∧ H' = T'.A bs bd g :: F) := by
  have TM : T.bY.length ≤ 64 := by rw [hT.len]; exact hT.au.2
  refine Does.Ob ?_
  dsimp only [bC.parts, List.cons_append, List.nil_append]
  refine Does.enter Tryz.func53 rfl Tryz.ntmps53 rfl ?_
  simp only [aH, Nat.reduceAdd]
  refine WC.sr ?_
  refine WL.box (cs := [_]) (OV.p rfl) rfl rfl (fun b3 => ?_)
  refine WL.nil (WC.sr (WL.mv rfl rfl (WL.nc rfl rfl (WL.val (V.fieldAddr rX (OV.p rfl)) rfl (WL.ld Tryz.isAgg87 rfl rfl ?_)))))
  refine WL.val (V.len (t := 87) Tryz.runUnderlying87 (OV.p rfl)) rfl (WL.mv rfl rfl (WL.nil (WC.block ?_)))
  refine WC.loop (σ := Nat × List aX) (fun s => [(0, ptr bs 0), (3, ptr b3 0), (9, .slice (some ⟨T.b8, 0, none⟩) T.bY.length T.bY.length), (10, .int .i64 (T.bY.length : Int)), (11, .int .i64 (s.1 : Int))]) (fun s => Cells T.b8 24 (s.2.map aX.v) :: bF (s.2.map aX.row) :: Cells b3 3 [.int .i64 b] :: Cells bs 89 (T.cells bd g) :: T.sl :: F) (fun s => s.1 ≤ T.bY.length ∧ s.2.length = T.bY.length ∧ s.2.map aX.l = (T.bY.take s.1).map (fun r => dV b r.l) ++ (T.bY.drop s.1).map aX.l) (fun s => T.bY.length - s.1) (0, T.bY) ⟨Nat.zero_le _, rfl, by simp⟩ (.cons rfl (.cons rfl (.cons rfl (.cons rfl (.cons rfl (.nil _)))))) (fun w h => h.sel 5 [3, 4, 0, 1, 2] rfl) ?_
  rintro ⟨j, bY⟩ ⟨hj, hil, his⟩
  dsimp only at hj hil his ⊢
  have hcl : (T.cells bd g)[7]? = some (.slice (some ⟨T.b8, 0, none⟩) T.bY.length T.bY.length) := rfl
  refine WC.sr (WL.val (V.lss (OV.p rfl) (OV.p rfl)) rfl (WL.nil (WC.seq ?_)))
  refine WC.cond rfl (fun hc0 => ?_) (fun hc0 => ?_)
  ·simp only [decide_eq_true_eq, decide_eq_false_iff_not] at hc0
   have hjn : j < T.bY.length := by omega
   obtain ⟨r, hr⟩ : ∃ r, r = bY[j]'(by omega) := ⟨_, rfl⟩
   have hrg : bY[j]? = some r := by rw [hr]; exact List.getElem?_eq_getElem (by omega)
   have Mj : (bY.map aX.v)[0 + ((j : Nat) : Int).toNat * 1]? = some r.v := by rw [show 0 + ((j : Nat) : Int).toNat * 1 = j by omega, List.getElem?_map, hrg]; rfl
   have hrow : (bY.map aX.row)[j]'(by rw [List.length_map]; omega) = r.row := by rw [List.getElem_map, hr]
   have hrl : r.l = (T.bY[j]'(by omega)).l := by
     have h1 : (bY.map aX.l)[j]? = some r.l := by rw [List.getElem?_map, hrg]; rfl
     rw [his, List.getElem?_append_right (by rw [List.length_map, List.length_take]; omega), List.length_map, List.length_take, show j - min j T.bY.length = 0 by omega, List.getElem?_map, List.getElem?_drop, Nat.add_zero, List.getElem?_eq_getElem (by omega)] at h1
     injection h1 with h1
     exact h1.symm
   refine WC.skip (WC.seq (WC.block (WC.sr (WL.mv rfl rfl ?_))))
   refine WL.val (V.bM zl (OV.p rfl) (OV.p rfl) (fun hc => by omega)) rfl ?_
   refine WL.val (V.load Tryz.isAgg24 (OV.p rfl) (fun _ => Rd.here Mj)) rfl ?_
   refine WL.sg rfl rfl (WL.sg rfl rfl (WL.nil ?_))
   refine WC.sub (H' := aZ (.slice r.A r.l.length r.c) 3 1 r.l.length (ints .i64 r.l) :: Cells T.b8 24 (bY.map aX.v) :: bF ((bY.map aX.row).eraseIdx j) :: Cells b3 3 [.int .i64 b] :: Cells bs 89 (T.cells bd g) :: T.sl :: F) (Sub.refl _) (fun w h => by
     have h4 := Sat.takeA (k := j) (by rw [List.length_map]; omega) (h.sel 2 [1, 0] rfl)
     rw [hrow] at h4
     exact h4.sel 3 [0, 2, 1] rfl) ?_
   refine WC.dK (bF ((bY.map aX.row).eraseIdx j) :: Cells b3 3 [.int .i64 b] :: Cells bs 89 (T.cells bd g) :: T.sl :: F) (by kernel_rfl) ?_
   refine WA.t 0 rfl (V.move (OV.p rfl)) (WA.t 1 rfl (V.nilCheck (OV.p rfl)) (WA.t 2 rfl (V.fieldAddr rX (OV.p rfl)) ?_))
   refine WA.t 3 rfl (V.load Tryz.isAgg87 (OV.p rfl) (fun _ => by repeat (first | exact Rd.here hcl | apply Rd.up))) ?_
   refine WA.t 4 rfl (V.move (OV.p rfl)) (WA.t 5 rfl (V.move (OV.p rfl)) (WA.t 6 rfl (V.makeFunc (us := []) (vs := [_]) trivial ⟨OV.p rfl, trivial⟩) (WA.o 7 rfl ?_)))
   refine WL.call (vs := [_, _]) Tryz.call60 ⟨OV.p rfl, OV.p rfl, trivial⟩ (zu (xs := r.l) (p := fun x => decide (x = b)) (zF := [ptr b3 0]) Tryz.call84 (fun x _ X => Iw (by repeat (first | exact Rd.here rfl | apply Rd.up)) x)) rfl ?_
   rintro _ _ ⟨q, hq, rfl, rfl⟩
   refine WL.nil ?_
   refine WA.t 8 rfl (V.bM zl (OV.p rfl) (OV.p rfl) (fun hc => by omega)) ?_
   refine WA.o 9 rfl ?_
   refine WL.store (cs := [_]) Tryz.sizeOf24 (OV.p rfl) (OV.p rfl) rfl rfl rfl (bD.up (bD.at_ (by rw [List.length_map]; omega))) ?_
   refine WL.nil (WA.fin (WC.region (WL.ad rfl rfl rfl ?_)))
   refine WL.mv rfl rfl (WL.nil ?_)
   refine ⟨rfl, ?_⟩
   refine ⟨(j + 1, bY.set j ⟨r.A, r.c, dV b r.l⟩), ⟨hjn, by show (bY.set _ _).length = T.bY.length; rw [List.length_set]; exact hil, ?_⟩, (by show T.bY.length - (j + 1) < T.bY.length - j; omega), .cons rfl (.cons rfl (.cons rfl (.cons rfl (.cons (look_eq rfl (by simp)) (.nil _))))), fun w h => ?_⟩
   · show (bY.set j _).map aX.l = (T.bY.take (j + 1)).map (fun r => dV b r.l) ++ (T.bY.drop (j + 1)).map aX.l
     rw [List.map_set, his, List.set_append_right _ _ (by rw [List.length_map, List.length_take]; omega), List.length_map, List.length_take, show j - min j T.bY.length = 0 by omega, List.drop_eq_getElem_cons (show j < T.bY.length by omega), List.map_cons, List.set_cons_zero, List.take_add_one, List.getElem?_eq_getElem (by omega), List.map_append, List.append_assoc]
     show _ ++ dV b r.l :: _ = _ ++ ([dV b (T.bY[j]'(by omega)).l] ++ _)
     rw [hrl]; rfl
   · subst hq
     have e1 : aZ (.slice r.A (r.l.filter fun x => !decide (x = b)).length r.c) 3 1 (r.l.filter fun x => !decide (x = b)).length (ints .i64 (r.l.filter fun x => !decide (x = b))) = aX.row ⟨r.A, r.c, dV b r.l⟩ := rfl
     rw [e1] at h
     have h6 := Sat.zM (l := bY.map aX.row) (k := j) (by rw [List.length_map]; omega) (h.sel 3 [0, 2, 1] rfl)
     have e2 : (bY.map aX.v).set (0 + (j : Int).toNat * 1) (.slice r.A (r.l.filter fun x => !decide (x = b)).length r.c) = (bY.set j ⟨r.A, r.c, dV b r.l⟩).map aX.v := by
       rw [show 0 + ((j : Nat) : Int).toNat * 1 = j by omega, List.map_set]; rfl
     rw [e2, ← List.map_set] at h6
     exact h6.p1
  ·simp only [decide_eq_true_eq, decide_eq_false_iff_not] at hc0
   refine WC.exit ?_
   obtain rfl : j = T.bY.length := by omega
   obtain ⟨T', hT'⟩ : ∃ T' : bC, T' = { T with bY := bY } := ⟨_, rfl⟩
   refine ak.normal (H' := T'.A bs bd g :: F) (aQ.none rfl) (fun w h => ?_) ⟨T', ?_, ?_, rfl⟩
   · refine Sat.all (l := bC.parts bs bd g T') (H := F) ?_
     rw [hT']
     unfold bC.parts bC.cells
     dsimp only
     rw [hil]
     exact h.sel 5 [3, 4, 0, 1] rfl
   · rw [hT']
     exact ⟨by show bY.length = T.stands.length; rw [hil, hT.len], hT.au, hT.next, hT.at_, hT.std⟩
   · rw [hT']
     unfold bC.sem St.forget
     dsimp only
     rw [his, List.take_of_length_le (by omega), List.drop_eq_nil_of_le (by omega)]
     simp
end
end Go.Proofs.YtcmojpiokjhmhaaGreat
namespace Go.Sl
open Go.RowKit Go.BigFrame
set_option linter.unusedVariables false
set_option linter.unusedSimpArgs false
def qY (ops : Array Oper) : Bool := ops.all fun o => match o.op with | .defer _ => false | _ => true
theorem Dp {ops : Array Oper} (h : qY ops = true) {i : Nat} {o : Oper} (hi : ops[i]? = some o) : ∀ c, o.op ≠ .defer c := fun c hc => by
  unfold qY at h
  rw [Array.all_eq_true_iff_forall_mem] at h
  have h1 := h o (Array.mem_of_getElem? hi)
  rw [hc] at h1
  cases h1
section
variable {P : Program} {q : Exit → Act → World → Prop} {ops : Array Oper} {md : Region.Mode} {l : Option Nat}
theorem MX {o : Oper} {a : Act} {K : Act → World → Prop} {x : Result Next} (h : o.upon P a K q x) : o.uponIn (zQ l) 0 P a K q x := by
  cases x with
  | ok nx w' =>
    cases nx <;> simp only [Oper.upon, Oper.uponIn] at h ⊢ <;> first
      | exact h
      | exact ⟨qG l, BZ.2 h⟩
      | (refine ⟨qG l, fun c cs _ => ?_⟩
         obtain ⟨v, w'', h1, h2⟩ := h c cs
         refine ⟨v, w'', h1, ?_⟩
         cases l
         · exact stepsIn_wide.2 h2
         · rw [fenced_inRound]; exact stepsIn_wide.2 h2)
  | halt x w' => cases x <;> simp only [Oper.upon, Oper.uponIn] at h ⊢ <;> exact h
theorem Nw (hnd : qY ops = true) (hlo : ¬ LetsOut q) {i : Nat} {S S' : Act → World → Prop} (hS : ∀ a w, S a w → S' a w) {a : Act} {w : World} (h : wpOp P ops q i S a w) : wpOpIn (zQ l) 0 P ops q i S' a w := by
  unfold wpOp at h
  unfold wpOpIn
  cases ho : ops[i]? with
  | none => rw [ho] at h; exact hS _ _ h
  | some o =>
    rw [ho] at h
    dsimp only at h ⊢
    split at h
    · rename_i hw
      rw [if_pos hw]
      rcases h with h | ⟨_, h⟩
      · refine ⟨fun f _ => tL _ f, ?_⟩
        rw [Oper.semAt_eq _ _ _ (Dp hnd ho)]
        exact MX (Oper.wp_mono hS h)
      · exact absurd h hlo
    · rename_i hw
      rw [if_neg hw]
      exact ⟨fun f _ => tL _ f, hS _ _ h⟩
theorem yX (hnd : qY ops = true) (hlo : ¬ LetsOut q) : ∀ (fuel : Nat) (listed : Array Bool) (a : Act) (w : World), wpAny P md ops q fuel listed a w → wpAnyIn (zQ l) 0 P md ops q fuel listed a w
  | 0, _, _, _, h => h
  | fuel + 1, _, _, _, h => ⟨h.1, fun i hi => Nw hnd hlo (fun a w hh => yX hnd hlo fuel _ a w hh) (h.2 i hi)⟩
end
abbrev OH (l : Option Nat) (Q : Post) : Post := fun Mo x e H => Q ⟨some l, Mo.ds⟩ x e H
section
variable {K : World} {H : List aj} {P : Program} {n : Nat} {e : Env} {Q : Post}
theorem DN {l : Option Nat} {x : Exit} {a : Act} {w : World} (h : lift none K n (OH l Q) x a w) : lift (some l) K n Q x a w := by
  obtain ⟨ds, e, H, h1, h2, h3⟩ := h
  exact ⟨ds, e, H, ⟨h1.defers, h1.size, h1.at_⟩, h2, h3⟩
theorem WC.jQ {l : Option Nat} {id : Nat} {os : List Oper} {ds : List Deferred} (F0 : List aj) (hm : P.follows .mixedOrders = true) (h : WA ⟨none, ds⟩ P K n F0 os.toArray (OH l Q) os.length (Array.replicate os.length false) e H)
    (hnd : qY os.toArray = true := by kernel_rfl) (hlo : ∀ (p : Mode × Env) H, ¬ Q p.1 .outgrown p.2 H := by exact fun _ _ h => h) : WC ⟨some l, ds⟩ P K n (.region id os.toArray true) Q e H := fun a w ha hw => by
  show (Code.region id os.toArray true).wpIn (zQ l) 0 P _ a w
  have hl : ¬ LetsOut (lift none K n (OH l Q)) := by
    rintro ⟨a, w, ds', e', H', _, _, h3⟩
    exact hlo (⟨some l, ds'⟩, e') H' h3
  have h1 := h a _ ⟨ha.defers, ha.size, ha.at_⟩ hw.drew
  have h2 := yX (l := l) hnd hl _ _ _ _ (sW (C := fun w => Sat K w F0) _ _ _ _ h1)
  have h3 : (Code.region id os.toArray true).wpIn (zQ l) 0 P (lift none K n (OH l Q)) a w := wpIn_region_any hm (by simpa using h2)
  exact wpIn_mono h3 fun x a w h => DN h
theorem WC.EG {l : Option Nat} {id : Nat} {os : List Oper} {ds : List Deferred} (hm : P.follows .mixedOrders = true) (hB : Region.lexB .any os.toArray = true) (h : WQ ⟨none, ds⟩ P K n os.toArray os (fun e' => Q ⟨some l, ds⟩ .normal e' H) e H)
    (hnd : qY os.toArray = true := by kernel_rfl) (hlo : ∀ (p : Mode × Env) H, ¬ Q p.1 .outgrown p.2 H := by exact fun _ _ h => h) : WC ⟨some l, ds⟩ P K n (.region id os.toArray true) Q e H := fun a w ha hw => by
  show (Code.region id os.toArray true).wpIn (zQ l) 0 P _ a w
  have hl : ¬ LetsOut (lift none K n (OH l Q)) := by
    rintro ⟨a, w, ds', e', H', _, _, h3⟩
    exact hlo (⟨some l, ds'⟩, e') H' h3
  have h1 := h a ⟨ha.defers, ha.size, ha.at_⟩
  simp only [Region.lexB, Bool.and_eq_true] at hB
  have h2 : wpAny P .any os.toArray (lift none K n (OH l Q)) os.toArray.size (Array.replicate os.toArray.size false) a { w with drawn := w.drawn + 1 } := by
    refine wpAny_of_quiet (C := fun w => Sat K w H) (Q := fun a' => ∃ e', Agree ⟨none, ds⟩ n e' a' ∧ Q ⟨some l, ds⟩ .normal e' H) (fun a' w' hw' ⟨e', k1, k2⟩ => ⟨ds, e', H, k1, hw', k2⟩) _ _ _ _ hw.drew ?_
    have := wpAnyQ_lex (C := fun w => Sat K w H) (md := .any) hB.1 os.toArray.toList 0 (Array.replicate os.toArray.size false) a (by simp) (by simpa using hB.2) (by simpa using h1)
    simpa using this
  have h3 : (Code.region id os.toArray true).wpIn (zQ l) 0 P (lift none K n (OH l Q)) a w := wpIn_region_any hm (yX hnd hl _ _ _ _ h2)
  exact wpIn_mono h3 fun x a w h => DN h
theorem WL.Om {Mo : Mode} {ops : Array Oper} {rest : List Oper} {ty : TypeId} {pos : String} {af : Array Edge} {d j dj : Nat} {want : Bool} {oj : Oper} {f : FuncId} {xs : List Operand} {vs : List Value} {ats : Array TypeId} {v gv : Value} {c : Bool} {R : List aj → Prop}
    (hj : ops[j]? = some oj) (hdj : oj.dst = some dj) (hl : look e dj = some gv) (hG : GC gv want c) (hf : eu P f) (hxs : Ec c e xs vs) (hF : c = true → Does P f vs.toArray K H (fun u H' => u = v ∧ R H')) (h0 : c = false → R H) (hd : Nat.blt d n = true)
    (h : ∀ H', R H' → WL Mo P K n ops rest Q ((d, cv c v) :: e) H') : WL Mo P K n ops (⟨some d, .call ⟨.value (.func f), xs.toArray, ats⟩, ty, pos, af, some (j, want)⟩ :: rest) Q e H := fun a w ha hw => by
  have hw' := Region.gY (o := ⟨some d, .call ⟨.value (.func f), xs.toArray, ats⟩, ty, pos, af, some (j, want)⟩) rfl hj hdj hl ha hG
  cases c with
  | false => exact kR hw' (h _ (h0 rfl) _ w (ha.put d hd _) hw)
  | true =>
    refine nJ hw' fun S hS => vP (qx hf (hxs.ev ha rfl)) ((hF rfl w hw).mono ?_)
    rintro _ w' ⟨u, H', rfl, h2, rfl, h3⟩
    exact ⟨_, rfl, hS _ _ (h H' h3 _ w' (ha.put d hd _) h2)⟩
end
def Joined {σ : Type} (M0 : Mode) (K : World) (E : σ → Env) (M : σ → List aj) (J : σ → Prop) (Q : Post) : Post
  | Mo, .normal, e, H => Mo = M0 ∧ ∃ s, J s ∧ Sub (E s) e ∧ ∀ w, Sat K w H → Sat K w (M s)
  | Mo, x, e, H => Q Mo x e H
theorem WC.join {Mo : Mode} {P : Program} {K : World} {n : Nat} {Q : Post} {e : Env} {H : List aj} {x y : Code} {σ : Type} (E : σ → Env) (M : σ → List aj) (J : σ → Prop)
    (hx : WC Mo P K n x (Joined Mo K E M J Q) e H) (hy : ∀ s, J s → WC Mo P K n y Q (E s) (M s)) : WC Mo P K n (.seq x y) Q e H :=
  WC.seq (WC.mono hx fun SS x e H h => by
    cases x
    case normal =>
      obtain ⟨rfl, s, hs, hE, hM⟩ := h
      exact WC.sub hE hM (hy s hs)
    all_goals exact h)
end Go.Sl
namespace Go.Proofs.YtcmojpiokjhmhaaGreat
open Go.Sl Go.RowKit
set_option linter.unusedVariables false
set_option linter.unusedSimpArgs false
set_option maxRecDepth 20000
section
variable {bs bd bc : Nat} {g : Geo} {K : World} {F : List aj}
theorem Jo : Does Tryz.prog 52 #[ptr bs 0] K F (fun v H' => ∃ b1, v = .func (.func 81) #[] #[ptr b1 0] ∧ H' = Cells b1 33 [ptr bs 0] :: F) := by
  refine Does.enter Tryz.func52 rfl Tryz.ntmps52 rfl ?_
  simp only [aH, Nat.reduceAdd]
  refine WC.sr ?_
  refine WL.box (cs := [_]) (OV.p rfl) rfl rfl (fun b1 => ?_)
  refine WL.sg rfl rfl (WL.nil (WC.sr (WL.val (V.makeFunc (us := []) (vs := [_]) trivial ⟨OV.p rfl, trivial⟩) rfl (WL.sg rfl rfl (WL.nil (WC.ret ?_))))))
  exact ak.ret (H' := Cells b1 _ _ :: F) (aQ.tmp rfl rfl) (fun w h => h) ⟨b1, rfl, rfl⟩
theorem Jd {l b1 : Nat} {Y1 Y2 : aj} {gd std : List Int} {xB : Int} {n : Nat} (hn : g.bl = (n : Int)) (hgm : g.aD) (hat : 0 ≤ xB ∧ xB < g.bl) (I : Nat → Cw → bC → Prop) (Stop : aj → List aj → Prop)
    (hI : ∀ j C T, I j C T → C.Ok ∧ C.g = g ∧ T.Ok g ∧ T.stands = std ∧ T.at_ = xB)
    (FK : ∀ j C T, j < n → ¬ ((xB + (j : Int)) % g.bl ∈ gd ∧ ¬ (xB + (j : Int)) % g.bl ∈ std) → I j C T → I (j + 1) C T)
    (sO : ∀ j C T X, j < n → ((xB + (j : Int)) % g.bl ∈ gd ∧ ¬ (xB + (j : Int)) % g.bl ∈ std) → I j C T → fu Tryz.prog K none l #[.int .i64 ((xB + (j : Int)) % g.bl)] (Y1 :: Y2 :: X :: C.A bc :: bO bd bc g :: T.A bs bd g :: Cells b1 33 [ptr bs 0] :: F)
      (fun b H' => (b = true ∧ ∃ C' T', I (j + 1) C' T' ∧ H' = Y1 :: Y2 :: X :: C'.A bc :: bO bd bc g :: T'.A bs bd g :: Cells b1 33 [ptr bs 0] :: F) ∨ (b = false ∧ Stop X H')))
    {C0 : Cw} {T0 : bC} (hgd : gd = C0.sem.good) (h0 : I 0 C0 T0) :
    Does Tryz.prog 81 #[.func (.yield l) #[] #[], ptr b1 0] K (Y1 :: Y2 :: C0.A bc :: bO bd bc g :: T0.A bs bd g :: Cells b1 33 [ptr bs 0] :: F)
      (fun v H' => ∃ X, (∃ C T, I n C T ∧ H' = Y1 :: Y2 :: X :: C.A bc :: bO bd bc g :: T.A bs bd g :: Cells b1 33 [ptr bs 0] :: F) ∨ Stop X H') := by
  have hgb := hgm
  unfold Geo.aD at hgb
  obtain ⟨hC0, PL, hT0, LQ, Uf⟩ := hI _ _ _ h0
  have hgl : gd.length ≤ 256 := by
    have h1 := ah.gq C0.sem C0.sem.g.bl.toNat
    have h2 : C0.sem.g.bl.toNat ≤ 256 := by rw [show C0.sem.g = C0.g from rfl, PL]; omega
    rw [hgd]; unfold ah.good; omega
  refine Does.LW Tryz.func81 rfl Tryz.ntmps81 rfl ?_
  simp only [aH, Nat.reduceAdd]
  refine WC.sr (WL.ld Tryz.isAgg33 rfl rfl ?_)
  refine WL.nc rfl rfl (WL.val (V.fieldAddr tK (OV.p rfl)) rfl ?_)
  refine WL.val (V.load Tryz.isAgg58 (OV.p rfl) (fun _ => by repeat (first | exact bC.rF 0 _ rfl | apply Rd.up))) rfl ?_
  refine WL.sub (Sub.refl _) (fun w h => h.sel 6 [2, 3, 0, 1, 4, 5] rfl) ?_
  refine WL.call (vs := [_]) Tryz.call82 ⟨OV.p rfl, trivial⟩ (wE hC0 PL) rfl ?_
  rintro _ _ ⟨Ag, cg, rfl, rfl⟩
  rw [← hgd]
  refine WL.sg rfl rfl (WL.nil (WC.sr (WL.ld Tryz.isAgg33 rfl rfl ?_)))
  refine WL.nc rfl rfl (WL.val (V.fieldAddr mH (OV.p rfl)) rfl (WL.val (V.fieldAddr iV (OV.p rfl)) rfl ?_))
  refine WL.val (V.load Tryz.isAgg3 (OV.p rfl) (fun _ => by repeat (first | exact bC.rF 1 _ rfl | apply Rd.up))) rfl ?_
  refine WL.mv rfl rfl (WL.nil (WC.block ?_))
  obtain ⟨X, hX⟩ : ∃ X, X = aZ (.slice Ag gd.length cg) 3 1 gd.length (ints .i64 gd) := ⟨_, rfl⟩
  rw [← hX]
  have F4 : ∀ {H : List aj}, Seq K (X :: H) Ag gd.length 1 (ints .i64 gd) := fun {H} => by rw [hX]; exact aZ.seq (by rw [aK, Nat.mul_one])
  refine WC.loop (σ := Nat × Cw × bC) (fun s => [(0, .func (.yield l) #[] #[]), (1, ptr b1 0), (3, .slice Ag gd.length cg), (15, .int .i64 (n : Int)), (16, .int .i64 (s.1 : Int))]) (fun s => Y1 :: Y2 :: X :: s.2.1.A bc :: bO bd bc g :: s.2.2.A bs bd g :: Cells b1 33 [ptr bs 0] :: F) (fun s => s.1 ≤ n ∧ I s.1 s.2.1 s.2.2) (fun s => n - s.1) (0, C0, T0) ⟨Nat.zero_le _, h0⟩ (.cons rfl (.cons rfl (.cons rfl (.cons (look_eq rfl (by rw [hn])) (.cons rfl (.nil _)))))) (fun w h => h.sel 7 [3, 4, 0, 1, 2, 5, 6] rfl) ?_
  rintro ⟨j, C, T⟩ ⟨hj, hIj⟩
  dsimp only at hj hIj ⊢
  obtain ⟨hC, UC, hT, hst, hat⟩ := hI _ _ _ hIj
  refine WC.sr (WL.val (V.lss (OV.p rfl) (OV.p rfl)) rfl (WL.nil (WC.seq ?_)))
  refine WC.cond rfl (fun hc0 => ?_) (fun hc0 => ?_)
  ·simp only [decide_eq_true_eq, decide_eq_false_iff_not] at hc0
   have hjn : j < n := by omega
   obtain ⟨b, hb⟩ : ∃ b, b = (xB + (j : Int)) % g.bl := ⟨_, rfl⟩
   have hro := sO j C T X hjn
   have hsk := FK j C T hjn
   rw [← hb] at hro hsk
   refine WC.skip (WC.seq (WC.block (WC.sr (WL.mv rfl rfl (WL.sg rfl rfl (WL.nil (WC.seq ?_)))))))
   refine WC.EG (by kernel_rfl) (by kernel_rfl) ?_
   refine WQ.val (V.load Tryz.isAgg33 (OV.p rfl) (fun hc => by repeat (first | exact Rd.here rfl | apply Rd.up))) rfl ?_
   refine WQ.val (V.nilCheck (OV.p rfl)) rfl (WQ.val (V.fieldAddr Cv (OV.p rfl)) rfl ?_)
   refine WQ.val (V.aB (v' := .int .i64 xB) (V.load Tryz.isAgg3 (OV.p rfl) (fun _ => by repeat (first | exact bC.rF 9 _ rfl | apply Rd.up))) (fun _ => by rw [hat])) rfl ?_
   refine WQ.val (V.move (OV.p rfl)) rfl ?_
   refine WQ.val (V.kL (OV.p rfl) (OV.p rfl) (fun hc => by first | omega | (simp at hc; omega))) rfl ?_
   refine WQ.val (V.load Tryz.isAgg33 (OV.p rfl) (fun hc => by repeat (first | exact Rd.here rfl | apply Rd.up))) rfl ?_
   refine WQ.val (V.nilCheck (OV.p rfl)) rfl (WQ.val (V.fieldAddr mH (OV.p rfl)) rfl (WQ.val (V.fieldAddr iV (OV.p rfl)) rfl ?_))
   refine WQ.val (V.load Tryz.isAgg3 (OV.p rfl) (fun _ => by repeat (first | exact bC.rF 1 _ rfl | apply Rd.up))) rfl ?_
   refine WQ.val (V.aB (v' := .int .i64 b) (V.mY (OV.p rfl) (OV.p rfl) (fun _ => by omega)) (fun _ => by rw [hb])) rfl ?_
   refine WQ.val (V.assign (OV.p rfl)) rfl (WQ.nil (WC.seq (WC.sr (WL.mv rfl rfl (WL.mv rfl rfl ?_)))))
   refine WL.call (vs := [_, _]) Tryz.call83 ⟨OV.p rfl, OV.p rfl, trivial⟩ (rJ (by repeat (first | exact F4 | apply Seq.up)) (by omega) b) rfl ?_
   rintro _ H0 ⟨rfl, h0⟩
   subst H0
   refine WL.val (V.not (OV.p rfl)) rfl (WL.mv rfl rfl ?_)
   refine WL.av (oj := _) rfl rfl rfl GC.f (V.load Tryz.isAgg33 (OV.p rfl) (fun hc => by repeat (first | exact Rd.here rfl | apply Rd.up))) rfl ?_
   refine WL.av (oj := _) rfl rfl rfl GC.f (V.nilCheck (OV.g rfl id)) rfl (WL.av (oj := _) rfl rfl rfl GC.f (V.fieldAddr ku (OV.g rfl id)) rfl ?_)
   refine WL.av (oj := _) rfl rfl rfl GC.f (V.load Tryz.isAgg24 (OV.g rfl id) (fun hc => by repeat (first | exact bC.rF 6 _ rfl | apply Rd.up))) rfl ?_
   refine WL.av (oj := _) rfl rfl rfl GC.f (V.move (OV.p rfl)) rfl ?_
   refine WL.iD (oj := _) (vs := [_, _]) rfl rfl rfl GC.f Tryz.call83 ⟨OV.g rfl id, OV.g rfl id, trivial⟩ (fun hg => rJ (by repeat (first | exact bC.Qg | apply Seq.up)) (by have := hT.au; omega) b) rfl ?_
   refine WL.val (V.bK (OV.p rfl) (OV.g rfl id)) rfl (WL.nil ?_)
   refine WC.cond rfl (fun hc1 => ?_) (fun hc1 => ?_)
   ·rw [hst] at hc1
    have h1 := hc1
    refine WC.exit (WC.region (WL.ad rfl rfl rfl ?_))
    refine WL.mv rfl rfl (WL.nil ?_)
    refine ⟨rfl, ?_⟩
    first
    | exact ⟨(j + 1, C2, T2), ⟨hjn, hI2⟩, (by show n - (j + 1) < n - j; omega), .cons rfl (.cons rfl (.cons rfl (.cons rfl (.cons (look_eq rfl (by simp)) (.nil _))))), fun w h => h⟩
    | exact ⟨(j + 1, C, T), ⟨hjn, hsk (fun hn => by simp only [Bool.or_eq_true, Bool.not_eq_true', decide_eq_false_iff_not, decide_eq_true_eq] at h1; rcases h1 with h | h; exact h hn.1; exact hn.2 h) hIj⟩, (by show n - (j + 1) < n - j; omega), .cons rfl (.cons rfl (.cons rfl (.cons rfl (.cons (look_eq rfl (by simp)) (.nil _))))), fun w h => h⟩
   ·rw [hst] at hc1
    have h1 := hc1
    refine WC.skip (WC.sr (WL.mv rfl rfl (WL.mv rfl rfl ?_)))
    refine WL.NY (r := none) (l := l) (vs := [_]) (OV.p rfl) ⟨OV.p rfl, trivial⟩ (hro (by simpa using h1) hIj) rfl ?_
    rintro yb YH hy
    refine WL.val (V.not (OV.p rfl)) rfl (WL.nil ?_)
    refine WC.cond rfl (fun hc2 => ?_) (fun hc2 => ?_)
    ·skip
     have h2 := hc2
     simp only [Bool.not_eq_true', Bool.not_eq_false'] at h2
     have hstop : Stop X YH := by
       rcases hy with ⟨h3, _⟩ | ⟨_, h3⟩
       · rw [h3] at h2; cases h2
       · exact h3
     refine WC.ret ?_
     exact ak.ret (H' := YH) (aQ.none rfl) (fun w h => h) ⟨X, .inr hstop⟩
    ·skip
     have h2 := hc2
     simp only [Bool.not_eq_true', Bool.not_eq_false'] at h2
     obtain ⟨C2, T2, hI2, rfl⟩ : ∃ C2 T2, I (j + 1) C2 T2 ∧ YH = Y1 :: Y2 :: X :: C2.A bc :: bO bd bc g :: T2.A bs bd g :: Cells b1 33 [ptr bs 0] :: F := by
       rcases hy with ⟨_, h3⟩ | ⟨h3, _⟩
       · exact h3
       · rw [h3] at h2; cases h2
     refine WC.skip (WC.region (WL.ad rfl rfl rfl ?_))
     refine WL.mv rfl rfl (WL.nil ?_)
     refine ⟨rfl, ?_⟩
     first
     | exact ⟨(j + 1, C2, T2), ⟨hjn, hI2⟩, (by show n - (j + 1) < n - j; omega), .cons rfl (.cons rfl (.cons rfl (.cons rfl (.cons (look_eq rfl (by simp)) (.nil _))))), fun w h => h⟩
     | exact ⟨(j + 1, C, T), ⟨hjn, hsk (fun hn => by simp only [Bool.or_eq_true, Bool.not_eq_true', decide_eq_false_iff_not, decide_eq_true_eq] at h1; rcases h1 with h | h; exact h hn.1; exact hn.2 h) hIj⟩, (by show n - (j + 1) < n - j; omega), .cons rfl (.cons rfl (.cons rfl (.cons rfl (.cons (look_eq rfl (by simp)) (.nil _))))), fun w h => h⟩
  ·simp only [decide_eq_true_eq, decide_eq_false_iff_not] at hc0
   refine WC.exit ?_
   obtain rfl : j = n := by omega
   exact ak.normal (H' := Y1 :: Y2 :: X :: C.A bc :: bO bd bc g :: T.A bs bd g :: Cells b1 33 [ptr bs 0] :: F) (aQ.none rfl) (fun w h => h) ⟨X, .inl ⟨C, T, hIj, rfl⟩⟩
end
end Go.Proofs.YtcmojpiokjhmhaaGreat
