import Derived.Test.YtcmojpiokjhmhaaGreatP11
import Derived.Test.YtcmojpiokjhmhaaGreatP29
import Derived.Test.YtcmojpiokjhmhaaGreatP4
import Derived.Test.YtcmojpiokjhmhaaGreatP10
import Derived.Test.YtcmojpiokjhmhaaGreatP28
namespace Go.Proofs.YtcmojpiokjhmhaaGreat
open Go.Sl Go.RowKit
set_option linter.unusedVariables false
set_option linter.unusedSimpArgs false
set_option maxRecDepth 20000
def iI (xs : List Int) : Nat → List Int
  | 0 => []
  | j + 1 => iI xs j ++ (if j = 0 ∨ xs.getD j 0 ≠ xs.getD (j - 1) 0 then [xs.getD j 0] else [])
def gT (xs : List Int) : List Int := iI xs xs.length
theorem nK {xs : List Int} {j : Nat} (h : j = 0 ∨ xs.getD j 0 ≠ xs.getD (j - 1) 0) : iI xs (j + 1) = iI xs j ++ [xs.getD j 0] := by rw [iI, if_pos h]
theorem rJ {xs : List Int} {j : Nat} (h0 : j ≠ 0) (h : xs.getD j 0 = xs.getD (j - 1) 0) : iI xs (j + 1) = iI xs j := by rw [iI, if_neg (by rintro (h' | h'); exact h0 h'; exact h' h), List.append_nil]
theorem rU {xs : List Int} {j : Nat} (h : j < xs.length) : xs.take (j + 1) = xs.take j ++ [xs.getD j 0] := by rw [List.take_add_one, List.getElem?_eq_getElem h]; simp [List.getD, h]
theorem Dg {A : Option Addr} {m cap : Nat} {xs : List Int} {K : World} {F : List ak} :
    Does Tryz.prog 63 #[.slice A m cap] K (aU (.slice A m cap) 3 1 m (ints .i64 xs) :: F)
      (fun v H' => ∃ q, q = (gT xs).length ∧ v = .slice A q cap ∧ H' = aU (.slice A q cap) 3 1 q (ints .i64 (gT xs)) :: F) := by
  refine Does.have_ (p := xs.length = m) (fun w hw => by have := aU.len hw; rwa [aG, Nat.mul_one] at this) (fun hl => ?_)
  by_cases hm2 : m < 2
  · have hc : gT xs = xs := by
      match xs, hl with
      | [], _ => rfl
      | [x], _ => rfl
      | _ :: _ :: _, h => simp at h; omega
    refine Does.enter Tryz.func63 rfl Tryz.ntmps63 rfl ?_
    simp only [aI, Nat.reduceAdd]
    refine WC.sr (WL.sg rfl rfl (WL.nil (WC.seq (WC.sr (WL.mv rfl rfl (WL.val (V.len (t := 24) Tryz.runUnderlying24 (OV.p rfl)) rfl (WL.val (V.lss (OV.p rfl) (OV.p rfl)) rfl (WL.nil ?_))))))))
    refine WC.dV rfl (by first | rfl | (simp; done) | (simp; omega)) ?_
    refine WC.sr (WL.mv rfl rfl (WL.sg rfl rfl (WL.nil (WC.ret ?_))))
    refine au.ret (H' := aU (.slice A m cap) _ 1 m (ints .i64 xs) :: F) (aO.tmp rfl rfl) (fun w h => h) ⟨m, by rw [hc, hl], rfl, by rw [hc]⟩
  · cases A with
    | none => exact Does.have_ (p := m = 0) (fun w hw => (aU.sM hw).1) (fun h => absurd (by omega) hm2)
    | some a =>
      refine Does.have_ (p := ∃ g, a = ⟨g, 0, none⟩) (fun w hw => aU.addr hw) (fun ⟨g, e1⟩ => ?_)
      subst e1
      refine Does.ex (fun w hw => Sat.kH hw) (fun rs ⟨hr1, _, hr2, hr3⟩ => ?_)
      have hcap : cap ≤ 9223372036854775807 := by simp only [maxLen] at hr3; omega
      have hback : ∀ (ys : List Int) (cs : List Value) (w : World), cs.length = cap → ys.length ≤ cap → cs.take ys.length = ints .i64 ys → Sat K w (Cells g 3 cs :: F) → Sat K w (aU (.slice (some ⟨g, 0, none⟩) ys.length cap) 3 1 ys.length (ints .i64 ys) :: F) := fun ys cs w h1 h2 h3 h => by
        have := Sat.Dq (s := 1) h (by rw [h1, Nat.mul_one]) h2 hr3
        rw [Nat.mul_one, h3] at this
        exact this
      have hat : ∀ {cs : List Value} {d j : Nat}, cs.drop d = (ints .i64 xs ++ rs).drop d → d ≤ j → j < m → cs[j]? = some (.int .i64 (xs.getD j 0)) := fun {cs d j} h h1 h2 => by
        have e1 := congrArg (·[j - d]?) h
        simp only [List.getElem?_drop] at e1
        rw [show d + (j - d) = j by omega] at e1
        rw [e1, List.getElem?_append_left (by rw [aG]; omega), jl _ _ (by omega)]
      refine Does.enter Tryz.func63 rfl Tryz.ntmps63 rfl ?_
      simp only [aI, Nat.reduceAdd]
      refine WC.sr (WL.sg rfl rfl (WL.nil (WC.seq (WC.sr (WL.mv rfl rfl (WL.val (V.len (t := 24) Tryz.runUnderlying24 (OV.p rfl)) rfl (WL.val (V.lss (OV.p rfl) (OV.p rfl)) rfl (WL.nil ?_))))))))
      refine WC.aQ rfl ((by simp; omega)) ?_
      refine WC.skip (WC.seq (WC.sr (WL.sg rfl rfl (WL.nil (WC.block ?_)))))
      refine WC.loop (σ := Nat) (fun k => [(0, .slice (some ⟨g, 0, none⟩) m cap), (3, .int .i64 (k : Int))]) (fun k => Cells g 3 (ints .i64 xs ++ rs) :: F) (fun k => 1 ≤ k ∧ k ≤ m ∧ iI xs k = xs.take k) (fun k => m - k) 1 ⟨Nat.le_refl _, by omega, by rw [nK (.inl rfl), rU (by omega)]; rfl⟩ (.cons rfl (.cons rfl (.nil _))) (fun w h => h) ?_
      rintro k ⟨hk1, hkm, hdk⟩
      refine WC.seq (WC.sr (WL.mv rfl rfl (WL.mv rfl rfl (WL.val (V.len (t := 24) Tryz.runUnderlying24 (OV.p rfl)) rfl (WL.val (V.lss (OV.p rfl) (OV.p rfl)) rfl (WL.nil ?_))))))
      refine WC.cond rfl (fun hc1 => ?_) (fun hc1 => ?_)
      ·simp only [decide_eq_true_eq, decide_eq_false_iff_not] at hc1
       refine WC.skip (WC.seq (WC.block (WC.seq ?_)))
       have hkl : k < m := by omega
       have hg1 : (ints .i64 xs ++ rs)[0 + (k : Int).toNat * 1]? = some (.int .i64 (xs.getD k 0)) := by rw [show 0 + (k : Int).toNat * 1 = k by omega]; exact hat rfl (Nat.zero_le _) hkl
       have hg2 : (ints .i64 xs ++ rs)[0 + ((k : Int) - 1).toNat * 1]? = some (.int .i64 (xs.getD (k - 1) 0)) := by rw [show 0 + ((k : Int) - 1).toNat * 1 = k - 1 by omega]; exact hat rfl (Nat.zero_le _) (by omega)
       refine WC.eG (by kernel_rfl) (by kernel_rfl) ?_
       refine WQ.val (V.move (OV.p rfl)) rfl (WQ.val (V.move (OV.p rfl)) rfl ?_)
       refine WQ.val (V.bR bZ (OV.p rfl) (OV.p rfl) (fun hc => by omega)) rfl ?_
       refine WQ.val (V.load Tryz.isAgg3 (OV.p rfl) (fun _ => Rd.here hg1)) rfl ?_
       refine WQ.val (V.move (OV.p rfl)) rfl (WQ.val (V.move (OV.p rfl)) rfl ?_)
       refine WQ.val (V.tu (OV.p rfl) (OV.p rfl) (fun hc => by first | omega | (simp at hc; omega))) rfl ?_
       refine WQ.val (V.bR bZ (OV.p rfl) (OV.p rfl) (fun hc => by omega)) rfl ?_
       refine WQ.val (V.load Tryz.isAgg3 (OV.p rfl) (fun _ => Rd.here hg2)) rfl ?_
       refine WQ.val (V.eql (OV.p rfl) (OV.p rfl)) rfl (WQ.nil ?_)
       refine WC.cond rfl (fun hc2 => ?_) (fun hc2 => ?_)
       ·simp only [decide_eq_true_eq, decide_eq_false_iff_not] at hc2
        have h2 := hc2
        refine WC.sr (WL.mv rfl rfl (WL.mv rfl rfl ?_))
        refine WL.val (V.aC (v' := .slice (some ⟨g, k, none⟩) (m - k) (cap - k)) (V.slice (l := k) (h := m) (u := cap) bZ (OV.p rfl) (OO.some (OV.p rfl) (fun _ => rfl)) OO.none OO.none (by simp) (by omega) (by omega) (Nat.le_refl _)) (fun _ => by rw [if_neg (by omega)]; simp [gL])) rfl ?_
        refine WL.sg rfl rfl (WL.nil (WC.seq (WC.sr (WL.sg rfl rfl (WL.nil (WC.block ?_))))))
        refine WC.loop (σ := Nat × Nat × List Value) (fun x => [(0, .slice (some ⟨g, 0, none⟩) m cap), (4, .slice (some ⟨g, k, none⟩) (m - k) (cap - k)), (3, .int .i64 (x.1 : Int)), (5, .int .i64 (x.2.1 : Int))]) (fun x => Cells g 3 x.2.2 :: F) (fun x => k ≤ x.1 ∧ x.1 < k + x.2.1 ∧ k + x.2.1 ≤ m ∧ x.2.2.length = cap ∧ x.1 = (iI xs (k + x.2.1)).length ∧ x.2.2.take x.1 = ints .i64 (iI xs (k + x.2.1)) ∧ x.2.2.drop (k + x.2.1 - 1) = (ints .i64 xs ++ rs).drop (k + x.2.1 - 1)) (fun x => m - x.2.1) (k, 1, ints .i64 xs ++ rs) ?_ (.cons rfl (.cons rfl (.cons rfl (.cons rfl (.nil _))))) (fun w h => h) ?_
        · have e1 : iI xs (k + 1) = xs.take k := by rw [rJ (by omega) h2, hdk]
          refine ⟨Nat.le_refl _, by show k < k + 1; omega, by show k + 1 ≤ m; omega, by rw [hr1, Nat.mul_one], ?_, ?_, rfl⟩
          · show k = (iI xs (k + 1)).length
            rw [e1, List.length_take]; omega
          · show (ints .i64 xs ++ rs).take k = ints .i64 (iI xs (k + 1))
            rw [e1, List.take_append_of_le_length (by rw [aG]; omega), wz]
        rintro ⟨kk, k2, cs⟩ ⟨h10, h11, h12, PE, NP, OU, h16⟩
        dsimp only at h10 h11 h12 PE NP OU h16 ⊢
        refine WC.seq (WC.sr (WL.mv rfl rfl (WL.mv rfl rfl (WL.val (V.len (t := 24) Tryz.runUnderlying24 (OV.p rfl)) rfl (WL.val (V.lss (OV.p rfl) (OV.p rfl)) rfl (WL.nil ?_))))))
        refine WC.cond rfl (fun hc3 => ?_) (fun hc3 => ?_)
        ·simp only [decide_eq_true_eq, decide_eq_false_iff_not] at hc3
         refine WC.skip (WC.seq (WC.block (WC.seq ?_)))
         have hlt2 : k + k2 < m := by omega
         have hg3 : cs[k + (k2 : Int).toNat * 1]? = some (.int .i64 (xs.getD (k + k2) 0)) := by rw [show k + (k2 : Int).toNat * 1 = k + k2 by omega]; exact hat h16 (by omega) hlt2
         have hg4 : cs[k + ((k2 : Int) - 1).toNat * 1]? = some (.int .i64 (xs.getD (k + k2 - 1) 0)) := by rw [show k + ((k2 : Int) - 1).toNat * 1 = k + k2 - 1 by omega]; exact hat h16 (by omega) (by omega)
         refine WC.eG (by kernel_rfl) (by kernel_rfl) ?_
         refine WQ.val (V.move (OV.p rfl)) rfl (WQ.val (V.move (OV.p rfl)) rfl ?_)
         refine WQ.val (V.bR bZ (OV.p rfl) (OV.p rfl) (fun hc => by omega)) rfl ?_
         refine WQ.val (V.load Tryz.isAgg3 (OV.p rfl) (fun _ => Rd.here hg3)) rfl ?_
         refine WQ.val (V.move (OV.p rfl)) rfl (WQ.val (V.move (OV.p rfl)) rfl ?_)
         refine WQ.val (V.tu (OV.p rfl) (OV.p rfl) (fun hc => by first | omega | (simp at hc; omega))) rfl ?_
         refine WQ.val (V.bR bZ (OV.p rfl) (OV.p rfl) (fun hc => by omega)) rfl ?_
         refine WQ.val (V.load Tryz.isAgg3 (OV.p rfl) (fun _ => Rd.here hg4)) rfl ?_
         refine WQ.val (V.neq (OV.p rfl) (OV.p rfl)) rfl (WQ.nil ?_)
         refine WC.cond rfl (fun hc4 => ?_) (fun hc4 => ?_)
         ·simp only [Bool.not_eq_true', Bool.not_eq_false', decide_eq_true_eq, decide_eq_false_iff_not] at hc4
          have h5 := hc4
          have hst : iI xs (k + k2 + 1) = iI xs (k + k2) ++ [xs.getD (k + k2) 0] := nK (.inr h5)
          refine WC.sr (WL.mv rfl rfl (WL.mv rfl rfl (WL.mv rfl rfl (WL.mv rfl rfl ?_))))
          refine WL.val (V.bR bZ (OV.p rfl) (OV.p rfl) (fun hc => by omega)) rfl ?_
          refine WL.val (V.load Tryz.isAgg3 (OV.p rfl) (fun _ => Rd.here hg3)) rfl ?_
          refine WL.val (V.bR bZ (OV.p rfl) (OV.p rfl) (fun hc => by omega)) rfl ?_
          refine WL.store (cs := [_]) Tryz.sizeOf3 (OV.p rfl) (OV.p rfl) rfl rfl rfl (bA.at_ (by omega)) ?_
          refine WL.nil (WC.region (WL.mv rfl rfl (WL.ad rfl rfl rfl ?_)))
          refine WL.sg rfl rfl (WL.nil (WC.region (WL.mv rfl rfl (WL.ad rfl rfl rfl ?_))))
          refine WL.sg rfl rfl (WL.nil ?_)
          refine ⟨rfl, ?_⟩
          first
          | (have LG := hse
             refine ⟨(kk, k2 + 1, cs), ⟨h10, by show kk < k + (k2 + 1); omega, by show k + (k2 + 1) ≤ m; omega, PE, ?_, ?_, ?_⟩, (by show m - (k2 + 1) < m - k2; omega), .cons rfl (.cons rfl (.cons rfl (.cons (look_eq rfl (by simp)) (.nil _)))), fun w h => h⟩
             · show kk = (iI xs (k + k2 + 1)).length
               rw [LG]; exact NP
             · show cs.take kk = ints .i64 (iI xs (k + k2 + 1))
               rw [LG]; exact OU
             · have := congrArg (List.drop 1) h16
               rw [List.drop_drop, List.drop_drop] at this
               show cs.drop (k + k2 + 1 - 1) = _
               rw [show k + (k2 + 1) - 1 = k + k2 - 1 + 1 by omega, show k + k2 + 1 - 1 = k + k2 - 1 + 1 by omega]
               exact this)
          | (have qO := hst
             refine ⟨(kk + 1, k2 + 1, cs.set (0 + (kk : Int).toNat * 1) (.int .i64 (xs.getD (k + k2) 0))), ⟨by show k ≤ kk + 1; omega, by show kk + 1 < k + (k2 + 1); omega, by show k + (k2 + 1) ≤ m; omega, by rw [List.length_set]; exact PE, ?_, ?_, ?_⟩, (by show m - (k2 + 1) < m - k2; omega), .cons rfl (.cons rfl (.cons (look_eq rfl (by simp)) (.cons (look_eq rfl (by simp)) (.nil _)))), fun w h => h⟩
             · show kk + 1 = (iI xs (k + k2 + 1)).length
               rw [qO, List.length_append, ← NP]; rfl
             · show (cs.set (0 + (kk : Int).toNat * 1) (.int .i64 (xs.getD (k + k2) 0))).take (kk + 1) = ints .i64 (iI xs (k + k2 + 1))
               rw [qO, bf, ← OU, show 0 + (kk : Int).toNat * 1 = kk by omega, List.take_add_one, List.getElem?_set_self (by omega), List.take_set_of_le (by omega)]
               rfl
             · show (cs.set (0 + (kk : Int).toNat * 1) (.int .i64 (xs.getD (k + k2) 0))).drop (k + k2 + 1 - 1) = _
               have := congrArg (List.drop 1) h16
               rw [List.drop_drop, List.drop_drop] at this
               rw [show 0 + (kk : Int).toNat * 1 = kk by omega, List.drop_set_of_lt (by omega)]
               show cs.drop (k + k2 + 1 - 1) = _
               rw [show k + (k2 + 1) - 1 = k + k2 - 1 + 1 by omega, show k + k2 + 1 - 1 = k + k2 - 1 + 1 by omega]
               exact this)
         ·simp only [Bool.not_eq_true', Bool.not_eq_false', decide_eq_true_eq, decide_eq_false_iff_not] at hc4
          have h5 := hc4
          have hse : iI xs (k + k2 + 1) = iI xs (k + k2) := rJ (by omega) h5
          refine WC.skip (WC.region (WL.mv rfl rfl (WL.ad rfl rfl rfl ?_)))
          refine WL.sg rfl rfl (WL.nil ?_)
          refine ⟨rfl, ?_⟩
          first
          | (have LG := hse
             refine ⟨(kk, k2 + 1, cs), ⟨h10, by show kk < k + (k2 + 1); omega, by show k + (k2 + 1) ≤ m; omega, PE, ?_, ?_, ?_⟩, (by show m - (k2 + 1) < m - k2; omega), .cons rfl (.cons rfl (.cons rfl (.cons (look_eq rfl (by simp)) (.nil _)))), fun w h => h⟩
             · show kk = (iI xs (k + k2 + 1)).length
               rw [LG]; exact NP
             · show cs.take kk = ints .i64 (iI xs (k + k2 + 1))
               rw [LG]; exact OU
             · have := congrArg (List.drop 1) h16
               rw [List.drop_drop, List.drop_drop] at this
               show cs.drop (k + k2 + 1 - 1) = _
               rw [show k + (k2 + 1) - 1 = k + k2 - 1 + 1 by omega, show k + k2 + 1 - 1 = k + k2 - 1 + 1 by omega]
               exact this)
          | (have qO := hst
             refine ⟨(kk + 1, k2 + 1, cs.set (0 + (kk : Int).toNat * 1) (.int .i64 (xs.getD (k + k2) 0))), ⟨by show k ≤ kk + 1; omega, by show kk + 1 < k + (k2 + 1); omega, by show k + (k2 + 1) ≤ m; omega, by rw [List.length_set]; exact PE, ?_, ?_, ?_⟩, (by show m - (k2 + 1) < m - k2; omega), .cons rfl (.cons rfl (.cons (look_eq rfl (by simp)) (.cons (look_eq rfl (by simp)) (.nil _)))), fun w h => h⟩
             · show kk + 1 = (iI xs (k + k2 + 1)).length
               rw [qO, List.length_append, ← NP]; rfl
             · show (cs.set (0 + (kk : Int).toNat * 1) (.int .i64 (xs.getD (k + k2) 0))).take (kk + 1) = ints .i64 (iI xs (k + k2 + 1))
               rw [qO, bf, ← OU, show 0 + (kk : Int).toNat * 1 = kk by omega, List.take_add_one, List.getElem?_set_self (by omega), List.take_set_of_le (by omega)]
               rfl
             · show (cs.set (0 + (kk : Int).toNat * 1) (.int .i64 (xs.getD (k + k2) 0))).drop (k + k2 + 1 - 1) = _
               have := congrArg (List.drop 1) h16
               rw [List.drop_drop, List.drop_drop] at this
               rw [show 0 + (kk : Int).toNat * 1 = kk by omega, List.drop_set_of_lt (by omega)]
               show cs.drop (k + k2 + 1 - 1) = _
               rw [show k + (k2 + 1) - 1 = k + k2 - 1 + 1 by omega, show k + k2 + 1 - 1 = k + k2 - 1 + 1 by omega]
               exact this)
        ·simp only [decide_eq_true_eq, decide_eq_false_iff_not] at hc3
         refine WC.exit (WC.sr (WL.mv rfl rfl (WL.mv rfl rfl ?_)))
         have hke : k + k2 = m := by omega
         rw [hke, ← hl] at NP OU
         refine WL.val (V.slice (l := kk) (h := m) (u := cap) bZ (OV.p rfl) (OO.some (OV.p rfl) (fun _ => rfl)) OO.none OO.none (by simp) (by omega) (by omega) (Nat.le_refl _)) rfl ?_
         refine WL.LH (b := g) (o := kk) Tryz.underlying24 Tryz.zeroValue3 rfl rfl (OV.p rfl) (fun hq => by rw [if_neg (by omega)]; simp [gL]) (bA.row (by rw [List.length_replicate]; omega)) ?_
         refine WL.nil (WC.sr (WL.mv rfl rfl (WL.mv rfl rfl ?_)))
         refine WL.val (V.slice (l := 0) (h := kk) (u := cap) bZ (OV.p rfl) OO.none (OO.some (OV.p rfl) (fun _ => rfl)) OO.none (by simp) (by omega) (by omega) (Nat.le_refl _)) rfl ?_
         refine WL.sg rfl rfl (WL.nil (WC.ret ?_))
         refine au.ret (H' := aU (.slice (some ⟨g, 0, none⟩) kk cap) _ 1 kk (ints .i64 (gT xs)) :: F) (aO.tmp rfl (look_eq rfl (by simp [Addr.add]))) (fun w h => ?_) ⟨kk, NP, rfl, rfl⟩
         have hlen : (cs.take kk ++ List.replicate (m - kk) (Value.int .i64 0) ++ cs.drop (kk + (List.replicate (m - kk) (Value.int .i64 0)).length)).length = cap := by
           simp only [List.length_append, List.length_take, List.length_replicate, List.length_drop]; omega
         have := hback (iI xs xs.length) _ w hlen (by omega) (by rw [← NP, List.append_assoc, List.take_left' (by rw [List.length_take]; omega), OU]) h
         rw [← NP] at this
         exact this
       ·simp only [decide_eq_true_eq, decide_eq_false_iff_not] at hc2
        have h2 := hc2
        refine WC.skip (WC.region (WL.mv rfl rfl (WL.ad rfl rfl rfl ?_)))
        refine WL.sg rfl rfl (WL.nil ?_)
        refine ⟨rfl, ?_⟩
        refine ⟨k + 1, ⟨by show 1 ≤ k + 1; omega, by show k + 1 ≤ m; omega, by rw [nK (.inr h2), hdk, rU (by omega)]⟩, (by show m - (k + 1) < m - k; omega), .cons rfl (.cons (look_eq rfl (by simp)) (.nil _)), fun w h => h⟩
      ·simp only [decide_eq_true_eq, decide_eq_false_iff_not] at hc1
       refine WC.exit (WC.sr (WL.mv rfl rfl (WL.sg rfl rfl (WL.nil (WC.ret ?_)))))
       obtain rfl : k = m := by omega
       have hce : gT xs = xs := by unfold gT; rw [hl, hdk, List.take_of_length_le (by omega)]
       refine au.ret (H' := aU (.slice (some ⟨g, 0, none⟩) k cap) _ 1 k (ints .i64 xs) :: F) (aO.tmp rfl rfl) (fun w h => ?_) ⟨k, by rw [hce, hl], rfl, by rw [hce]⟩
       have := hback xs _ w (by rw [hr1, Nat.mul_one]) (by omega) (by rw [List.take_left' (aG _ _)]) h
       rw [hl] at this
       exact this
theorem uV {xs : List Int} {x : Int} : ∀ {j : Nat}, j ≤ xs.length → (x ∈ iI xs j ↔ x ∈ xs.take j)
  | 0, _ => by simp [iI]
  | j + 1, h => by
    rw [rU (by omega), List.mem_append, ← uV (j := j) (by omega)]
    by_cases hk : j = 0 ∨ xs.getD j 0 ≠ xs.getD (j - 1) 0
    · rw [nK hk, List.mem_append]
    · have h0 : j ≠ 0 := fun e => hk (.inl e)
      have h1 : xs.getD j 0 = xs.getD (j - 1) 0 := by
        rcases Decidable.em (xs.getD j 0 = xs.getD (j - 1) 0) with h | h
        · exact h
        · exact absurd (.inr h) hk
      rw [rJ h0 h1]
      refine ⟨.inl, fun h2 => h2.elim id fun h3 => ?_⟩
      rw [List.mem_singleton] at h3
      obtain ⟨i, rfl⟩ : ∃ i, j = i + 1 := ⟨j - 1, by omega⟩
      rw [uV (by omega), rU (by omega), h3, h1]
      simp
theorem xw {xs : List Int} (hs : xs.Pairwise (· ≤ ·)) : ∀ {j : Nat}, j ≤ xs.length → (iI xs j).Pairwise (· < ·)
  | 0, _ => by simp [iI]
  | j + 1, h => by
    have ih := xw hs (j := j) (by omega)
    by_cases hk : j = 0 ∨ xs.getD j 0 ≠ xs.getD (j - 1) 0
    · rw [nK hk, List.pairwise_append]
      refine ⟨ih, by simp, fun a ha b hb => ?_⟩
      rw [List.mem_singleton] at hb
      subst hb
      rw [uV (by omega)] at ha
      rcases hk with h0 | h0
      · subst h0; simp at ha
      · obtain ⟨i, hi⟩ := List.getElem?_of_mem ha
        rw [List.getElem?_take] at hi
        split at hi
        · rename_i hij
          obtain ⟨hi', hi⟩ := List.getElem?_eq_some_iff.1 hi
          have hp := List.pairwise_iff_getElem.1 hs
          have h1 := hp i j hi' (by omega) hij
          have e1 : xs.getD j 0 = xs[j] := by simp [List.getD, show j < xs.length by omega]
          have e2 : xs.getD (j - 1) 0 = xs[j - 1] := by simp [List.getD, show j - 1 < xs.length by omega]
          rw [e1] at h0 ⊢
          rw [e2] at h0
          rw [← hi]
          have h2 : xs[i] ≤ xs[j - 1] := by
            rcases Nat.lt_or_ge i (j - 1) with h | h
            · exact hp i (j - 1) hi' (by omega) h
            · have : i = j - 1 := by omega
              subst this; exact Int.le_refl _
          have h3 := hp (j - 1) j (by omega) (by omega) (by omega)
          omega
        · cases hi
    · have h0 : j ≠ 0 := fun e => hk (.inl e)
      have h1 : xs.getD j 0 = xs.getD (j - 1) 0 := by
        rcases Decidable.em (xs.getD j 0 = xs.getD (j - 1) 0) with h | h
        · exact h
        · exact absurd (.inr h) hk
      rw [rJ h0 h1]
      exact ih
theorem yc (xs : List Int) : ∀ j, (iI xs j).length ≤ j
  | 0 => Nat.le_refl _
  | j + 1 => by
    have := yc xs j
    rw [iI, List.length_append]
    split <;> simp <;> omega
theorem Ec {xs : List Int} {x : Int} : x ∈ gT xs ↔ x ∈ xs := by rw [gT, uV (Nat.le_refl _), List.take_of_length_le (Nat.le_refl _)]
theorem yC {xs : List Int} (hs : xs.Pairwise (· ≤ ·)) : (gT xs).Pairwise (· < ·) := xw hs (Nat.le_refl _)
theorem yu (xs : List Int) : (gT xs).length ≤ xs.length := yc xs _
def sorted (xs : List Int) : List Int := xs.mergeSort fun x y => decide (x ≤ y)
theorem jL (xs : List Int) : (sorted xs).length = xs.length := List.length_mergeSort xs
theorem sorted_sorted (xs : List Int) : (sorted xs).Pairwise (· ≤ ·) := by
  have h := List.pairwise_mergeSort (le := fun x y : Int => decide (x ≤ y)) (fun a b c h1 h2 => by simp at h1 h2 ⊢; omega) (fun a b => by simp; omega) xs
  exact h.imp fun {a b} h => of_decide_eq_true h
theorem mem_sorted {xs : List Int} {x : Int} : x ∈ sorted xs ↔ x ∈ xs := List.mem_mergeSort
theorem Nw {K : World} {F : List ak} : aL Tryz.prog 131 #[.int .u64 0] K F (.int .i64 0) := by
  refine Does.enter Tryz.func131 rfl Tryz.ntmps131 rfl ?_
  simp only [aI, Nat.reduceAdd]
  refine WC.sr (WL.sg rfl rfl (WL.nil (WC.seq (WC.sr (WL.mv rfl rfl (WL.val (V.geq (OV.p rfl) (OV.p rfl)) rfl (WL.nil ?_)))))))
  refine WC.aQ rfl (by first | rfl | (simp; done) | (simp; omega)) ?_
  refine WC.skip (WC.seq (WC.sr (WL.mv rfl rfl (WL.val (V.geq (OV.p rfl) (OV.p rfl)) rfl (WL.nil ?_)))))
  refine WC.aQ rfl (by first | rfl | (simp; done) | (simp; omega)) ?_
  refine WC.skip (WC.seq (WC.sr (WL.mv rfl rfl (WL.val (V.geq (OV.p rfl) (OV.p rfl)) rfl (WL.nil ?_)))))
  refine WC.aQ rfl (by first | rfl | (simp; done) | (simp; omega)) ?_
  refine WC.skip (WC.sr (WL.mv rfl rfl (WL.mv rfl rfl ?_)))
  refine WL.val (V.u6 Tryz.runUnderlying170 Tryz.runUnderlying5 (OV.p rfl) (fun _ => rfl)) rfl ?_
  refine WL.val (V.Lp (b := 0) Tryz.underlying9 (OV.p rfl) (OV.p rfl) (fun _ => ⟨by decide, by kernel_rfl⟩)) rfl ?_
  refine WL.val (V.u6 Tryz.runUnderlying5 Tryz.runUnderlying3 (OV.p rfl) (fun _ => rfl)) rfl ?_
  refine WL.val (V.aC (v' := .int .i64 0) (V.add (OV.p rfl) (OV.p rfl)) (fun _ => rfl)) rfl ?_
  refine WL.sg rfl rfl (WL.nil (WC.ret ?_))
  exact au.ret (H' := F) (aO.tmp rfl rfl) (fun w h => h) ⟨rfl, rfl⟩
theorem P9 {K : World} {F : List ak} : aL Tryz.prog 95 #[.int .u64 0] K F (.int .i64 0) := by
  refine Does.enter Tryz.func95 rfl Tryz.ntmps95 rfl ?_
  simp only [aI, Nat.reduceAdd]
  refine WC.sr (WL.sg rfl rfl (WL.nil (WC.seq ?_)))
  refine WC.aQ rfl (by first | rfl | (simp; done) | (simp; omega)) ?_
  refine WC.skip (WC.sr (WL.mv rfl rfl (WL.call (vs := [_]) Tryz.call131 ⟨OV.p rfl, trivial⟩ (Nw) rfl ?_)))
  rintro _ H0 ⟨rfl, h0⟩
  subst H0
  refine WL.sg rfl rfl (WL.nil (WC.ret ?_))
  exact au.ret (H' := F) (aO.tmp rfl rfl) (fun w h => h) ⟨rfl, rfl⟩
theorem EB {v : Value} {K : World} {F : List ak} : Does Tryz.prog 121 #[v, .int .i64 0, .int .i64 0] K F (fun _ H' => H' = F) := by
  refine Does.enter Tryz.func121 rfl Tryz.ntmps121 rfl ?_
  simp only [aI, Nat.reduceAdd]
  refine WC.sr (WL.mv rfl rfl (WL.ad rfl rfl rfl ?_))
  refine WL.sg rfl rfl (WL.nil (WC.block (WC.rounds 1 (WC.seq (WC.sr (WL.mv rfl rfl (WL.mv rfl rfl (WL.val (V.lss (OV.p rfl) (OV.p rfl)) rfl (WL.nil ?_)))))))))
  refine WC.aQ rfl (by first | rfl | (simp; done) | (simp; omega)) ?_
  refine WC.exit ?_
  exact au.normal (H' := F) (aO.none rfl) (fun w h => h) rfl
theorem Qp {v : Value} {K : World} {F : List ak} : Does Tryz.prog 94 #[v, .int .i64 0, .int .i64 0, .int .i64 0] K F (fun _ H' => H' = F) := by
  refine Does.enter Tryz.func94 rfl Tryz.ntmps94 rfl ?_
  simp only [aI, Nat.reduceAdd]
  refine WC.sr (WL.sg rfl rfl (WL.nil (WC.sr (WL.sg rfl rfl (WL.nil (WC.block (WC.rounds 1 (WC.block (WC.sr (WL.mv rfl rfl (WL.mv rfl rfl (WL.sb rfl rfl rfl ?_))))))))))))
  refine WL.sg rfl rfl (WL.nil (WC.seq (WC.sr (WL.mv rfl rfl (WL.val (V.leq (OV.p rfl) (OV.p rfl)) rfl (WL.nil ?_))))))
  refine WC.dV rfl (by first | rfl | (simp; done) | (simp; omega)) ?_
  refine WC.sr (WL.mv rfl rfl (WL.mv rfl rfl (WL.mv rfl rfl (WL.call (vs := [_, _, _]) Tryz.call121 ⟨OV.p rfl, OV.p rfl, OV.p rfl, trivial⟩ (EB) rfl ?_))))
  rintro v H0 h0
  subst H0
  refine WL.nil (WC.ret ?_)
  exact au.ret (H' := F) (aO.none rfl) (fun w h => h) rfl
theorem K3 {K : World} {F : List ak} : Does Tryz.prog 62 #[.slice none 0 0] K F (fun v H' => H' = F) := by
  refine Does.enter Tryz.func62 rfl Tryz.ntmps62 rfl ?_
  simp only [aI, Nat.reduceAdd]
  refine WC.sr (WL.mv rfl rfl (WL.val (V.len (t := 24) Tryz.runUnderlying24 (OV.p rfl)) rfl (WL.sg rfl rfl (WL.nil (WC.region (WL.mv rfl rfl (WL.mv rfl rfl (WL.mv rfl rfl ?_))))))))
  refine WL.val (V.u6 Tryz.runUnderlying3 Tryz.runUnderlying133 (OV.p rfl) (fun _ => rfl)) rfl ?_
  refine WL.call (vs := [_]) Tryz.call95 ⟨OV.p rfl, trivial⟩ (P9) rfl ?_
  rintro _ H0 ⟨rfl, h0⟩
  subst H0
  refine WL.call (vs := [_, _, _, _]) Tryz.call94 ⟨OV.p rfl, OV.p rfl, OV.p rfl, OV.p rfl, trivial⟩ (Qp) rfl ?_
  rintro v H0 h0
  subst H0
  refine WL.nil ?_
  exact au.normal (H' := F) (aO.none rfl) (fun w h => h) rfl
theorem LM {g m cap : Nat} {xs : List Int} {K : World} {F : List ak} (hm : m = xs.length) (hsz : xs.length < 4611686018427387904) :
    Does Tryz.prog 62 #[.slice (some ⟨g, 0, none⟩) m cap] K (aU (.slice (some ⟨g, 0, none⟩) m cap) 3 1 m (ints .i64 xs) :: F)
      (fun v H' => H' = aU (.slice (some ⟨g, 0, none⟩) m cap) 3 1 m (ints .i64 (sorted xs)) :: F) := by
  intro w hw
  subst hm
  have hown := hw.head
  obtain ⟨h1, h2⟩ := hown
  rcases h2 with ⟨h2, _⟩ | ⟨g', cap', cur, h2, _, h3, h4, h5, h6, h7⟩
  · cases h2
  · injection h2 with e1 e2 e3
    simp only [Option.some.injEq, Addr.mk.injEq] at e1
    obtain ⟨rfl, _⟩ := e1
    subst e3
    have hlen : (ints .i64 xs).length = xs.length := aG _ _
    have hcur : ∀ j, j < xs.length → cur[j]? = some (.int .i64 xs[j]!) := fun j hj => by
      have e4 : (cur.toList.take (xs.length * 1))[j]? = (ints .i64 xs)[j]? := by rw [h7]
      rw [List.getElem?_take, if_pos (by omega), Array.getElem?_toList, jl _ _ hj] at e4
      rw [e4]
      simp [List.getD, hj]
    have hH : Go.Sort.Holds (Value.int .i64) w g 0 xs.toArray := fun j hj => by
      have hj' : j < xs.length := by simpa using hj
      refine ⟨?_, ?_⟩
      · simp only [World.cell?, h3, Nat.zero_add, hcur j hj']
        simp [hj']
      · simp [World.frozen?, h3]
    have hlt : g < w.heap.size := by
      rcases Nat.lt_or_ge g w.heap.size with h | h
      · exact h
      · rw [Array.getElem?_eq_none h] at h3; cases h3
    refine (Any.slices_Sort_int Tryz.lays189 g 0 cap xs w hH hlt hsz).mono fun e w' ⟨he, n, os, hw'⟩ => ⟨.tuple #[], _, he, ?_, rfl⟩
    subst hw'
    have hheap : (Go.Sort.grow (Go.Sort.putRow (Value.int .i64) (Go.Sort.ahead w n) g 0 (xs.mergeSort fun x y => decide (x ≤ y)).toArray) os).heap = w.heap.modify g (Go.Sort.onCells (Go.Sort.putCells (Value.int .i64) 0 (xs.mergeSort fun x y => decide (x ≤ y)).toArray)) ++ os := rfl
    have hsize : w.heap.size ≤ (Go.Sort.grow (Go.Sort.putRow (Value.int .i64) (Go.Sort.ahead w n) g 0 (xs.mergeSort fun x y => decide (x ≤ y)).toArray) os).heap.size := by rw [hheap]; simp
    have hat : ∀ b, b < w.heap.size → (Go.Sort.grow (Go.Sort.putRow (Value.int .i64) (Go.Sort.ahead w n) g 0 (xs.mergeSort fun x y => decide (x ≤ y)).toArray) os).heap[b]? = (w.heap.modify g (Go.Sort.onCells (Go.Sort.putCells (Value.int .i64) 0 (xs.mergeSort fun x y => decide (x ≤ y)).toArray)))[b]? := fun b hb => by
      rw [hheap, Array.getElem?_append_left (by simpa using hb)]
    refine ⟨hw.1.grow rfl rfl rfl hsize, hw.2.set (A' := aU (.slice (some ⟨g, 0, none⟩) xs.length cap) 3 1 xs.length (ints .i64 (sorted xs))) hsize (fun b hb hb' => ?_) ⟨?_, .inr ⟨g, cap, Go.Sort.putCells (Value.int .i64) 0 (xs.mergeSort fun x y => decide (x ≤ y)).toArray cur, rfl, Nat.zero_le _, ?_, h4, h5, ?_, ?_⟩⟩ (fun b hb => .inl hb)⟩
    · have hne : g ≠ b := fun e => hb (by simp [aU, Value.ownBlock, e])
      rw [hat b hb', Array.getElem?_modify, if_neg hne]
    · rw [aG, jL, Nat.mul_one]
    · rw [hat g hlt, Array.getElem?_modify, if_pos rfl, h3]; rfl
    · unfold Go.Sort.putCells; rw [Array.size_mapIdx]; exact h6
    · apply List.ext_getElem?
      intro j
      have hcl : xs.length ≤ cur.size := by omega
      rw [List.getElem?_take, Nat.mul_one]
      by_cases hj : j < xs.length
      · rw [if_pos hj, Array.getElem?_toList, jl _ _ (by rw [jL]; exact hj)]
        have hcj : j < cur.size := by omega
        unfold Go.Sort.putCells
        rw [Array.getElem?_mapIdx, Array.getElem?_eq_getElem hcj]
        have hsl : j < (xs.mergeSort fun x y => decide (x ≤ y)).length := by rw [List.length_mergeSort]; exact hj
        simp [sorted, List.getD, hsl]
        intro h
        omega
      · rw [if_neg hj, List.getElem?_eq_none (by rw [aG, jL]; omega)]
theorem J3 {A : Option Addr} {m cap : Nat} {xs : List Int} {K : World} {F : List ak} (hsz : xs.length < 4611686018427387904) :
    Does Tryz.prog 62 #[.slice A m cap] K (aU (.slice A m cap) 3 1 m (ints .i64 xs) :: F)
      (fun v H' => H' = aU (.slice A m cap) 3 1 m (ints .i64 (sorted xs)) :: F) := by
  refine Does.have_ (p := xs.length = m) (fun w hw => by have := aU.len hw; rwa [aG, Nat.mul_one] at this) (fun hl => ?_)
  cases A with
  | none =>
    refine Does.have_ (p := m = 0 ∧ cap = 0 ∧ xs = []) (fun w hw => by have := aU.sM hw; simpa [ints] using this) (fun ⟨e1, e2, e3⟩ => ?_)
    subst e1 e2 e3
    exact K3.mono fun v H' h => by rw [h, show sorted [] = [] by simp [sorted]]
  | some a =>
    refine Does.have_ (p := ∃ g, a = ⟨g, 0, none⟩) (fun w hw => aU.addr hw) (fun ⟨g, e1⟩ => ?_)
    subst e1
    exact LM hl.symm hsz
def tiny : Geo := ⟨2, 2, 1, 16, 1⟩
def AX (raw i : Int) : Bool := decide (i < 0) || decide (8 * raw ≤ i)
def mH (raw : Int) (xs : List Int) : List Int := gT (sorted (xs.filter fun i => !AX raw i))
theorem wM {raw : Int} {xs : List Int} {i : Int} : i ∈ mH raw xs ↔ i ∈ xs ∧ 0 ≤ i ∧ i < 8 * raw := by
  unfold mH
  rw [Ec, mem_sorted, List.mem_filter]
  unfold AX
  simp
theorem DR (raw : Int) (xs : List Int) : (mH raw xs).Pairwise (· < ·) := yC (sorted_sorted _)
theorem vv (raw : Int) (xs : List Int) : (mH raw xs).length ≤ xs.length := by
  have h1 := yu (sorted (xs.filter fun i => !AX raw i))
  rw [jL] at h1
  have h2 := List.length_filter_le (fun i => !AX raw i) xs
  unfold mH
  omega
def ah.flip (S : ah) (b p : Int) (xs : List Int) : ah := if S.page b p then { S with wrong := ah.mR S.wrong (b, p) (some (mH S.raw xs)) } else S
namespace Cw
def lg (C : Cw) (k : Int × Int) (e : Option Addr × Nat × List Int) (own : List ak) : Cw := { C with wrong := fun q => if q = k then some e else C.wrong q, own := own }
theorem Ih (C : Cw) (k : Int × Int) (e : Option Addr × Nat × List Int) (own : List ak) : (C.lg k e own).gM = upd C.gM k (some (fQ e)) := by
  funext q
  show (if q = k then some e else C.wrong q).map fQ = if q = k then some (fQ e) else (C.wrong q).map fQ
  split <;> rfl
theorem MG (C : Cw) (k : Int × Int) (e : Option Addr × Nat × List Int) (own : List ak) : (C.lg k e own).sem = { C.sem with wrong := ah.mR C.sem.wrong k (some e.2.2) } := by
  unfold sem lg
  simp only [ah.mk.injEq, true_and, and_true]
  funext q
  show (if q = k then some e else C.wrong q).map (·.2.2) = if q = k then some e.2.2 else (C.wrong q).map (·.2.2)
  split <;> rfl
theorem Ok.lg {C : Cw} (h : C.Ok) {k : Int × Int} {e : Option Addr × Nat × List Int} {own : List ak} (hup : ∀ K w, Sat K w [bG own] → Sat K w [bG C.own]) (h1 : eU own e.1 e.2.2.length 1 (ints .i64 e.2.2)) (h2 : ∀ i ∈ e.2.2, 0 ≤ i ∧ i < 8 * C.g.raw) (h3 : e.2.2.length ≤ maxLen) :
    (C.lg k e own).Ok := by
  refine ⟨h.aD, fun p e' hp => ⟨(h.page p e' hp).1.mono hup, (h.page p e' hp).2⟩, fun p e' hp => ?_, h.len, h.next, h.left⟩
  have hp' : (if p = k then some e else C.wrong p) = some e' := hp
  split at hp'
  · injection hp' with hp'; subst hp'; exact ⟨h1, h2, h3⟩
  · have := h.wr p e' hp'; exact ⟨this.1.mono hup, this.2⟩
end Cw
theorem Hy {bc b4 : Nat} {C : Cw} (hC : C.Ok) (i : Int) {K : World} {F : List ak} (h4 : Rd K F (some ⟨b4, 0, none⟩) (ptr bc 0)) (hR : bD K F bc 0 C.cells) :
    aL Tryz.prog 61 #[.int .i64 i, ptr b4 0] K F (.bool (AX C.g.raw i)) := by
  have hr := Geo.lN hC.aD
  have hraw : Rd K F (some ⟨bc, 5, none⟩) (.int .i64 C.g.raw) := hR 5 _ rfl
  refine Does.enter Tryz.func61 rfl Tryz.ntmps61 rfl ?_
  simp only [aI, Nat.reduceAdd]
  refine WC.sr (WL.sg rfl rfl (WL.nil (WC.sr (WL.mv rfl rfl (WL.val (V.lss (OV.p rfl) (OV.p rfl)) rfl (WL.mv rfl rfl (WL.av (oj := _) rfl rfl rfl GC.f (V.move (OV.p rfl)) rfl ?_)))))))
  refine WL.av (oj := _) rfl rfl rfl GC.f (V.load Tryz.isAgg28 (OV.p rfl) (fun _ => h4)) rfl ?_
  refine WL.av (oj := _) rfl rfl rfl GC.f (V.nilCheck (OV.g rfl id)) rfl (WL.av (oj := _) rfl rfl rfl GC.f (V.fieldAddr H9 (OV.g rfl id)) rfl ?_)
  refine WL.av (oj := _) rfl rfl rfl GC.f (V.load Tryz.isAgg3 (OV.g rfl id) (fun _ => hraw)) rfl ?_
  refine WL.av (oj := _) rfl rfl rfl GC.f (V.jF (OV.p rfl) (OV.g rfl id) (fun hc => by first | omega | (simp at hc; omega))) rfl ?_
  refine WL.av (oj := _) rfl rfl rfl GC.f (V.geq (OV.g rfl id) (OV.g rfl id)) rfl (WL.val (V.bH (OV.p rfl) (OV.g rfl id)) rfl (WL.sg rfl rfl (WL.nil (WC.ret ?_))))
  exact au.ret (H' := F) (aO.tmp rfl rfl) (fun w h => h) ⟨rfl, rfl⟩
theorem JD {bc : Nat} {C : Cw} (hC : C.Ok) {B : Option Addr} {m cap : Nat} {xs : List Int} (b p : Int) {K : World} {F : List ak} (hs : Seq K F B m 1 (ints .i64 xs)) (hm : m ≤ 1000000) :
    Does Tryz.prog 25 #[ptr bc 0, .int .i64 b, .int .i64 p, .slice B m cap] K (C.A bc :: F)
      (fun v H' => ∃ C' : Cw, C'.Ok ∧ H' = C'.A bc :: F ∧ C'.sem = C.sem.flip b p xs) := by
  have hl : xs.length = m := by simpa [ints] using hs.len
  have hfl := List.length_filter_le (fun i => !AX C.g.raw i) xs
  have hll := vv C.g.raw xs
  refine Does.nk ?_
  dsimp only [Cw.parts, List.cons_append, List.nil_append]
  refine Does.enter Tryz.func25 rfl Tryz.ntmps25 rfl ?_
  simp only [aI, Nat.reduceAdd]
  refine WC.sr ?_
  refine WL.box (cs := [_]) (OV.p rfl) rfl rfl (fun b4 => ?_)
  refine WL.nil (WC.seq (WC.sr (WL.ld Tryz.isAgg28 rfl rfl ?_)))
  refine WL.val (V.lQ Tryz.underlying28 (OV.p rfl) (OV.p rfl)) rfl (WL.mv rfl rfl ?_)
  refine WL.av (oj := _) rfl rfl rfl GC.f (V.load Tryz.isAgg28 (OV.p rfl) (fun _ => by repeat (first | exact Rd.here rfl | apply Rd.up))) rfl ?_
  refine WL.av (oj := _) rfl rfl rfl GC.f (V.move (OV.p rfl)) rfl (WL.av (oj := _) rfl rfl rfl GC.f (V.move (OV.p rfl)) rfl ?_)
  refine WL.oV (oj := _) (vs := [_, _, _]) rfl rfl rfl GC.f Tryz.call59 ⟨OV.g rfl id, OV.g rfl id, OV.g rfl id, trivial⟩ (fun hg => qY (C := C) b p (by repeat (first | exact bD.all | apply bD.up))) rfl ?_
  refine WL.av (oj := _) rfl rfl rfl GC.f (V.not (OV.g rfl id)) rfl (WL.val (V.bH (OV.p rfl) (OV.g rfl id)) rfl (WL.nil ?_))
  refine WC.cond rfl (fun hc0 => ?_) (fun hc0 => ?_)
  ·skip
   have h0 := hc0
   simp at h0
   refine WC.ret ?_
   refine au.ret (H' := C.A bc :: F) (aO.none rfl) (fun w h => Sat.all (l := C.parts bc) h.tail) ⟨C, hC, rfl, ?_⟩
   unfold ah.flip
   rw [if_neg (by rw [h0]; decide)]
  ·skip
   have h0 := hc0
   simp at h0
   refine WC.skip (WC.sr (WL.mv rfl rfl ?_))
   refine WL.call (vs := [_]) Tryz.call57 ⟨OV.p rfl, trivial⟩ (tF (xs := xs) (by repeat (first | exact hs | apply Seq.up)) hm) rfl ?_
   rintro _ _ ⟨A', c', rfl, rfl⟩
   refine WL.val (V.makeFunc (us := []) (vs := [_]) trivial ⟨OV.p rfl, trivial⟩) rfl ?_
   refine WL.call (vs := [_, _]) Tryz.call60 ⟨OV.p rfl, OV.p rfl, trivial⟩ (AA (xs := xs) (p := AX C.g.raw) (Ay := [ptr b4 0]) Tryz.call61 (fun x hx X => Hy hC x (by repeat (first | exact Rd.here rfl | apply Rd.up)) (by repeat (first | exact bD.all | apply bD.up)))) rfl ?_
   rintro _ _ ⟨q1, hq1, rfl, rfl⟩
   refine WL.sg rfl rfl (WL.nil (WC.sr (WL.mv rfl rfl ?_)))
   refine WL.call (vs := [_]) Tryz.call62 ⟨OV.p rfl, trivial⟩ (J3 (by omega)) rfl ?_
   rintro _ _ rfl
   refine WL.sub (Sub.refl _) (fun w h => h.sel 8 [0, 4, 1, 2, 3, 5, 6, 7] rfl) ?_
   refine WL.nil ?_
   refine WC.dR (Cells b4 28 [ptr bc 0] :: Cells bc 83 C.cells :: cO C.bp eF C.fZ :: Cells C.bn 3 (ints .i64 C.next) :: cO C.bm kC (gQ C.marked) :: cO C.bk kC (gQ C.weak) :: bG C.own :: F) (by kernel_rfl) ?_
   refine WA.t 0 rfl (V.load Tryz.isAgg28 (OV.p rfl) (fun _ => by repeat (first | exact Rd.here rfl | apply Rd.up))) ?_
   refine WA.t 1 rfl (V.nilCheck (OV.p rfl)) (WA.t 2 rfl (V.fieldAddr AV (OV.p rfl)) ?_)
   refine WA.t 3 rfl (V.load Tryz.isAgg80 (OV.p rfl) (fun _ => by repeat (first | exact Rd.here rfl | apply Rd.up))) ?_
   refine WA.t 4 rfl (V.move (OV.p rfl)) (WA.t 5 rfl (V.move (OV.p rfl)) (WA.t 6 rfl (V.build (vs := [(0, _), (1, _)]) ⟨OV.p rfl, OV.p rfl, trivial⟩ rfl (eT _ _)) (WA.t 7 rfl (V.move (OV.p rfl)) (WA.o 8 rfl (WL.call (vs := [_]) Tryz.call63 ⟨OV.p rfl, trivial⟩ (Dg) rfl ?_)))))
   rintro _ _ ⟨q2, hq2, rfl, rfl⟩
   refine WL.nil (WA.o 9 rfl ?_)
   refine WL.lK (k := (_, _)) Tryz.underlying80 p8 (OV.p rfl) (OV.p rfl) (OV.p rfl) (by repeat (first | exact jT.here | apply jT.up)) ?_
   refine WL.nil (WA.fin ?_)
   have hpg : C.sem.page b p = true := h0
   have QL : q2 = (mH C.g.raw xs).length := hq2
   have e1 : C.sem.flip b p xs = { C.sem with wrong := ah.mR C.sem.wrong (b, p) (some (mH C.g.raw xs)) } := by unfold ah.flip; rw [if_pos hpg]; rfl
   obtain ⟨D, hD⟩ : ∃ D, D = C.lg (b, p) (A', c', mH C.g.raw xs) (aU (.slice A' q2 c') 3 1 q2 (ints .i64 (mH C.g.raw xs)) :: C.own) := ⟨_, rfl⟩
   have RV : D.Ok := by
     rw [hD]
     refine hC.lg (Cw.KA _ _) (eU.here fun K => ?_) (fun i hi => (wM.1 hi).2) (by show (mH C.g.raw xs).length ≤ maxLen; simp only [maxLen]; omega)
     show Seq K _ A' (mH C.g.raw xs).length 1 (ints .i64 (mH C.g.raw xs))
     rw [← QL]
     exact aU.seq (by rw [aG]; omega)
   rw [e1]
   refine au.normal (H' := D.A bc :: F) (aO.none rfl) (fun w h => ?_) ⟨D, RV, rfl, by rw [hD, Cw.MG]⟩
   have h1 := (h.sel 9 [0, 8, 3, 4, 1, 5, 6, 7] rfl).Ip
   have h2 := h1.sel 7 [1, 2, 3, 4, 5, 6, 0] rfl
   refine Sat.all (l := D.parts bc) ?_
   have e2 : D.gM = upd C.gM (b, p) (some (.slice A' q2 c')) := by rw [hD, Cw.Ih]; unfold Cw.fQ; rw [← QL]
   unfold Cw.parts
   rw [e2]
   subst hD
   exact h2
theorem Gn {l : List Int} (h : l.Pairwise (· < ·)) (h0 : ∀ x ∈ l, 0 ≤ x) : (dU l).Nodup := by
  unfold dU List.Nodup
  rw [List.pairwise_map]
  refine List.Pairwise.imp_of_mem ?_ h
  intro a b ha hb hab e
  have := h0 a ha
  have := h0 b hb
  omega
theorem ah.sj.flip (S : ah) (b p : Int) {ps : List Int} (hps : ∀ x ∈ ps, 0 ≤ x ∧ x < (8 * S.g.dG : Nat)) (hl : ps.length ≤ S.g.fl.toNat) : ah.sj S (S.flip b p ps) := by
  unfold ah.flip
  split
  · refine ⟨rfl, rfl, rfl, fun hf k w hw => ?_, rfl⟩
    have hw' : ah.mR S.wrong (b, p) (some (mH S.raw ps)) k = some w := hw
    unfold ah.mR at hw'
    split at hw'
    · injection hw' with hw'
      subst hw'
      refine ⟨Gn (DR _ _) (fun x hx => (wM.1 hx).2.1), fun x hx => hps x (wM.1 hx).1, Nat.le_trans (vv _ _) hl⟩
    · exact hf k w hw'
  · exact ah.sj.of rfl rfl rfl rfl rfl
end Go.Proofs.YtcmojpiokjhmhaaGreat
