/- slices.Compact at []int. -/
import Derived.Test.YtgmdagjnigkaaaaF2
namespace Go.Proofs.Ytgmdagjnigkaaaa
open Go.Sl Go.RowKit
set_option linter.unusedVariables false
set_option linter.unusedSimpArgs false
set_option maxRecDepth 20000

/-- The first j numbers, of equal neighbours the first alone. -/
def ddTo (xs : List Int) : Nat → List Int
  | 0 => []
  | j + 1 => ddTo xs j ++ (if j = 0 ∨ xs.getD j 0 ≠ xs.getD (j - 1) 0 then [xs.getD j 0] else [])
def compactL (xs : List Int) : List Int := ddTo xs xs.length
theorem ddTo_keep {xs : List Int} {j : Nat} (h : j = 0 ∨ xs.getD j 0 ≠ xs.getD (j - 1) 0) : ddTo xs (j + 1) = ddTo xs j ++ [xs.getD j 0] := by rw [ddTo, if_pos h]
theorem ddTo_skip {xs : List Int} {j : Nat} (h0 : j ≠ 0) (h : xs.getD j 0 = xs.getD (j - 1) 0) : ddTo xs (j + 1) = ddTo xs j := by rw [ddTo, if_neg (by rintro (h' | h'); exact h0 h'; exact h' h), List.append_nil]
theorem take_getD {xs : List Int} {j : Nat} (h : j < xs.length) : xs.take (j + 1) = xs.take j ++ [xs.getD j 0] := by rw [List.take_add_one, List.getElem?_eq_getElem h]; simp [List.getD, h]
theorem compact_ints {A : Option Addr} {m cap : Nat} {xs : List Int} {K : World} {F : List Assn} :
    Does Try.prog 65 #[.slice A m cap] K (SlA (.slice A m cap) 3 1 m (ints .i64 xs) :: F)
      (fun v H' => ∃ q, q = (compactL xs).length ∧ v = .slice A q cap ∧ H' = SlA (.slice A q cap) 3 1 q (ints .i64 (compactL xs)) :: F) := by
  refine Does.have_ (p := xs.length = m) (fun w hw => by have := SlA.len hw; rwa [ints_length, Nat.mul_one] at this) (fun hl => ?_)
  by_cases hm2 : m < 2
  · have hc : compactL xs = xs := by
      match xs, hl with
      | [], _ => rfl
      | [x], _ => rfl
      | _ :: _ :: _, h => simp at h; omega
    refine Does.enter Try.func65 rfl Try.ntmps65 rfl ?_
    simp only [env0, Nat.reduceAdd]
    refine WC.seq ?_
    refine WC.region ?_
    refine WL.val (V.assign (OV.p rfl)) rfl ?_
    refine WL.nil ?_
    refine WC.seq ?_
    refine WC.seq ?_
    refine WC.region ?_
    refine WL.val (V.move (OV.p rfl)) rfl ?_
    refine WL.val (V.len (t := 40) Try.runUnderlying40 (OV.p rfl)) rfl ?_
    refine WL.val (V.lss (OV.p rfl) (OV.p rfl)) rfl ?_
    refine WL.nil ?_
    refine WC.condT' rfl (by first | rfl | (simp; done) | (simp; omega)) ?_
    refine WC.seq ?_
    refine WC.region ?_
    refine WL.val (V.move (OV.p rfl)) rfl ?_
    refine WL.val (V.assign (OV.p rfl)) rfl ?_
    refine WL.nil ?_
    refine WC.ret ?_
    refine BodyQ.ret (H' := SlA (.slice A m cap) _ 1 m (ints .i64 xs) :: F) (Res.tmp rfl rfl) (fun w h => h) ⟨m, by rw [hc, hl], rfl, by rw [hc]⟩
  · cases A with
    | none => exact Does.have_ (p := m = 0) (fun w hw => (SlA.nilCs hw).1) (fun h => absurd (by omega) hm2)
    | some a =>
      refine Does.have_ (p := ∃ g, a = ⟨g, 0, none⟩) (fun w hw => SlA.addr hw) (fun ⟨g, e1⟩ => ?_)
      subst e1
      refine Does.ex (fun w hw => Sat.slCells hw) (fun rs ⟨hr1, _, hr2, hr3⟩ => ?_)
      have hcap : cap ≤ 9223372036854775807 := by simp only [maxLen] at hr3; omega
      have hback : ∀ (ys : List Int) (cs : List Value) (w : World), cs.length = cap → ys.length ≤ cap → cs.take ys.length = ints .i64 ys → Sat K w (Cells g 3 cs :: F) → Sat K w (SlA (.slice (some ⟨g, 0, none⟩) ys.length cap) 3 1 ys.length (ints .i64 ys) :: F) := fun ys cs w h1 h2 h3 h => by
        have := Sat.toSl (s := 1) h (by rw [h1, Nat.mul_one]) h2 hr3
        rw [Nat.mul_one, h3] at this
        exact this
      have hat : ∀ {cs : List Value} {d j : Nat}, cs.drop d = (ints .i64 xs ++ rs).drop d → d ≤ j → j < m → cs[j]? = some (.int .i64 (xs.getD j 0)) := fun {cs d j} h h1 h2 => by
        have e1 := congrArg (·[j - d]?) h
        simp only [List.getElem?_drop] at e1
        rw [show d + (j - d) = j by omega] at e1
        rw [e1, List.getElem?_append_left (by rw [ints_length]; omega), ints_getD _ _ (by omega)]
      refine Does.enter Try.func65 rfl Try.ntmps65 rfl ?_
      simp only [env0, Nat.reduceAdd]
      refine WC.seq ?_
      refine WC.region ?_
      refine WL.val (V.assign (OV.p rfl)) rfl ?_
      refine WL.nil ?_
      refine WC.seq ?_
      refine WC.seq ?_
      refine WC.region ?_
      refine WL.val (V.move (OV.p rfl)) rfl ?_
      refine WL.val (V.len (t := 40) Try.runUnderlying40 (OV.p rfl)) rfl ?_
      refine WL.val (V.lss (OV.p rfl) (OV.p rfl)) rfl ?_
      refine WL.nil ?_
      refine WC.condF' rfl ((by simp; omega)) ?_
      refine WC.skip ?_
      refine WC.seq ?_
      refine WC.seq ?_
      refine WC.region ?_
      refine WL.val (V.assign (OV.p rfl)) rfl ?_
      refine WL.nil ?_
      refine WC.block ?_
      refine WC.loop (σ := Nat) (fun k => [(0, .slice (some ⟨g, 0, none⟩) m cap), (3, .int .i64 (k : Int))]) (fun k => Cells g 3 (ints .i64 xs ++ rs) :: F) (fun k => 1 ≤ k ∧ k ≤ m ∧ ddTo xs k = xs.take k) (fun k => m - k) 1 ⟨Nat.le_refl _, by omega, by rw [ddTo_keep (.inl rfl), take_getD (by omega)]; rfl⟩ (.cons rfl (.cons rfl (.nil _))) (fun w h => h) ?_
      rintro k ⟨hk1, hkm, hdk⟩
      refine WC.seq ?_
      refine WC.seq ?_
      refine WC.region ?_
      refine WL.val (V.move (OV.p rfl)) rfl ?_
      refine WL.val (V.move (OV.p rfl)) rfl ?_
      refine WL.val (V.len (t := 40) Try.runUnderlying40 (OV.p rfl)) rfl ?_
      refine WL.val (V.lss (OV.p rfl) (OV.p rfl)) rfl ?_
      refine WL.nil ?_
      refine WC.cond rfl (fun hc1 => ?_) (fun hc1 => ?_)
      · simp only [decide_eq_true_eq, decide_eq_false_iff_not] at hc1
        refine WC.skip ?_
        refine WC.seq ?_
        refine WC.block ?_
        refine WC.seq ?_
        have hkl : k < m := by omega
        have hg1 : (ints .i64 xs ++ rs)[0 + (k : Int).toNat * 1]? = some (.int .i64 (xs.getD k 0)) := by rw [show 0 + (k : Int).toNat * 1 = k by omega]; exact hat rfl (Nat.zero_le _) hkl
        have hg2 : (ints .i64 xs ++ rs)[0 + ((k : Int) - 1).toNat * 1]? = some (.int .i64 (xs.getD (k - 1) 0)) := by rw [show 0 + ((k : Int) - 1).toNat * 1 = k - 1 by omega]; exact hat rfl (Nat.zero_le _) (by omega)
        refine WC.regionQ (by kernel_rfl) (by kernel_rfl) ?_
        refine WQ.val (V.move (OV.p rfl)) rfl ?_
        refine WQ.val (V.move (OV.p rfl)) rfl ?_
        refine WQ.val (V.idxB st40 (OV.p rfl) (OV.p rfl) (fun hc => by omega)) rfl ?_
        refine WQ.val (V.load Try.isAgg3 (OV.p rfl) (fun _ => Rd.here hg1)) rfl ?_
        refine WQ.val (V.move (OV.p rfl)) rfl ?_
        refine WQ.val (V.move (OV.p rfl)) rfl ?_
        refine WQ.val (V.subI (OV.p rfl) (OV.p rfl) (fun hc => by first | omega | (simp at hc; omega))) rfl ?_
        refine WQ.val (V.idxB st40 (OV.p rfl) (OV.p rfl) (fun hc => by omega)) rfl ?_
        refine WQ.val (V.load Try.isAgg3 (OV.p rfl) (fun _ => Rd.here hg2)) rfl ?_
        refine WQ.val (V.eql (OV.p rfl) (OV.p rfl)) rfl ?_
        refine WQ.nil ?_
        refine WC.cond rfl (fun hc2 => ?_) (fun hc2 => ?_)
        · simp only [decide_eq_true_eq, decide_eq_false_iff_not] at hc2
          have h2 := hc2
          refine WC.seq ?_
          refine WC.region ?_
          refine WL.val (V.move (OV.p rfl)) rfl ?_
          refine WL.val (V.move (OV.p rfl)) rfl ?_
          refine WL.val (V.val_eq (v' := .slice (some ⟨g, k, none⟩) (m - k) (cap - k)) (V.slice (l := k) (h := m) (u := cap) st40 (OV.p rfl) (OO.some (OV.p rfl) (fun _ => rfl)) OO.none OO.none (by simp) (by omega) (by omega) (Nat.le_refl _)) (fun _ => by rw [if_neg (by omega)]; simp [add_mk])) rfl ?_
          refine WL.val (V.assign (OV.p rfl)) rfl ?_
          refine WL.nil ?_
          refine WC.seq ?_
          refine WC.seq ?_
          refine WC.region ?_
          refine WL.val (V.assign (OV.p rfl)) rfl ?_
          refine WL.nil ?_
          refine WC.block ?_
          refine WC.loop (σ := Nat × Nat × List Value) (fun x => [(0, .slice (some ⟨g, 0, none⟩) m cap), (4, .slice (some ⟨g, k, none⟩) (m - k) (cap - k)), (3, .int .i64 (x.1 : Int)), (5, .int .i64 (x.2.1 : Int))]) (fun x => Cells g 3 x.2.2 :: F) (fun x => k ≤ x.1 ∧ x.1 < k + x.2.1 ∧ k + x.2.1 ≤ m ∧ x.2.2.length = cap ∧ x.1 = (ddTo xs (k + x.2.1)).length ∧ x.2.2.take x.1 = ints .i64 (ddTo xs (k + x.2.1)) ∧ x.2.2.drop (k + x.2.1 - 1) = (ints .i64 xs ++ rs).drop (k + x.2.1 - 1)) (fun x => m - x.2.1) (k, 1, ints .i64 xs ++ rs) ?_ (.cons rfl (.cons rfl (.cons rfl (.cons rfl (.nil _))))) (fun w h => h) ?_
          · have e1 : ddTo xs (k + 1) = xs.take k := by rw [ddTo_skip (by omega) h2, hdk]
            refine ⟨Nat.le_refl _, by show k < k + 1; omega, by show k + 1 ≤ m; omega, by rw [hr1, Nat.mul_one], ?_, ?_, rfl⟩
            · show k = (ddTo xs (k + 1)).length
              rw [e1, List.length_take]; omega
            · show (ints .i64 xs ++ rs).take k = ints .i64 (ddTo xs (k + 1))
              rw [e1, List.take_append_of_le_length (by rw [ints_length]; omega), ints_take]
          rintro ⟨kk, k2, cs⟩ ⟨h10, h11, h12, h13, h14, h15, h16⟩
          dsimp only at h10 h11 h12 h13 h14 h15 h16 ⊢
          refine WC.seq ?_
          refine WC.seq ?_
          refine WC.region ?_
          refine WL.val (V.move (OV.p rfl)) rfl ?_
          refine WL.val (V.move (OV.p rfl)) rfl ?_
          refine WL.val (V.len (t := 40) Try.runUnderlying40 (OV.p rfl)) rfl ?_
          refine WL.val (V.lss (OV.p rfl) (OV.p rfl)) rfl ?_
          refine WL.nil ?_
          refine WC.cond rfl (fun hc3 => ?_) (fun hc3 => ?_)
          · simp only [decide_eq_true_eq, decide_eq_false_iff_not] at hc3
            refine WC.skip ?_
            refine WC.seq ?_
            refine WC.block ?_
            refine WC.seq ?_
            have hlt2 : k + k2 < m := by omega
            have hg3 : cs[k + (k2 : Int).toNat * 1]? = some (.int .i64 (xs.getD (k + k2) 0)) := by rw [show k + (k2 : Int).toNat * 1 = k + k2 by omega]; exact hat h16 (by omega) hlt2
            have hg4 : cs[k + ((k2 : Int) - 1).toNat * 1]? = some (.int .i64 (xs.getD (k + k2 - 1) 0)) := by rw [show k + ((k2 : Int) - 1).toNat * 1 = k + k2 - 1 by omega]; exact hat h16 (by omega) (by omega)
            refine WC.regionQ (by kernel_rfl) (by kernel_rfl) ?_
            refine WQ.val (V.move (OV.p rfl)) rfl ?_
            refine WQ.val (V.move (OV.p rfl)) rfl ?_
            refine WQ.val (V.idxB st40 (OV.p rfl) (OV.p rfl) (fun hc => by omega)) rfl ?_
            refine WQ.val (V.load Try.isAgg3 (OV.p rfl) (fun _ => Rd.here hg3)) rfl ?_
            refine WQ.val (V.move (OV.p rfl)) rfl ?_
            refine WQ.val (V.move (OV.p rfl)) rfl ?_
            refine WQ.val (V.subI (OV.p rfl) (OV.p rfl) (fun hc => by first | omega | (simp at hc; omega))) rfl ?_
            refine WQ.val (V.idxB st40 (OV.p rfl) (OV.p rfl) (fun hc => by omega)) rfl ?_
            refine WQ.val (V.load Try.isAgg3 (OV.p rfl) (fun _ => Rd.here hg4)) rfl ?_
            refine WQ.val (V.neq (OV.p rfl) (OV.p rfl)) rfl ?_
            refine WQ.nil ?_
            refine WC.cond rfl (fun hc4 => ?_) (fun hc4 => ?_)
            · simp only [Bool.not_eq_true', Bool.not_eq_false', decide_eq_true_eq, decide_eq_false_iff_not] at hc4
              have h5 := hc4
              have hst : ddTo xs (k + k2 + 1) = ddTo xs (k + k2) ++ [xs.getD (k + k2) 0] := ddTo_keep (.inr h5)
              refine WC.seq ?_
              refine WC.region ?_
              refine WL.val (V.move (OV.p rfl)) rfl ?_
              refine WL.val (V.move (OV.p rfl)) rfl ?_
              refine WL.val (V.move (OV.p rfl)) rfl ?_
              refine WL.val (V.move (OV.p rfl)) rfl ?_
              refine WL.val (V.idxB st40 (OV.p rfl) (OV.p rfl) (fun hc => by omega)) rfl ?_
              refine WL.val (V.load Try.isAgg3 (OV.p rfl) (fun _ => Rd.here hg3)) rfl ?_
              refine WL.val (V.idxB st40 (OV.p rfl) (OV.p rfl) (fun hc => by omega)) rfl ?_
              refine WL.store (cs := [_]) Try.sizeOf3 (OV.p rfl) (OV.p rfl) rfl rfl rfl (Upd.at_ (by omega)) ?_
              refine WL.nil ?_
              refine WC.region ?_
              refine WL.val (V.move (OV.p rfl)) rfl ?_
              refine WL.val (V.addI (OV.p rfl) (OV.p rfl) (fun hc => by first | omega | (simp at hc; omega))) rfl ?_
              refine WL.val (V.assign (OV.p rfl)) rfl ?_
              refine WL.nil ?_
              refine WC.region ?_
              refine WL.val (V.move (OV.p rfl)) rfl ?_
              refine WL.val (V.addI (OV.p rfl) (OV.p rfl) (fun hc => by first | omega | (simp at hc; omega))) rfl ?_
              refine WL.val (V.assign (OV.p rfl)) rfl ?_
              refine WL.nil ?_
              refine ⟨rfl, ?_⟩
              first
              | (have hse2 := hse
                 refine ⟨(kk, k2 + 1, cs), ⟨h10, by show kk < k + (k2 + 1); omega, by show k + (k2 + 1) ≤ m; omega, h13, ?_, ?_, ?_⟩, (by show m - (k2 + 1) < m - k2; omega), .cons rfl (.cons rfl (.cons rfl (.cons (look_eq rfl (by simp)) (.nil _)))), fun w h => h⟩
                 · show kk = (ddTo xs (k + k2 + 1)).length
                   rw [hse2]; exact h14
                 · show cs.take kk = ints .i64 (ddTo xs (k + k2 + 1))
                   rw [hse2]; exact h15
                 · have := congrArg (List.drop 1) h16
                   rw [List.drop_drop, List.drop_drop] at this
                   show cs.drop (k + k2 + 1 - 1) = _
                   rw [show k + (k2 + 1) - 1 = k + k2 - 1 + 1 by omega, show k + k2 + 1 - 1 = k + k2 - 1 + 1 by omega]
                   exact this)
              | (have hst2 := hst
                 refine ⟨(kk + 1, k2 + 1, cs.set (0 + (kk : Int).toNat * 1) (.int .i64 (xs.getD (k + k2) 0))), ⟨by show k ≤ kk + 1; omega, by show kk + 1 < k + (k2 + 1); omega, by show k + (k2 + 1) ≤ m; omega, by rw [List.length_set]; exact h13, ?_, ?_, ?_⟩, (by show m - (k2 + 1) < m - k2; omega), .cons rfl (.cons rfl (.cons (look_eq rfl (by simp)) (.cons (look_eq rfl (by simp)) (.nil _)))), fun w h => h⟩
                 · show kk + 1 = (ddTo xs (k + k2 + 1)).length
                   rw [hst2, List.length_append, ← h14]; rfl
                 · show (cs.set (0 + (kk : Int).toNat * 1) (.int .i64 (xs.getD (k + k2) 0))).take (kk + 1) = ints .i64 (ddTo xs (k + k2 + 1))
                   rw [hst2, ints_append, ← h15, show 0 + (kk : Int).toNat * 1 = kk by omega, List.take_add_one, List.getElem?_set_self (by omega), List.take_set_of_le (by omega)]
                   rfl
                 · show (cs.set (0 + (kk : Int).toNat * 1) (.int .i64 (xs.getD (k + k2) 0))).drop (k + k2 + 1 - 1) = _
                   have := congrArg (List.drop 1) h16
                   rw [List.drop_drop, List.drop_drop] at this
                   rw [show 0 + (kk : Int).toNat * 1 = kk by omega, List.drop_set_of_lt (by omega)]
                   show cs.drop (k + k2 + 1 - 1) = _
                   rw [show k + (k2 + 1) - 1 = k + k2 - 1 + 1 by omega, show k + k2 + 1 - 1 = k + k2 - 1 + 1 by omega]
                   exact this)
            · simp only [Bool.not_eq_true', Bool.not_eq_false', decide_eq_true_eq, decide_eq_false_iff_not] at hc4
              have h5 := hc4
              have hse : ddTo xs (k + k2 + 1) = ddTo xs (k + k2) := ddTo_skip (by omega) h5
              refine WC.skip ?_
              refine WC.region ?_
              refine WL.val (V.move (OV.p rfl)) rfl ?_
              refine WL.val (V.addI (OV.p rfl) (OV.p rfl) (fun hc => by first | omega | (simp at hc; omega))) rfl ?_
              refine WL.val (V.assign (OV.p rfl)) rfl ?_
              refine WL.nil ?_
              refine ⟨rfl, ?_⟩
              first
              | (have hse2 := hse
                 refine ⟨(kk, k2 + 1, cs), ⟨h10, by show kk < k + (k2 + 1); omega, by show k + (k2 + 1) ≤ m; omega, h13, ?_, ?_, ?_⟩, (by show m - (k2 + 1) < m - k2; omega), .cons rfl (.cons rfl (.cons rfl (.cons (look_eq rfl (by simp)) (.nil _)))), fun w h => h⟩
                 · show kk = (ddTo xs (k + k2 + 1)).length
                   rw [hse2]; exact h14
                 · show cs.take kk = ints .i64 (ddTo xs (k + k2 + 1))
                   rw [hse2]; exact h15
                 · have := congrArg (List.drop 1) h16
                   rw [List.drop_drop, List.drop_drop] at this
                   show cs.drop (k + k2 + 1 - 1) = _
                   rw [show k + (k2 + 1) - 1 = k + k2 - 1 + 1 by omega, show k + k2 + 1 - 1 = k + k2 - 1 + 1 by omega]
                   exact this)
              | (have hst2 := hst
                 refine ⟨(kk + 1, k2 + 1, cs.set (0 + (kk : Int).toNat * 1) (.int .i64 (xs.getD (k + k2) 0))), ⟨by show k ≤ kk + 1; omega, by show kk + 1 < k + (k2 + 1); omega, by show k + (k2 + 1) ≤ m; omega, by rw [List.length_set]; exact h13, ?_, ?_, ?_⟩, (by show m - (k2 + 1) < m - k2; omega), .cons rfl (.cons rfl (.cons (look_eq rfl (by simp)) (.cons (look_eq rfl (by simp)) (.nil _)))), fun w h => h⟩
                 · show kk + 1 = (ddTo xs (k + k2 + 1)).length
                   rw [hst2, List.length_append, ← h14]; rfl
                 · show (cs.set (0 + (kk : Int).toNat * 1) (.int .i64 (xs.getD (k + k2) 0))).take (kk + 1) = ints .i64 (ddTo xs (k + k2 + 1))
                   rw [hst2, ints_append, ← h15, show 0 + (kk : Int).toNat * 1 = kk by omega, List.take_add_one, List.getElem?_set_self (by omega), List.take_set_of_le (by omega)]
                   rfl
                 · show (cs.set (0 + (kk : Int).toNat * 1) (.int .i64 (xs.getD (k + k2) 0))).drop (k + k2 + 1 - 1) = _
                   have := congrArg (List.drop 1) h16
                   rw [List.drop_drop, List.drop_drop] at this
                   rw [show 0 + (kk : Int).toNat * 1 = kk by omega, List.drop_set_of_lt (by omega)]
                   show cs.drop (k + k2 + 1 - 1) = _
                   rw [show k + (k2 + 1) - 1 = k + k2 - 1 + 1 by omega, show k + k2 + 1 - 1 = k + k2 - 1 + 1 by omega]
                   exact this)
          · simp only [decide_eq_true_eq, decide_eq_false_iff_not] at hc3
            refine WC.exit ?_
            refine WC.seq ?_
            refine WC.region ?_
            refine WL.val (V.move (OV.p rfl)) rfl ?_
            refine WL.val (V.move (OV.p rfl)) rfl ?_
            have hke : k + k2 = m := by omega
            rw [hke, ← hl] at h14 h15
            refine WL.val (V.slice (l := kk) (h := m) (u := cap) st40 (OV.p rfl) (OO.some (OV.p rfl) (fun _ => rfl)) OO.none OO.none (by simp) (by omega) (by omega) (Nat.le_refl _)) rfl ?_
            refine WL.clear0 (b := g) (o := kk) Try.underlying40 Try.zeroValue3 rfl rfl (OV.p rfl) (fun hq => by rw [if_neg (by omega)]; simp [add_mk]) (Upd.row (by rw [List.length_replicate]; omega)) ?_
            refine WL.nil ?_
            refine WC.seq ?_
            refine WC.region ?_
            refine WL.val (V.move (OV.p rfl)) rfl ?_
            refine WL.val (V.move (OV.p rfl)) rfl ?_
            refine WL.val (V.slice (l := 0) (h := kk) (u := cap) st40 (OV.p rfl) OO.none (OO.some (OV.p rfl) (fun _ => rfl)) OO.none (by simp) (by omega) (by omega) (Nat.le_refl _)) rfl ?_
            refine WL.val (V.assign (OV.p rfl)) rfl ?_
            refine WL.nil ?_
            refine WC.ret ?_
            refine BodyQ.ret (H' := SlA (.slice (some ⟨g, 0, none⟩) kk cap) _ 1 kk (ints .i64 (compactL xs)) :: F) (Res.tmp rfl (look_eq rfl (by simp [Addr.add]))) (fun w h => ?_) ⟨kk, h14, rfl, rfl⟩
            have hlen : (cs.take kk ++ List.replicate (m - kk) (Value.int .i64 0) ++ cs.drop (kk + (List.replicate (m - kk) (Value.int .i64 0)).length)).length = cap := by
              simp only [List.length_append, List.length_take, List.length_replicate, List.length_drop]; omega
            have := hback (ddTo xs xs.length) _ w hlen (by omega) (by rw [← h14, List.append_assoc, List.take_left' (by rw [List.length_take]; omega), h15]) h
            rw [← h14] at this
            exact this
        · simp only [decide_eq_true_eq, decide_eq_false_iff_not] at hc2
          have h2 := hc2
          refine WC.skip ?_
          refine WC.region ?_
          refine WL.val (V.move (OV.p rfl)) rfl ?_
          refine WL.val (V.addI (OV.p rfl) (OV.p rfl) (fun hc => by first | omega | (simp at hc; omega))) rfl ?_
          refine WL.val (V.assign (OV.p rfl)) rfl ?_
          refine WL.nil ?_
          refine ⟨rfl, ?_⟩
          refine ⟨k + 1, ⟨by show 1 ≤ k + 1; omega, by show k + 1 ≤ m; omega, by rw [ddTo_keep (.inr h2), hdk, take_getD (by omega)]⟩, (by show m - (k + 1) < m - k; omega), .cons rfl (.cons (look_eq rfl (by simp)) (.nil _)), fun w h => h⟩
      · simp only [decide_eq_true_eq, decide_eq_false_iff_not] at hc1
        refine WC.exit ?_
        refine WC.seq ?_
        refine WC.region ?_
        refine WL.val (V.move (OV.p rfl)) rfl ?_
        refine WL.val (V.assign (OV.p rfl)) rfl ?_
        refine WL.nil ?_
        refine WC.ret ?_
        obtain rfl : k = m := by omega
        have hce : compactL xs = xs := by unfold compactL; rw [hl, hdk, List.take_of_length_le (by omega)]
        refine BodyQ.ret (H' := SlA (.slice (some ⟨g, 0, none⟩) k cap) _ 1 k (ints .i64 xs) :: F) (Res.tmp rfl rfl) (fun w h => ?_) ⟨k, by rw [hce, hl], rfl, by rw [hce]⟩
        have := hback xs _ w (by rw [hr1, Nat.mul_one]) (by omega) (by rw [List.take_left' (ints_length _ _)]) h
        rw [hl] at this
        exact this
/-- Of a sorted list: the same numbers, each once. -/
theorem mem_ddTo {xs : List Int} {x : Int} : ∀ {j : Nat}, j ≤ xs.length → (x ∈ ddTo xs j ↔ x ∈ xs.take j)
  | 0, _ => by simp [ddTo]
  | j + 1, h => by
    rw [take_getD (by omega), List.mem_append, ← mem_ddTo (j := j) (by omega)]
    by_cases hk : j = 0 ∨ xs.getD j 0 ≠ xs.getD (j - 1) 0
    · rw [ddTo_keep hk, List.mem_append]
    · have h0 : j ≠ 0 := fun e => hk (.inl e)
      have h1 : xs.getD j 0 = xs.getD (j - 1) 0 := by
        rcases Decidable.em (xs.getD j 0 = xs.getD (j - 1) 0) with h | h
        · exact h
        · exact absurd (.inr h) hk
      rw [ddTo_skip h0 h1]
      refine ⟨.inl, fun h2 => h2.elim id fun h3 => ?_⟩
      rw [List.mem_singleton] at h3
      obtain ⟨i, rfl⟩ : ∃ i, j = i + 1 := ⟨j - 1, by omega⟩
      rw [mem_ddTo (by omega), take_getD (by omega), h3, h1]
      simp
theorem ddTo_sorted {xs : List Int} (hs : xs.Pairwise (· ≤ ·)) : ∀ {j : Nat}, j ≤ xs.length → (ddTo xs j).Pairwise (· < ·)
  | 0, _ => by simp [ddTo]
  | j + 1, h => by
    have ih := ddTo_sorted hs (j := j) (by omega)
    by_cases hk : j = 0 ∨ xs.getD j 0 ≠ xs.getD (j - 1) 0
    · rw [ddTo_keep hk, List.pairwise_append]
      refine ⟨ih, by simp, fun a ha b hb => ?_⟩
      rw [List.mem_singleton] at hb
      subst hb
      rw [mem_ddTo (by omega)] at ha
      rcases hk with h0 | h0
      · subst h0; simp at ha
      · obtain ⟨i, hi⟩ := List.getElem?_of_mem ha
        rw [List.getElem?_take] at hi
        split at hi
        · rename_i hij
          obtain ⟨hi', hi⟩ := List.getElem?_eq_some_iff.1 hi
          have hp := List.pairwise_iff_getElem.1 hs
          have h1 := hp i j hi' (by omega) hij
          have e1 : xs.getD j 0 = xs[j] := by simp [List.getD, show j < xs.length by omega]
          have e2 : xs.getD (j - 1) 0 = xs[j - 1] := by simp [List.getD, show j - 1 < xs.length by omega]
          rw [e1] at h0 ⊢
          rw [e2] at h0
          rw [← hi]
          have h2 : xs[i] ≤ xs[j - 1] := by
            rcases Nat.lt_or_ge i (j - 1) with h | h
            · exact hp i (j - 1) hi' (by omega) h
            · have : i = j - 1 := by omega
              subst this; exact Int.le_refl _
          have h3 := hp (j - 1) j (by omega) (by omega) (by omega)
          omega
        · cases hi
    · have h0 : j ≠ 0 := fun e => hk (.inl e)
      have h1 : xs.getD j 0 = xs.getD (j - 1) 0 := by
        rcases Decidable.em (xs.getD j 0 = xs.getD (j - 1) 0) with h | h
        · exact h
        · exact absurd (.inr h) hk
      rw [ddTo_skip h0 h1]
      exact ih
theorem ddTo_length (xs : List Int) : ∀ j, (ddTo xs j).length ≤ j
  | 0 => Nat.le_refl _
  | j + 1 => by
    have := ddTo_length xs j
    rw [ddTo, List.length_append]
    split <;> simp <;> omega
theorem mem_compactL {xs : List Int} {x : Int} : x ∈ compactL xs ↔ x ∈ xs := by rw [compactL, mem_ddTo (Nat.le_refl _), List.take_of_length_le (Nat.le_refl _)]
theorem compactL_sorted {xs : List Int} (hs : xs.Pairwise (· ≤ ·)) : (compactL xs).Pairwise (· < ·) := ddTo_sorted hs (Nat.le_refl _)
theorem compactL_length (xs : List Int) : (compactL xs).length ≤ xs.length := ddTo_length xs _
end Go.Proofs.Ytgmdagjnigkaaaa
