import Derived.Test.YtcedojacbhnbiaaGreatP8
import Derived.Test.YtcedojacbhnbiaaGreatP5
import Derived.Test.YtcedojacbhnbiaaGreatP14
namespace Go.Proofs.YtcedojacbhnbiaaGreat
open Go.Sl Go.RowKit
set_option linter.unusedVariables false
set_option linter.unusedSimpArgs false
set_option maxRecDepth 20000
theorem FD {A : Option Addr} {m cap : Nat} {xs : List Int} {K : World} {F : List au} (hs : Seq K F A m 1 (ints .i64 xs)) (hm : m ≤ 1000000) :
    Does Tryz.prog 103 #[.slice A m cap] K F (fun v H' => ∃ A' cap', v = .slice A' m cap' ∧ H' = bC (.slice A' m cap') 3 1 m (ints .i64 xs) :: F) := by
  have hl : xs.length = m := by simpa [ints] using hs.len
  refine Does.have_ (p := A = none → xs = []) (fun w hw hA => by subst hA; simpa [ints] using hs.Ed hw) (fun hnil => ?_)
  refine Does.enter Tryz.func103 rfl Tryz.ntmps103 rfl ?_
  simp only [aJ, Nat.reduceAdd]
  refine WC.sr (WL.sg rfl rfl (WL.nil (WC.seq (WC.sr (WL.mv rfl rfl (WL.val (V.KF Tryz.underlying124 (OV.p rfl)) rfl (WL.nil ?_)))))))
  refine WC.cond rfl (fun hc0 => ?_) (fun hc0 => ?_)
  ·skip
   have hA : A = none := by cases A <;> simp at hc0 ⊢
   subst hA
   have hx := hnil rfl
   subst hx
   obtain rfl : m = 0 := hl.symm
   refine WC.sr (WL.sg rfl rfl (WL.nil (WC.ret ?_)))
   exact aj.ret (H' := bC (.slice none 0 0) _ 1 0 [] :: F) (aL.tmp rfl rfl) (fun w h => Sat.iA h _ _) ⟨none, 0, rfl, rfl⟩
  ·skip
   refine WC.skip (WC.sr ?_)
   refine WL.buildSlice (E := 3) (cs := []) (vs := []) trivial rfl (JX ) rfl (fun b5 => ?_)
   refine WL.mv rfl rfl ?_
   refine WL.sub (Sub.refl _) (fun w h => Sat.Dc (m := 0) (cap := 0) (s := 1) h rfl (Nat.le_refl _) (Nat.zero_le _)) ?_
   refine WL.append (m := 0) (cs := []) Tryz.underlying124 el3 (OV.p rfl) (OV.p rfl) (by repeat (first | exact hs | apply Seq.up)) (ow _ _) (by omega) rfl rfl (fun A' c' hn' hc' => ?_)
   refine WL.sg rfl rfl (WL.nil (WC.ret ?_))
   refine aj.ret (H' := bC (.slice A' m c') _ 1 m (ints .i64 xs) :: F) (aL.tmp rfl (look_eq rfl (by simp))) (fun w h => ?_) ⟨A', c', rfl, rfl⟩
   simpa using h
theorem indexFunc {A : Option Addr} {m cap : Nat} {xs : List Int} {fid : FuncId} {zZ : List Value} {p : Int → Bool} {K : World} {F : List au} (hs : Seq K F A m 1 (ints .i64 xs)) (hm : m ≤ maxLen) (hcl : eP Tryz.prog fid)
    (hf : ∀ x ∈ xs, aG Tryz.prog fid ([Value.int .i64 x] ++ zZ).toArray K F (.bool (p x))) :
    Does Tryz.prog 188 #[.slice A m cap, .func (.func fid) #[] zZ.toArray] K F
      (fun v H' => H' = F ∧ ((v = .int .i64 (-1) ∧ ∀ x ∈ xs, p x = false) ∨ ∃ i : Nat, i < m ∧ v = .int .i64 (i : Int) ∧ (∀ x ∈ xs.take i, p x = false) ∧ p (xs.getD i 0) = true)) := by
  have hl : xs.length = m := by simpa [ints] using hs.len
  have hm' : m ≤ 9223372036854775807 := by simp only [maxLen] at hm; omega
  refine Does.enter Tryz.func188 rfl Tryz.ntmps188 rfl ?_
  simp only [aJ, Nat.reduceAdd]
  refine WC.sr (WL.sg rfl rfl (WL.nil (WC.seq (WC.sr (WL.mv rfl rfl (WL.val (V.len (t := 124) Tryz.runUnderlying124 (OV.p rfl)) rfl (WL.mv rfl rfl (WL.nil (WC.block ?_)))))))))
  refine WC.loop (σ := Nat) (fun i => [(0, .slice A m cap), (1, .func (.func fid) #[] zZ.toArray), (7, .int .i64 (m : Int)), (8, .int .i64 (i : Int))]) (fun i => F) (fun i => i ≤ m ∧ ∀ x ∈ xs.take i, p x = false) (fun i => m - i) 0 ⟨Nat.zero_le _, fun x hx => by simp at hx⟩ (.cons rfl (.cons rfl (.cons rfl (.cons rfl (.nil _))))) (fun w h => h) ?_
  rintro i ⟨hi, hp⟩
  refine WC.sr (WL.val (V.lss (OV.p rfl) (OV.p rfl)) rfl (WL.nil (WC.seq ?_)))
  refine WC.cond rfl (fun hc0 => ?_) (fun hc0 => ?_)
  ·simp only [decide_eq_true_eq, decide_eq_false_iff_not] at hc0
   refine WC.skip (WC.seq (WC.block (WC.sr (WL.mv rfl rfl (WL.sg rfl rfl (WL.nil (WC.sr (WL.mv rfl rfl (WL.mv rfl rfl (WL.mv rfl rfl ?_))))))))))
   refine WL.val (V.fu bO (OV.p rfl) (OV.p rfl) (fun hc => by omega) (fun hc => Seq.fB hs (by omega))) rfl ?_
   refine WL.val (V.load Tryz.isAgg3 (OV.p rfl) (fun hc => Seq.fB hs (by omega))) rfl ?_
   have hti : (i : Int).toNat = i := by omega
   have hget : xs.getD i 0 = xs[i]'(by omega) := by simp [List.getD, show i < xs.length by omega]
   refine WL.kV (first := []) (vs := [_]) (captured := zZ) hcl (OV.p rfl) ⟨OV.p rfl, trivial⟩ (hf (xs.getD i 0) (by rw [hget]; exact List.getElem_mem _)) rfl ?_
   rintro _ H0 ⟨rfl, h0⟩
   subst H0
   refine WL.nil ?_
   refine WC.cond rfl (fun hc1 => ?_) (fun hc1 => ?_)
   ·skip
    have h1 := hc1
    refine WC.sr (WL.mv rfl rfl (WL.sg rfl rfl (WL.nil (WC.ret ?_))))
    refine aj.ret (H' := F) (aL.tmp rfl rfl) (fun w h => h) ⟨rfl, .inr ⟨i, by omega, rfl, hp, h1⟩⟩
   ·skip
    have h1 := hc1
    refine WC.skip (WC.region (WL.ad rfl rfl rfl ?_))
    refine WL.mv rfl rfl (WL.nil ?_)
    refine ⟨rfl, ?_⟩
    refine ⟨i + 1, ⟨by show i + 1 ≤ m; omega, fun x hx => ?_⟩, (by show m - (i + 1) < m - i; omega), .cons rfl (.cons rfl (.cons rfl (.cons (look_eq rfl (by simp)) (.nil _)))), fun w h => h⟩
    rw [List.take_add_one, List.getElem?_eq_getElem (by omega), ← hget] at hx
    rcases List.mem_append.1 hx with hx | hx
    · exact hp x hx
    · simp at hx; subst hx; exact h1
  ·simp only [decide_eq_true_eq, decide_eq_false_iff_not] at hc0
   refine WC.exit (WC.sr (WL.sg rfl rfl (WL.nil (WC.ret ?_))))
   obtain rfl : i = m := by omega
   refine aj.ret (H' := F) (aL.tmp rfl rfl) (fun w h => h) ⟨rfl, .inl ⟨rfl, fun x hx => hp x (by rw [List.take_of_length_le (by omega)]; exact hx)⟩⟩
theorem filter_all {p : Int → Bool} {xs : List Int} (h : ∀ x ∈ xs, p x = false) : xs.filter (fun x => !p x) = xs := List.filter_eq_self.2 fun x hx => by simp [h x hx]
theorem FC {A : Option Addr} {m cap : Nat} {xs : List Int} {fid : FuncId} {zZ : List Value} {p : Int → Bool} {K : World} {F : List au} (hcl : eP Tryz.prog fid)
    (hf : ∀ x ∈ xs, ∀ X, aG Tryz.prog fid ([Value.int .i64 x] ++ zZ).toArray K (X :: F) (.bool (p x))) :
    Does Tryz.prog 120 #[.slice A m cap, .func (.func fid) #[] zZ.toArray] K (bC (.slice A m cap) 3 1 m (ints .i64 xs) :: F)
      (fun v H' => ∃ q, q = (xs.filter fun x => !p x).length ∧ v = .slice A q cap ∧ H' = bC (.slice A q cap) 3 1 q (ints .i64 (xs.filter fun x => !p x)) :: F) := by
  refine Does.have_ (p := xs.length = m) (fun w hw => by have := bC.len hw; rwa [bK, Nat.mul_one] at this) (fun hl => ?_)
  cases A with
  | none =>
    refine Does.have_ (p := m = 0 ∧ cap = 0 ∧ xs = []) (fun w hw => by have := bC.vQ hw; simpa [ints] using this) (fun ⟨e1, e2, e3⟩ => ?_)
    subst e1 e2 e3
    refine Does.enter Tryz.func120 rfl Tryz.ntmps120 rfl ?_
    simp only [aJ, Nat.reduceAdd]
    refine WC.sr (WL.sg rfl rfl (WL.nil (WC.sr (WL.mv rfl rfl (WL.mv rfl rfl ?_)))))
    refine WL.call (vs := [_, _]) Tryz.call188 ⟨OV.p rfl, OV.p rfl, trivial⟩ (indexFunc (xs := []) (p := p) Seq.Np (Nat.zero_le _) hcl (fun x hx => by simp at hx)) rfl ?_
    rintro _ _ ⟨rfl, ⟨rfl, _⟩ | ⟨i, hi, _⟩⟩
    rotate_left
    · exact absurd hi (by omega)
    refine WL.sg rfl rfl (WL.nil (WC.seq (WC.sr (WL.mv rfl rfl (WL.val (V.eql (OV.p rfl) (OV.p rfl)) rfl (WL.nil ?_))))))
    refine WC.bU rfl (by first | rfl | (simp; done) | (simp; omega)) ?_
    refine WC.sr (WL.mv rfl rfl (WL.sg rfl rfl (WL.nil (WC.ret ?_))))
    exact aj.ret (H' := bC (.slice none 0 0) _ 1 0 [] :: F) (aL.tmp rfl rfl) (fun w h => h) ⟨0, rfl, rfl, rfl⟩
  | some a =>
    refine Does.have_ (p := ∃ g, a = ⟨g, 0, none⟩) (fun w hw => bC.addr hw) (fun ⟨g, e1⟩ => ?_)
    subst e1
    refine Does.ex (fun w hw => Sat.lg hw) (fun rs ⟨hr1, _, hr2, hr3⟩ => ?_)
    have hm' : m ≤ maxLen := by omega
    have hcap : cap ≤ 9223372036854775807 := by simp only [maxLen] at hr3; omega
    have hrl : rs.length = cap - m := by rw [List.length_append, bK] at hr1; omega
    have hback : ∀ (ys : List Int) (cs : List Value) (w : World), cs.length = cap → ys.length ≤ cap → cs.take ys.length = ints .i64 ys → Sat K w (Cells g 3 cs :: F) → Sat K w (bC (.slice (some ⟨g, 0, none⟩) ys.length cap) 3 1 ys.length (ints .i64 ys) :: F) := fun ys cs w h1 h2 h3 h => by
      have := Sat.Dc (s := 1) h (by rw [h1, Nat.mul_one]) h2 hr3
      rw [Nat.mul_one, h3] at this
      exact this
    have QE : Seq K (Cells g 3 (ints .i64 xs ++ rs) :: F) (some ⟨g, 0, none⟩) m 1 (ints .i64 xs) := Seq.here (by rw [bK]; omega) (List.prefix_append _ _)
    by_cases hall : ∀ x ∈ xs, p x = false
    · skip
      refine Does.enter Tryz.func120 rfl Tryz.ntmps120 rfl ?_
      simp only [aJ, Nat.reduceAdd]
      refine WC.sr (WL.sg rfl rfl (WL.nil (WC.sr (WL.mv rfl rfl (WL.mv rfl rfl ?_)))))
      refine WL.call (vs := [_, _]) Tryz.call188 ⟨OV.p rfl, OV.p rfl, trivial⟩ (indexFunc (xs := xs) (p := p) QE hm' hcl (fun x hx => hf x hx _)) rfl ?_
      rintro _ _ ⟨rfl, ⟨rfl, _⟩ | ⟨i0, hi0, rfl, hpre, hat⟩⟩
      rotate_left
      · exfalso
        have : xs.getD i0 0 = xs[i0]'(by omega) := by simp [List.getD, show i0 < xs.length by omega]
        rw [this, hall _ (List.getElem_mem _)] at hat
        cases hat
      refine WL.sg rfl rfl (WL.nil (WC.seq (WC.sr (WL.mv rfl rfl (WL.val (V.eql (OV.p rfl) (OV.p rfl)) rfl (WL.nil ?_))))))
      refine WC.bU rfl (by first | rfl | (simp; done) | (simp; omega)) ?_
      refine WC.sr (WL.mv rfl rfl (WL.sg rfl rfl (WL.nil (WC.ret ?_))))
      refine aj.ret (H' := bC (.slice (some ⟨g, 0, none⟩) xs.length cap) _ 1 xs.length (ints .i64 xs) :: F) (aL.tmp rfl rfl) (fun w h => hback xs _ w (by omega) (by omega) (by rw [List.take_left' (bK _ _)]) h) ⟨xs.length, by rw [filter_all hall], by rw [hl], by rw [filter_all hall]⟩
    · skip
      refine Does.enter Tryz.func120 rfl Tryz.ntmps120 rfl ?_
      simp only [aJ, Nat.reduceAdd]
      refine WC.sr (WL.sg rfl rfl (WL.nil (WC.sr (WL.mv rfl rfl (WL.mv rfl rfl ?_)))))
      refine WL.call (vs := [_, _]) Tryz.call188 ⟨OV.p rfl, OV.p rfl, trivial⟩ (indexFunc (xs := xs) (p := p) QE hm' hcl (fun x hx => hf x hx _)) rfl ?_
      rintro _ _ ⟨rfl, ⟨rfl, hno⟩ | ⟨i0, hi0, rfl, hpre, hat⟩⟩
      · exact absurd hno hall
      have OX : i0 < xs.length := by omega
      refine WL.sg rfl rfl (WL.nil (WC.seq (WC.sr (WL.mv rfl rfl (WL.val (V.eql (OV.p rfl) (OV.p rfl)) rfl (WL.nil ?_))))))
      refine WC.aM rfl ((by simp)) ?_
      refine WC.skip (WC.seq (WC.sr (WL.mv rfl rfl (WL.ad rfl rfl rfl ?_))))
      refine WL.sg rfl rfl (WL.nil (WC.block ?_))
      refine WC.loop (σ := Nat × Nat × List Value) (fun x => [(0, .slice (some ⟨g, 0, none⟩) m cap), (1, .func (.func fid) #[] zZ.toArray), (5, .int .i64 (x.1 : Int)), (6, .int .i64 (x.2.1 : Int))]) (fun x => Cells g 3 x.2.2 :: F) (fun x => x.1 < x.2.1 ∧ x.2.1 ≤ m ∧ x.2.2.length = cap ∧ x.1 = ((xs.take x.2.1).filter fun y => !p y).length ∧ x.2.2.take x.1 = ints .i64 ((xs.take x.2.1).filter fun y => !p y) ∧ x.2.2.drop x.2.1 = (ints .i64 xs ++ rs).drop x.2.1) (fun x => m - x.2.1) (i0, i0 + 1, ints .i64 xs ++ rs) ?_ (.cons rfl (.cons rfl (.cons rfl (.cons (look_eq rfl (by simp)) (.nil _))))) (fun w h => h) ?_
      · have e1 : (xs.take (i0 + 1)).filter (fun y => !p y) = xs.take i0 := by
          rw [List.take_add_one, List.getElem?_eq_getElem OX, List.filter_append, filter_all hpre]
          have : p xs[i0] = true := by simpa [List.getD, OX] using hat
          simp [this]
        refine ⟨by show i0 < i0 + 1; omega, by show i0 + 1 ≤ m; omega, by rw [hr1]; omega, ?_, ?_, rfl⟩
        · show i0 = ((xs.take (i0 + 1)).filter fun y => !p y).length
          rw [e1, List.length_take]; omega
        · show (ints .i64 xs ++ rs).take i0 = ints .i64 ((xs.take (i0 + 1)).filter fun y => !p y)
          rw [e1, List.take_append_of_le_length (by rw [bK]; omega), Br]
      rintro ⟨i, j, cs⟩ ⟨hij, hjm, hcl', hi, htk, hdr⟩
      dsimp only at hij hjm hcl' hi htk hdr ⊢
      refine WC.seq (WC.sr (WL.mv rfl rfl (WL.mv rfl rfl (WL.val (V.len (t := 124) Tryz.runUnderlying124 (OV.p rfl)) rfl (WL.val (V.lss (OV.p rfl) (OV.p rfl)) rfl (WL.nil ?_))))))
      refine WC.cond rfl (fun hc1 => ?_) (fun hc1 => ?_)
      ·simp only [decide_eq_true_eq, decide_eq_false_iff_not] at hc1
       refine WC.skip (WC.seq (WC.block (WC.seq ?_)))
       have Rz : j < m := by omega
       have hgj : cs[0 + (j : Int).toNat * 1]? = some (.int .i64 (xs.getD j 0)) := by
         have e1 := congrArg (·[0]?) hdr
         simp only [List.getElem?_drop, Nat.add_zero] at e1
         rw [show 0 + (j : Int).toNat * 1 = j by omega, e1, List.getElem?_append_left (by rw [bK]; omega), mD _ _ (by omega)]
       have hgx : xs.getD j 0 = xs[j]'(by omega) := by simp [List.getD, show j < xs.length by omega]
       have htj : xs.take (j + 1) = xs.take j ++ [xs.getD j 0] := by rw [List.take_add_one, List.getElem?_eq_getElem (by omega), hgx]; rfl
       refine WC.region (WL.mv rfl rfl (WL.mv rfl rfl ?_))
       refine WL.val (V.bP bO (OV.p rfl) (OV.p rfl) (fun hc => by omega)) rfl ?_
       refine WL.val (V.load Tryz.isAgg3 (OV.p rfl) (fun _ => Rd.here hgj)) rfl ?_
       refine WL.sg rfl rfl (WL.nil (WC.sr (WL.mv rfl rfl (WL.mv rfl rfl ?_))))
       refine WL.kV (first := []) (vs := [_]) (captured := zZ) hcl (OV.p rfl) ⟨OV.p rfl, trivial⟩ (hf (xs.getD j 0) (by rw [hgx]; exact List.getElem_mem _) _) rfl ?_
       rintro _ H0 ⟨rfl, h0⟩
       subst H0
       refine WL.val (V.not (OV.p rfl)) rfl (WL.nil ?_)
       refine WC.cond rfl (fun hc2 => ?_) (fun hc2 => ?_)
       ·simp only [Bool.not_eq_true', Bool.not_eq_false'] at hc2
        have h2 := hc2
        have hst : [xs.getD j 0].filter (fun y => !p y) = [xs.getD j 0] := by rw [List.filter_cons_of_pos (by rw [h2]; rfl)]; rfl
        refine WC.sr (WL.mv rfl rfl (WL.mv rfl rfl (WL.mv rfl rfl ?_)))
        refine WL.val (V.bP bO (OV.p rfl) (OV.p rfl) (fun hc => by omega)) rfl ?_
        refine WL.store (cs := [_]) Tryz.sizeOf3 (OV.p rfl) (OV.p rfl) rfl rfl rfl (aQ.at_ (by omega)) ?_
        refine WL.nil (WC.region (WL.mv rfl rfl (WL.ad rfl rfl rfl ?_)))
        refine WL.sg rfl rfl (WL.nil (WC.region (WL.mv rfl rfl (WL.ad rfl rfl rfl ?_))))
        refine WL.sg rfl rfl (WL.nil ?_)
        refine ⟨rfl, ?_⟩
        first
        | (refine ⟨(i, j + 1, cs), ⟨by show i < j + 1; omega, by show j + 1 ≤ m; omega, hcl', ?_, ?_, ?_⟩, (by show m - (j + 1) < m - j; omega), .cons rfl (.cons rfl (.cons rfl (.cons (look_eq rfl (by simp)) (.nil _)))), fun w h => h⟩
           · show i = ((xs.take (j + 1)).filter fun y => !p y).length
             rw [htj, List.filter_append, hse, List.length_append, ← hi]; rfl
           · show cs.take i = ints .i64 ((xs.take (j + 1)).filter fun y => !p y)
             rw [htj, List.filter_append, hse, List.append_nil, htk]
           · have := congrArg (List.drop 1) hdr
             rwa [List.drop_drop, List.drop_drop] at this)
        | (have yE := hst
           refine ⟨(i + 1, j + 1, cs.set (0 + (i : Int).toNat * 1) (.int .i64 (xs.getD j 0))), ⟨by show i + 1 < j + 1; omega, by show j + 1 ≤ m; omega, by rw [List.length_set]; exact hcl', ?_, ?_, ?_⟩, (by show m - (j + 1) < m - j; omega), .cons rfl (.cons rfl (.cons (look_eq rfl (by simp)) (.cons (look_eq rfl (by simp)) (.nil _)))), fun w h => h⟩
           · show i + 1 = ((xs.take (j + 1)).filter fun y => !p y).length
             rw [htj, List.filter_append, yE, List.length_append, ← hi]; rfl
           · show (cs.set (0 + (i : Int).toNat * 1) (.int .i64 (xs.getD j 0))).take (i + 1) = ints .i64 ((xs.take (j + 1)).filter fun y => !p y)
             rw [htj, List.filter_append, yE, bY, ← htk, show 0 + (i : Int).toNat * 1 = i by omega, List.take_add_one, List.getElem?_set_self (by omega), List.take_set_of_le (by omega)]
             rfl
           · show (cs.set (0 + (i : Int).toNat * 1) (.int .i64 (xs.getD j 0))).drop (j + 1) = (ints .i64 xs ++ rs).drop (j + 1)
             rw [show 0 + (i : Int).toNat * 1 = i by omega, List.drop_set_of_lt (by omega)]
             have := congrArg (List.drop 1) hdr
             rwa [List.drop_drop, List.drop_drop] at this)
       ·simp only [Bool.not_eq_true', Bool.not_eq_false'] at hc2
        have h2 := hc2
        have hse : [xs.getD j 0].filter (fun y => !p y) = [] := by rw [List.filter_cons_of_neg (by rw [h2]; decide)]; rfl
        refine WC.skip (WC.region (WL.mv rfl rfl (WL.ad rfl rfl rfl ?_)))
        refine WL.sg rfl rfl (WL.nil ?_)
        refine ⟨rfl, ?_⟩
        first
        | (refine ⟨(i, j + 1, cs), ⟨by show i < j + 1; omega, by show j + 1 ≤ m; omega, hcl', ?_, ?_, ?_⟩, (by show m - (j + 1) < m - j; omega), .cons rfl (.cons rfl (.cons rfl (.cons (look_eq rfl (by simp)) (.nil _)))), fun w h => h⟩
           · show i = ((xs.take (j + 1)).filter fun y => !p y).length
             rw [htj, List.filter_append, hse, List.length_append, ← hi]; rfl
           · show cs.take i = ints .i64 ((xs.take (j + 1)).filter fun y => !p y)
             rw [htj, List.filter_append, hse, List.append_nil, htk]
           · have := congrArg (List.drop 1) hdr
             rwa [List.drop_drop, List.drop_drop] at this)
        | (have yE := hst
           refine ⟨(i + 1, j + 1, cs.set (0 + (i : Int).toNat * 1) (.int .i64 (xs.getD j 0))), ⟨by show i + 1 < j + 1; omega, by show j + 1 ≤ m; omega, by rw [List.length_set]; exact hcl', ?_, ?_, ?_⟩, (by show m - (j + 1) < m - j; omega), .cons rfl (.cons rfl (.cons (look_eq rfl (by simp)) (.cons (look_eq rfl (by simp)) (.nil _)))), fun w h => h⟩
           · show i + 1 = ((xs.take (j + 1)).filter fun y => !p y).length
             rw [htj, List.filter_append, yE, List.length_append, ← hi]; rfl
           · show (cs.set (0 + (i : Int).toNat * 1) (.int .i64 (xs.getD j 0))).take (i + 1) = ints .i64 ((xs.take (j + 1)).filter fun y => !p y)
             rw [htj, List.filter_append, yE, bY, ← htk, show 0 + (i : Int).toNat * 1 = i by omega, List.take_add_one, List.getElem?_set_self (by omega), List.take_set_of_le (by omega)]
             rfl
           · show (cs.set (0 + (i : Int).toNat * 1) (.int .i64 (xs.getD j 0))).drop (j + 1) = (ints .i64 xs ++ rs).drop (j + 1)
             rw [show 0 + (i : Int).toNat * 1 = i by omega, List.drop_set_of_lt (by omega)]
             have := congrArg (List.drop 1) hdr
             rwa [List.drop_drop, List.drop_drop] at this)
      ·simp only [decide_eq_true_eq, decide_eq_false_iff_not] at hc1
       refine WC.exit (WC.sr (WL.mv rfl rfl (WL.mv rfl rfl ?_)))
       have RL : j = m := by omega
       subst RL
       refine WL.val (V.slice (l := i) (h := j) (u := cap) bO (OV.p rfl) (OO.some (OV.p rfl) (fun _ => rfl)) OO.none OO.none (by simp) (by omega) (by omega) (Nat.le_refl _)) rfl ?_
       refine WL.NR (b := g) (o := i) Tryz.underlying124 Tryz.zeroValue3 rfl rfl (OV.p rfl) (fun hq => by rw [if_neg (by omega)]; simp [gZ]) (aQ.row (by rw [List.length_replicate]; omega)) ?_
       refine WL.nil (WC.sr (WL.mv rfl rfl (WL.mv rfl rfl ?_)))
       refine WL.val (V.slice (l := 0) (h := i) (u := cap) bO (OV.p rfl) OO.none (OO.some (OV.p rfl) (fun _ => rfl)) OO.none (by simp) (by omega) (by omega) (Nat.le_refl _)) rfl ?_
       refine WL.sg rfl rfl (WL.nil (WC.ret ?_))
       rw [List.take_of_length_le (Nat.le_of_eq hl)] at hi htk
       refine aj.ret (H' := bC (.slice (some ⟨g, 0, none⟩) i cap) _ 1 i (ints .i64 (xs.filter fun y => !p y)) :: F) (aL.tmp rfl (look_eq rfl (by simp [Addr.add]))) (fun w h => ?_) ⟨i, hi, rfl, rfl⟩
       have hlen : (cs.take i ++ List.replicate (j - i) (Value.int .i64 0) ++ cs.drop (i + (List.replicate (j - i) (Value.int .i64 0)).length)).length = cap := by
         simp only [List.length_append, List.length_take, List.length_replicate, List.length_drop]; omega
       have := hback (xs.filter fun y => !p y) _ w hlen (by omega) (by rw [← hi, List.append_assoc, List.take_left' (by rw [List.length_take]; omega), htk]) h
       rw [← hi] at this
       exact this
structure BM where
  c : List Nat
  b : List Nat
  (length shift last : Nat)
def o7 (s c : List Nat) (n : Nat) : Nat → Nat
  | 0 => s.getD n 0
  | k + 1 => o7 s c n k ^^^ aK (c.getD (k + 1) 0) (s.getD (n - (k + 1)) 0)
def jG (c b : List Nat) (zP shift : Nat) : Nat → List Nat
  | 0 => c
  | k + 1 => (jG c b zP shift k).set (k + shift) ((jG c b zP shift k).getD (k + shift) 0 ^^^ aK zP (b.getD k 0))
def zO (s : List Nat) (n : Nat) (x : BM) : Nat := o7 s x.c n (min x.length (x.c.length - 1))
def jK (x : BM) : List Nat := x.c ++ List.replicate (x.b.length + x.shift - x.c.length) 0
def CW (x : BM) (d : Nat) : List Nat := jG (jK x) x.b (aK d (BI x.last)) x.shift x.b.length
def oM (s : List Nat) (n : Nat) (x : BM) : BM :=
  if zO s n x = 0 then { x with shift := x.shift + 1 }
  else if 2 * x.length ≤ n then ⟨CW x (zO s n x), x.c, n + 1 - x.length, 1, zO s n x⟩
  else ⟨CW x (zO s n x), x.b, x.length, x.shift + 1, x.last⟩
def gy (s : List Nat) : Nat → BM
  | 0 => ⟨[1], [1], 0, 1, 1⟩
  | n + 1 => oM s n (gy s n)
structure BM.Ok (n : Nat) (x : BM) : Prop where
  c1 : 1 ≤ x.c.length
  c2 : x.c.length ≤ n + 1
  b2 : x.b.length + x.shift ≤ n + 2
  l : x.length ≤ n
  cs : Small 8192 x.c
  bs : Small 8192 x.b
  la : x.last < 8192
  l0 : x.last ≠ 0
theorem oh {s c : List Nat} {n : Nat} (hs : Small 8192 s) (hc : Small 8192 c) : ∀ k, o7 s c n k < 8192
  | 0 => hs.at_ (by decide) _
  | k + 1 => cB (k := 13) (oh hs hc k) (aP (hc.at_ (by decide) _))
theorem jX (c b : List Nat) (y sh : Nat) : ∀ k, (jG c b y sh k).length = c.length
  | 0 => rfl
  | k + 1 => by rw [jG, List.length_set, jX]
theorem lS {c b : List Nat} {y sh : Nat} (hc : Small 8192 c) (hy : y < 8192) : ∀ k, Small 8192 (jG c b y sh k)
  | 0 => hc
  | k + 1 => (lS hc hy k).set (cB (k := 13) ((lS hc hy k).at_ (by decide) _) (aP hy))
theorem nI (x : BM) : (jK x).length = x.c.length + (x.b.length + x.shift - x.c.length) := by simp [jK]
theorem yV (x : BM) (d : Nat) : (CW x d).length = (jK x).length := jX _ _ _ _ _
theorem Am {s : List Nat} {n : Nat} {x : BM} (hs : Small 8192 s) (h : x.Ok n) : (oM s n x).Ok (n + 1) := by
  have hd : zO s n x < 8192 := oh hs h.cs _
  have h1 := h.c1
  have h2 := h.c2
  have h3 := h.b2
  have h4 := h.l
  have hel := nI x
  have hcl := yV x (zO s n x)
  have hsm : Small 8192 (CW x (zO s n x)) := lS (h.cs.append (Small.uQ (by decide))) (aP hd) _
  unfold oM
  split
  · exact ⟨h.c1, by show x.c.length ≤ n + 1 + 1; omega, by show x.b.length + (x.shift + 1) ≤ n + 1 + 2; omega, by show x.length ≤ n + 1; omega, h.cs, h.bs, h.la, h.l0⟩
  · rename_i h0
    split
    · exact ⟨by show 1 ≤ (CW x _).length; omega, by show (CW x _).length ≤ n + 1 + 1; omega, by show x.c.length + 1 ≤ n + 1 + 2; omega, by show n + 1 - x.length ≤ n + 1; omega, hsm, h.cs, hd, h0⟩
    · exact ⟨by show 1 ≤ (CW x _).length; omega, by show (CW x _).length ≤ n + 1 + 1; omega, by show x.b.length + (x.shift + 1) ≤ n + 1 + 2; omega, by show x.length ≤ n + 1; omega, hsm, h.bs, h.la, h.l0⟩
theorem tF {s : List Nat} (hs : Small 8192 s) : ∀ n, (gy s n).Ok n
  | 0 => ⟨Nat.le_refl 1, Nat.le_refl 1, Nat.le_refl 2, Nat.le_refl 0, fun y hy => by rw [List.mem_singleton.1 hy]; decide, fun y hy => by rw [List.mem_singleton.1 hy]; decide, (by decide : 1 < 8192), (by decide : 1 ≠ 0)⟩
  | n + 1 => Am hs (tF hs n)
def kR (s : List Nat) : List Nat := (gy s s.length).c
def mh (s : List Nat) : Nat := aC (kR s) (kR s).length
section
variable {K : World} {F : List au}
theorem wC {A : Option Addr} {m cap : Nat} {xs : List Nat} (hs : Seq K F A m 1 (aB .i64 xs)) (hm : m ≤ 1000000) :
    Does Tryz.prog 103 #[.slice A m cap] K F (fun v H' => ∃ A' cap', v = .slice A' m cap' ∧ H' = bC (.slice A' m cap') 3 1 m (aB .i64 xs) :: F) := by
  rw [uZ] at hs ⊢
  exact FD hs hm
structure Rn where
  n : Nat
  (gc gb cc cb : Nat)
  rc : List Value
  rb : List Value
theorem Dg {A : Option Addr} {m cap : Nat} {s : List Nat} (hs : Seq K F A m 1 (aB .i64 s)) (Ni : Small 8192 s) (hm : m ≤ 64) :
    Does Tryz.prog 284 #[.slice A m cap] K F
      (fun v H' => ∃ g cap' r, v = .slice (some ⟨g, 0, none⟩) (mh s) cap' ∧ H' = Cells g 3 (aB .i64 (kR s) ++ r) :: F) := by
  have hl : s.length = m := by simpa [aB] using hs.len
  refine Does.enter Tryz.func284 rfl Tryz.ntmps284 rfl ?_
  simp only [aJ, Nat.reduceAdd]
  refine WC.sr (WL.sg rfl rfl (WL.nil (WC.sr ?_)))
  refine WL.buildSlice (E := 3) (cs := [_]) (vs := [(0, _)]) ⟨OV.p rfl, trivial⟩ rfl (cZ _) rfl (fun b17 => ?_)
  refine WL.buildSlice (E := 3) (cs := [_]) (vs := [(0, _)]) ⟨OV.p rfl, trivial⟩ rfl (cZ _) rfl (fun b18 => ?_)
  refine WL.sg rfl rfl (WL.sg rfl rfl (WL.nil (WC.sr (WL.sg rfl rfl (WL.sg rfl rfl (WL.sg rfl rfl (WL.nil (WC.seq (WC.sr (WL.mv rfl rfl (WL.val (V.len (t := 124) Tryz.runUnderlying124 (OV.p rfl)) rfl (WL.mv rfl rfl (WL.nil (WC.block ?_))))))))))))))
  refine WC.loop (σ := Rn) (fun x => [(0, .slice A m cap), (3, .slice (some ⟨x.gc, 0, none⟩) (gy s x.n).c.length x.cc), (4, .slice (some ⟨x.gb, 0, none⟩) (gy s x.n).b.length x.cb), (5, .int .i64 ((gy s x.n).length : Nat)), (6, .int .i64 ((gy s x.n).shift : Nat)), (7, .int .i64 ((gy s x.n).last : Nat)), (20, .int .i64 (m : Int)), (21, .int .i64 (x.n : Int))]) (fun x => Cells x.gc 3 (aB .i64 (gy s x.n).c ++ x.rc) :: Cells x.gb 3 (aB .i64 (gy s x.n).b ++ x.rb) :: F) (fun x => x.n ≤ m ∧ (gy s x.n).c.length ≤ x.cc ∧ (gy s x.n).b.length ≤ x.cb) (fun x => m - x.n) ⟨0, b17, b18, 1, 1, [], []⟩ ⟨Nat.zero_le _, Nat.le_refl _, Nat.le_refl _⟩ (.cons rfl (.cons rfl (.cons rfl (.cons rfl (.cons rfl (.cons rfl (.cons rfl (.cons rfl (.nil _))))))))) (fun w h => h.sel 2 [1, 0] rfl) ?_
  rintro ⟨n, gc, gb, cc, cb, rc, rb⟩ ⟨hn, hcc, hcb⟩
  dsimp only at hn hcc hcb ⊢
  obtain ⟨x, hx⟩ : ∃ x, x = gy s n := ⟨_, rfl⟩
  have hxo : x.Ok n := by rw [hx]; exact tF Ni n
  have hxs : gy s (n + 1) = oM s n x := by rw [gy, ← hx]
  rw [← hx] at hcc hcb ⊢
  obtain ⟨SB, SL, SH, xl, Pt, Q8, Qs, Sj⟩ := hxo
  refine WC.sr (WL.val (V.lss (OV.p rfl) (OV.p rfl)) rfl (WL.nil (WC.seq ?_)))
  refine WC.cond rfl (fun hc0 => ?_) (fun hc0 => ?_)
  ·simp only [decide_eq_true_eq, decide_eq_false_iff_not] at hc0
   refine WC.skip (WC.seq (WC.block (WC.sr (WL.mv rfl rfl (WL.sg rfl rfl (WL.nil (WC.seq ?_)))))))
   have hnm : n < m := by omega
   have hsu : ∀ {X Y : au}, Seq K (X :: Y :: F) A m 1 (aB .i64 s) := fun {X Y} => hs.up.up
   have hsn : ∀ {X Y : au}, Rd K (X :: Y :: F) (A.map (·.add ((n : Int).toNat * 1))) (.int .i64 (s.getD n 0 : Nat)) := fun {X Y} => by
     rw [show (n : Int).toNat = n by omega]; exact hsu.gK (by omega)
   refine WC.region (WL.mv rfl rfl (WL.mv rfl rfl ?_))
   refine WL.val (V.fu bO (OV.p rfl) (OV.p rfl) (fun hc => by omega) (fun hc => hsn)) rfl ?_
   refine WL.val (V.load Tryz.isAgg3 (OV.p rfl) (fun hc => hsn)) rfl ?_
   refine WL.sg rfl rfl (WL.nil (WC.seq (WC.sr (WL.sg rfl rfl (WL.nil (WC.block ?_))))))
   refine WC.loop (σ := Nat) (fun k => [(0, .slice A m cap), (3, .slice (some ⟨gc, 0, none⟩) x.c.length cc), (4, .slice (some ⟨gb, 0, none⟩) x.b.length cb), (5, .int .i64 (x.length : Nat)), (6, .int .i64 (x.shift : Nat)), (7, .int .i64 (x.last : Nat)), (20, .int .i64 (m : Int)), (21, .int .i64 (n : Int)), (8, .int .i64 (n : Int)), (9, .int .i64 (o7 s x.c n k : Nat)), (10, .int .i64 ((k : Int) + 1))]) (fun k => Cells gc 3 (aB .i64 x.c ++ rc) :: Cells gb 3 (aB .i64 x.b ++ rb) :: F) (fun k => k ≤ min x.length (x.c.length - 1)) (fun k => min x.length (x.c.length - 1) - k) 0 (Nat.zero_le _) (.cons rfl (.cons rfl (.cons rfl (.cons rfl (.cons rfl (.cons rfl (.cons rfl (.cons rfl (.cons rfl (.cons rfl (.cons rfl (.nil _)))))))))))) (fun w h => h) ?_
   rintro k hk
   refine WC.seq (WC.sr (WL.mv rfl rfl (WL.mv rfl rfl (WL.val (V.leq (OV.p rfl) (OV.p rfl)) rfl (WL.mv rfl rfl (WL.ah (oj := _) rfl rfl rfl GC.t (V.move (OV.p rfl)) rfl (WL.ah (oj := _) rfl rfl rfl GC.t (V.move (OV.p rfl)) rfl (WL.ah (oj := _) rfl rfl rfl GC.t (V.len (t := 124) Tryz.runUnderlying124 (OV.g rfl id)) rfl (WL.ah (oj := _) rfl rfl rfl GC.t (V.lss (OV.g rfl id) (OV.g rfl id)) rfl (WL.val (V.aD (OV.p rfl) (OV.g rfl id)) rfl (WL.nil ?_)))))))))))
   refine WC.cond rfl (fun hc1 => ?_) (fun hc1 => ?_)
   ·simp only [Bool.and_eq_true, Bool.and_eq_false_iff, decide_eq_true_eq, decide_eq_false_iff_not] at hc1
    have h0 := hc1
    refine WC.skip (WC.seq (WC.block ?_))
    have hkl : k + 1 ≤ x.length ∧ k + 1 < x.c.length := by omega
    have hgc : (aB .i64 x.c ++ rc)[0 + ((k : Int) + 1).toNat * 1]? = some (.int .i64 (x.c.getD (k + 1) 0 : Nat)) := by rw [show 0 + ((k : Int) + 1).toNat * 1 = k + 1 by omega]; exact iL _ _ _ (by omega)
    have Ot : ∀ {X Y : au}, Rd K (X :: Y :: F) (A.map (·.add (((n : Int) - ((k : Int) + 1)).toNat * 1))) (.int .i64 (s.getD (n - (k + 1)) 0 : Nat)) := fun {X Y} => by
      rw [show ((n : Int) - ((k : Int) + 1)).toNat = n - (k + 1) by omega]; exact hsu.gK (by omega)
    have hcl := Pt.at_ (by decide) (k + 1)
    have hsl := Ni.at_ (by decide) (n - (k + 1))
    refine WC.fK (by kernel_rfl) (by kernel_rfl) ?_
    refine WQ.val (V.move (OV.p rfl)) rfl (WQ.val (V.move (OV.p rfl)) rfl (WQ.val (V.move (OV.p rfl)) rfl ?_))
    refine WQ.val (V.bP bO (OV.p rfl) (OV.p rfl) (fun hc => by omega)) rfl ?_
    refine WQ.val (V.load Tryz.isAgg3 (OV.p rfl) (fun hc => Rd.here hgc)) rfl ?_
    refine WQ.val (V.move (OV.p rfl)) rfl (WQ.val (V.move (OV.p rfl)) rfl (WQ.val (V.move (OV.p rfl)) rfl ?_))
    refine WQ.val (V.wM (OV.p rfl) (OV.p rfl) (fun hc => by first | omega | (simp at hc; omega))) rfl ?_
    refine WQ.val (V.fu bO (OV.p rfl) (OV.p rfl) (fun hc => by omega) (fun hc => Ot)) rfl ?_
    refine WQ.val (V.load Tryz.isAgg3 (OV.p rfl) (fun hc => Ot)) rfl ?_
    refine WQ.call (vs := [_, _]) Tryz.call288 ⟨OV.p rfl, OV.p rfl, trivial⟩ (pX hcl hsl) rfl ?_
    refine WQ.val (V.aA (v' := .int .i64 (o7 s x.c n (k + 1) : Nat)) (V.xor (OV.p rfl) (OV.p rfl)) (fun _ => by rw [iY (by have := oh Ni Pt (n := n) k; omega) (by have := aP (b := s.getD (n - (k + 1)) 0) hcl; omega), o7])) rfl ?_
    refine WQ.val (V.assign (OV.p rfl)) rfl (WQ.nil (WC.region (WL.mv rfl rfl (WL.ad rfl rfl rfl ?_))))
    refine WL.sg rfl rfl (WL.nil ?_)
    refine ⟨rfl, ?_⟩
    exact ⟨k + 1, (by show k + 1 ≤ min x.length (x.c.length - 1); omega), (by show min x.length (x.c.length - 1) - (k + 1) < min x.length (x.c.length - 1) - k; omega), .cons rfl (.cons rfl (.cons rfl (.cons rfl (.cons rfl (.cons rfl (.cons rfl (.cons rfl (.cons rfl (.cons rfl (.cons (look_eq rfl (by simp)) (.nil _))))))))))), fun w h => h⟩
   ·simp only [Bool.and_eq_true, Bool.and_eq_false_iff, decide_eq_true_eq, decide_eq_false_iff_not] at hc1
    have h0 := hc1
    refine WC.exit (WC.seq (WC.seq ?_))
    have hke : k = min x.length (x.c.length - 1) := by
      rcases h0 with h | h <;> omega
    have hD : o7 s x.c n k = zO s n x := by rw [hke]; rfl
    obtain ⟨d, hd⟩ : ∃ d, d = zO s n x := ⟨_, rfl⟩
    rw [hD, ← hd]
    have Gr : d < 8192 := by rw [hd]; exact oh Ni Pt _
    unfold oM at hxs
    rw [← hd] at hxs
    refine WC.region (WL.mv rfl rfl (WL.val (V.eql (OV.p rfl) (OV.p rfl)) rfl (WL.nil ?_)))
    refine WC.cond rfl (fun hc2 => ?_) (fun hc2 => ?_)
    ·simp only [decide_eq_true_eq, decide_eq_false_iff_not] at hc2
     have h2 := hc2
     rw [if_pos (by omega)] at hxs
     refine WC.sr (WL.mv rfl rfl (WL.ad rfl rfl rfl ?_))
     refine WL.sg rfl rfl (WL.nil (WC.exit (WC.region (WL.ad rfl rfl rfl ?_))))
     refine WL.mv rfl rfl (WL.nil ?_)
     refine ⟨rfl, ?_⟩
     first
     | exact ⟨⟨n + 1, gc, gb, cc, cb, rc, rb⟩, ⟨by show n + 1 ≤ m; omega, by show (gy s (n + 1)).c.length ≤ cc; rw [hxs]; exact hcc, by show (gy s (n + 1)).b.length ≤ cb; rw [hxs]; exact hcb⟩, (by show m - (n + 1) < m - n; omega), .cons rfl (.cons (look_eq rfl (by rw [hxs])) (.cons (look_eq rfl (by rw [hxs])) (.cons (look_eq rfl (by rw [hxs])) (.cons (look_eq rfl (by rw [hxs]; simp)) (.cons (look_eq rfl (by rw [hxs])) (.cons rfl (.cons (look_eq rfl (by simp)) (.nil _)))))))), fun w h => by dsimp only; rw [hxs]; exact h⟩
     | exact ⟨⟨n + 1, g3, go, c3, c1, r3, ro⟩, ⟨by show n + 1 ≤ m; omega, by show (gy s (n + 1)).c.length ≤ c3; rw [hxs]; exact Fp, by show (gy s (n + 1)).b.length ≤ c1; rw [hxs]; exact hco⟩, (by show m - (n + 1) < m - n; omega), .cons rfl (.cons (look_eq rfl (by rw [hxs])) (.cons (look_eq rfl (by rw [hxs])) (.cons (look_eq rfl (by rw [hxs]; simp; omega)) (.cons (look_eq rfl (by rw [hxs]; rfl)) (.cons (look_eq rfl (by rw [hxs])) (.cons rfl (.cons (look_eq rfl (by simp)) (.nil _)))))))), fun w h => by dsimp only; rw [hxs]; exact h.sel 3 [0, 1] rfl⟩
     | exact ⟨⟨n + 1, g3, gb, c3, cb, r3, rb⟩, ⟨by show n + 1 ≤ m; omega, by show (gy s (n + 1)).c.length ≤ c3; rw [hxs]; exact Fp, by show (gy s (n + 1)).b.length ≤ cb; rw [hxs]; exact hcb⟩, (by show m - (n + 1) < m - n; omega), .cons rfl (.cons (look_eq rfl (by rw [hxs])) (.cons (look_eq rfl (by rw [hxs])) (.cons (look_eq rfl (by rw [hxs])) (.cons (look_eq rfl (by rw [hxs]; simp)) (.cons (look_eq rfl (by rw [hxs])) (.cons rfl (.cons (look_eq rfl (by simp)) (.nil _)))))))), fun w h => by dsimp only; rw [hxs]; exact h.sel 3 [0, 2] rfl⟩
    ·simp only [decide_eq_true_eq, decide_eq_false_iff_not] at hc2
     have h2 := hc2
     have hd0 : d ≠ 0 := by omega
     rw [if_neg hd0] at hxs
     refine WC.skip (WC.sr (WL.mv rfl rfl (WL.call (vs := [_]) Tryz.call324 ⟨OV.p rfl, trivial⟩ (Ng Qs Sj) rfl ?_)))
     rintro _ H0 ⟨rfl, h0⟩
     subst H0
     refine WL.mv rfl rfl (WL.xt rfl rfl rfl (WL.xt rfl rfl rfl (WL.sg rfl rfl (WL.sg rfl rfl (WL.nil (WC.sr (WL.mv rfl rfl (WL.mv rfl rfl (WL.call (vs := [_, _]) Tryz.call288 ⟨OV.p rfl, OV.p rfl, trivial⟩ (pX Gr (Bz Qs)) rfl ?_)))))))))
     rintro _ H0 ⟨rfl, h0⟩
     subst H0
     refine WL.sg rfl rfl (WL.nil (WC.seq ?_))
     obtain ⟨y, hy⟩ : ∃ y, y = aK d (BI x.last) := ⟨_, rfl⟩
     have OY : y < 8192 := by rw [hy]; exact aP Gr
     rw [← hy]
     refine WC.region (WL.mv rfl rfl ?_)
     refine WL.call (vs := [_]) Tryz.call103 ⟨OV.p rfl, trivial⟩ (wC (xs := x.c) (Seq.here (by rw [aH]; omega) (by rw [List.drop_zero]; exact List.prefix_append _ _)) (by omega)) rfl ?_
     rintro _ _ ⟨A1, c1, rfl, rfl⟩
     refine WL.ex (tZ (by omega)) (fun ⟨go, ro⟩ ⟨e1, hr1, hc1⟩ => ?_)
     dsimp only at e1 hr1 ⊢
     subst e1
     have hco : x.c.length ≤ c1 := by rw [← hr1, List.length_append, aH]; omega
     refine WL.sg rfl rfl (WL.nil (WC.seq (WC.block ?_)))
     refine WC.loop (σ := Nat × Nat × Nat × List Value) (fun z => [(0, .slice A m cap), (3, .slice (some ⟨z.2.1, 0, none⟩) (x.c.length + z.1) z.2.2.1), (4, .slice (some ⟨gb, 0, none⟩) x.b.length cb), (5, .int .i64 (x.length : Nat)), (6, .int .i64 (x.shift : Nat)), (7, .int .i64 (x.last : Nat)), (20, .int .i64 (m : Int)), (21, .int .i64 (n : Int)), (8, .int .i64 (n : Int)), (9, .int .i64 (d : Nat)), (13, .int .i64 (y : Nat)), (14, .slice (some ⟨go, 0, none⟩) x.c.length c1)]) (fun z => Cells z.2.1 3 (aB .i64 (x.c ++ List.replicate z.1 0) ++ z.2.2.2) :: Cells go 3 (aB .i64 x.c ++ ro) :: Cells gb 3 (aB .i64 x.b ++ rb) :: F) (fun z => z.1 ≤ x.b.length + x.shift - x.c.length ∧ x.c.length + z.1 ≤ z.2.2.1) (fun z => x.b.length + x.shift - z.1) (0, gc, cc, rc) ⟨Nat.zero_le _, hcc⟩ (.cons rfl (.cons rfl (.cons rfl (.cons rfl (.cons rfl (.cons rfl (.cons rfl (.cons rfl (.cons rfl (.cons rfl (.cons rfl (.cons rfl (.nil _))))))))))))) (fun w h => Sat.aV (h.sel 3 [1, 0, 2] rfl) (by simp)) ?_
     rintro ⟨z, g, cz, rz⟩ ⟨hz, hzc⟩
     dsimp only at hz hzc ⊢
     refine WC.seq (WC.sr (WL.mv rfl rfl (WL.val (V.len (t := 124) Tryz.runUnderlying124 (OV.p rfl)) rfl (WL.mv rfl rfl (WL.val (V.len (t := 124) Tryz.runUnderlying124 (OV.p rfl)) rfl (WL.mv rfl rfl (WL.ad rfl rfl rfl ?_)))))))
     refine WL.val (V.lss (OV.p rfl) (OV.p rfl)) rfl (WL.nil ?_)
     refine WC.cond rfl (fun hc3 => ?_) (fun hc3 => ?_)
     ·simp only [decide_eq_true_eq, decide_eq_false_iff_not] at hc3
      refine WC.skip (WC.block (WC.region (WL.mv rfl rfl (WL.mv rfl rfl (WL.val (V.len (t := 124) Tryz.runUnderlying124 (OV.p rfl)) rfl (WL.mv rfl rfl (WL.val (V.len (t := 124) Tryz.runUnderlying124 (OV.p rfl)) rfl ?_)))))))
      refine WL.val (V.aA (v' := .slice (some ⟨g, 0, none⟩) (x.c.length + z) (x.c.length + z)) (V.slice (l := 0) (h := x.c.length + z) (u := x.c.length + z) bO (OV.p rfl) OO.none (OO.some (OV.p rfl) (fun _ => by omega)) (OO.some (OV.p rfl) (fun _ => by omega)) (by simp) (Nat.zero_le _) (Nat.le_refl _) hzc) (fun _ => by simp [gZ])) rfl ?_
      refine WL.buildSlice (E := 3) (cs := [_]) (vs := [(0, _)]) ⟨OV.p rfl, trivial⟩ rfl (cZ _) rfl (fun Sv => ?_)
      have hzl : (aB .i64 (x.c ++ List.replicate z 0)).length = x.c.length + z := by simp [aB]
      refine WL.qA (m := x.c.length + z) (q := 1) (cs := aB .i64 (x.c ++ List.replicate z 0)) (news := [.int .i64 0]) Tryz.underlying124 el3 (OV.p rfl) (OV.p rfl) (Seq.up (Seq.here (by omega) (by rw [List.drop_zero]; exact List.prefix_append _ _))) (Seq.all rfl) (by omega) (by omega) (by decide) (by omega) rfl rfl (fun A2 c2 hA2 hc2 => ?_)
      refine WL.ex (tZ (by omega)) (fun ⟨g2, r2⟩ ⟨e2, hr2, hc2'⟩ => ?_)
      dsimp only at e2 hr2 ⊢
      subst e2
      refine WL.sg rfl rfl (WL.nil ?_)
      refine ⟨rfl, ?_⟩
      exact ⟨(z + 1, g2, c2, r2), ⟨by show z + 1 ≤ x.b.length + x.shift - x.c.length; omega, hc2⟩, (by show x.b.length + x.shift - (z + 1) < x.b.length + x.shift - z; omega), .cons rfl (.cons rfl (.cons rfl (.cons rfl (.cons rfl (.cons rfl (.cons rfl (.cons rfl (.cons rfl (.cons rfl (.cons rfl (.cons rfl (.nil _)))))))))))), fun w h => Sat.aV (h.sel 5 [0, 3, 4] rfl) (by simp [aB, List.replicate_succ'])⟩
     ·simp only [decide_eq_true_eq, decide_eq_false_iff_not] at hc3
      refine WC.exit (WC.seq ?_)
      have Qz : z = x.b.length + x.shift - x.c.length := by omega
      have hex : x.c ++ List.replicate z 0 = jK x := by rw [Qz]; rfl
      have Qr : (jK x).length = x.c.length + z := by rw [nI, Qz]
      have Qn : Small 8192 (jK x) := Pt.append (Small.uQ (by decide))
      rw [hex, ← Qr]
      refine WC.region (WL.mv rfl rfl ?_)
      refine WL.call (vs := [_]) Tryz.call103 ⟨OV.p rfl, trivial⟩ (wC (xs := jK x) (Seq.here (by rw [aH]; omega) (by rw [List.drop_zero]; exact List.prefix_append _ _)) (by omega)) rfl ?_
      rintro _ _ ⟨A3, c3, rfl, rfl⟩
      refine WL.ex (tZ (by omega)) (fun ⟨g3, r3⟩ ⟨e3, hr3, hc3⟩ => ?_)
      dsimp only at e3 hr3 ⊢
      subst e3
      have Fp : (jK x).length ≤ c3 := by rw [← hr3, List.length_append, aH]; omega
      refine WL.sg rfl rfl (WL.nil (WC.seq (WC.sr (WL.mv rfl rfl (WL.val (V.len (t := 124) Tryz.runUnderlying124 (OV.p rfl)) rfl (WL.mv rfl rfl (WL.nil (WC.block ?_))))))))
      refine WC.loop (σ := Nat) (fun k => [(0, .slice A m cap), (3, .slice (some ⟨g3, 0, none⟩) (jK x).length c3), (4, .slice (some ⟨gb, 0, none⟩) x.b.length cb), (5, .int .i64 (x.length : Nat)), (6, .int .i64 (x.shift : Nat)), (7, .int .i64 (x.last : Nat)), (20, .int .i64 (m : Int)), (21, .int .i64 (n : Int)), (8, .int .i64 (n : Int)), (9, .int .i64 (d : Nat)), (13, .int .i64 (y : Nat)), (14, .slice (some ⟨go, 0, none⟩) x.c.length c1), (83, .slice (some ⟨gb, 0, none⟩) x.b.length cb), (84, .int .i64 (x.b.length : Nat)), (85, .int .i64 (k : Int))]) (fun k => Cells g3 3 (aB .i64 (jG (jK x) x.b y x.shift k) ++ r3) :: Cells go 3 (aB .i64 x.c ++ ro) :: Cells gb 3 (aB .i64 x.b ++ rb) :: F) (fun k => k ≤ x.b.length) (fun k => x.b.length - k) 0 (Nat.zero_le _) (.cons rfl (.cons rfl (.cons rfl (.cons rfl (.cons rfl (.cons rfl (.cons rfl (.cons rfl (.cons rfl (.cons rfl (.cons rfl (.cons rfl (.cons rfl (.cons rfl (.cons rfl (.nil _)))))))))))))))) (fun w h => h.sel 4 [0, 2, 3] rfl) ?_
      rintro k hk2
      refine WC.sr (WL.val (V.lss (OV.p rfl) (OV.p rfl)) rfl (WL.nil (WC.seq ?_)))
      refine WC.cond rfl (fun hc4 => ?_) (fun hc4 => ?_)
      ·simp only [decide_eq_true_eq, decide_eq_false_iff_not] at hc4
       refine WC.skip (WC.seq (WC.block (WC.seq ?_)))
       have hkb : k < x.b.length := by omega
       obtain ⟨o, ho⟩ : ∃ o, o = jG (jK x) x.b y x.shift k := ⟨_, rfl⟩
       have hol : o.length = (jK x).length := by rw [ho, jX]
       have hos : Small 8192 o := by rw [ho]; exact lS Qn OY k
       rw [← ho]
       have hrb : Rd K (Cells g3 3 (aB .i64 o ++ r3) :: Cells go 3 (aB .i64 x.c ++ ro) :: Cells gb 3 (aB .i64 x.b ++ rb) :: F) (some ⟨gb, 0 + (k : Int).toNat * 1, none⟩) (.int .i64 (x.b.getD k 0 : Nat)) := by
         rw [show 0 + (k : Int).toNat * 1 = k by omega]; exact Rd.up (Rd.up (Rd.here (iL _ _ _ hkb)))
       have hgo : (aB .i64 o ++ r3)[0 + ((k : Int) + (x.shift : Int)).toNat * 1]? = some (.int .i64 (o.getD (k + x.shift) 0 : Nat)) := by rw [show 0 + ((k : Int) + (x.shift : Int)).toNat * 1 = k + x.shift by omega]; exact iL _ _ _ (by omega)
       have hbl := Q8.at_ (by decide) k
       refine WC.region (WL.mv rfl rfl ?_)
       refine WL.val (V.bP bO (OV.p rfl) (OV.p rfl) (fun hc => by omega)) rfl ?_
       refine WL.val (V.load Tryz.isAgg3 (OV.p rfl) (fun hc => hrb)) rfl ?_
       refine WL.sg rfl rfl (WL.sg rfl rfl (WL.nil ?_))
       refine WC.dY (Cells go 3 (aB .i64 x.c ++ ro) :: Cells gb 3 (aB .i64 x.b ++ rb) :: F) (by kernel_rfl) ?_
       refine WA.t 0 rfl (V.move (OV.p rfl)) (WA.t 1 rfl (V.move (OV.p rfl)) (WA.t 2 rfl (V.move (OV.p rfl)) ?_))
       refine WA.t 3 rfl (V.jO (OV.p rfl) (OV.p rfl) (fun hc => by first | omega | (simp at hc; omega))) ?_
       refine WA.t 4 rfl (V.bP bO (OV.p rfl) (OV.p rfl) (fun hc => by omega)) ?_
       refine WA.t 6 rfl (V.move (OV.p rfl)) (WA.t 7 rfl (V.move (OV.p rfl)) ?_)
       refine WA.two (i := 5) (j := 8) (fun w h => by repeat (first | exact h | replace h := h.tail)) (by kernel_rfl) rfl rfl ?_ ?_
       ·refine WL.val (V.load Tryz.isAgg3 (OV.p rfl) (fun hc => Rd.here hgo)) rfl ?_
        refine WL.nil (WA.o 8 rfl (WL.call (vs := [_, _]) Tryz.call288 ⟨OV.p rfl, OV.p rfl, trivial⟩ (pX OY hbl) rfl ?_))
        rintro _ H0 ⟨rfl, h0⟩
        subst H0
        refine WL.nil ?_
        refine WA.t 9 rfl (V.aA (v' := .int .i64 ((o.getD (k + x.shift) 0 ^^^ aK y (x.b.getD k 0) : Nat) : Int)) (V.xor (OV.p rfl) (OV.p rfl)) (fun _ => by rw [iY (by have := hos.at_ (by decide) (k + x.shift); omega) (by have := aP (b := x.b.getD k 0) OY; omega)])) ?_
        refine WA.t 10 rfl (V.bP bO (OV.p rfl) (OV.p rfl) (fun hc => by omega)) ?_
        refine WA.o 11 rfl ?_
        refine WL.store (cs := [_]) Tryz.sizeOf3 (OV.p rfl) (OV.p rfl) rfl rfl rfl (aQ.at_ (by rw [List.length_append, aH]; omega)) ?_
        refine WL.nil (WA.fin (WC.region (WL.ad rfl rfl rfl ?_)))
        refine WL.mv rfl rfl (WL.nil ?_)
        refine ⟨rfl, ?_⟩
        refine ⟨k + 1, (by show k + 1 ≤ x.b.length; omega), (by show x.b.length - (k + 1) < x.b.length - k; omega), .cons rfl (.cons rfl (.cons rfl (.cons rfl (.cons rfl (.cons rfl (.cons rfl (.cons rfl (.cons rfl (.cons rfl (.cons rfl (.cons rfl (.cons rfl (.cons rfl (.cons (look_eq rfl (by simp)) (.nil _))))))))))))))), fun w h => Sat.aV h ?_⟩
        rw [show 0 + ((k : Int) + (x.shift : Int)).toNat * 1 = k + x.shift by omega, jm _ _ _ (by omega), jG, ← ho]
       ·refine WL.call (vs := [_, _]) Tryz.call288 ⟨OV.p rfl, OV.p rfl, trivial⟩ (pX OY hbl) rfl ?_
        rintro _ H0 ⟨rfl, h0⟩
        subst H0
        refine WL.nil (WA.o 5 rfl ?_)
        refine WL.val (V.load Tryz.isAgg3 (OV.p rfl) (fun hc => Rd.here hgo)) rfl ?_
        refine WL.nil ?_
        refine WA.t 9 rfl (V.aA (v' := .int .i64 ((o.getD (k + x.shift) 0 ^^^ aK y (x.b.getD k 0) : Nat) : Int)) (V.xor (OV.p rfl) (OV.p rfl)) (fun _ => by rw [iY (by have := hos.at_ (by decide) (k + x.shift); omega) (by have := aP (b := x.b.getD k 0) OY; omega)])) ?_
        refine WA.t 10 rfl (V.bP bO (OV.p rfl) (OV.p rfl) (fun hc => by omega)) ?_
        refine WA.o 11 rfl ?_
        refine WL.store (cs := [_]) Tryz.sizeOf3 (OV.p rfl) (OV.p rfl) rfl rfl rfl (aQ.at_ (by rw [List.length_append, aH]; omega)) ?_
        refine WL.nil (WA.fin (WC.region (WL.ad rfl rfl rfl ?_)))
        refine WL.mv rfl rfl (WL.nil ?_)
        refine ⟨rfl, ?_⟩
        refine ⟨k + 1, (by show k + 1 ≤ x.b.length; omega), (by show x.b.length - (k + 1) < x.b.length - k; omega), .cons rfl (.cons rfl (.cons rfl (.cons rfl (.cons rfl (.cons rfl (.cons rfl (.cons rfl (.cons rfl (.cons rfl (.cons rfl (.cons rfl (.cons rfl (.cons rfl (.cons (look_eq rfl (by simp)) (.nil _))))))))))))))), fun w h => Sat.aV h ?_⟩
        rw [show 0 + ((k : Int) + (x.shift : Int)).toNat * 1 = k + x.shift by omega, jm _ _ _ (by omega), jG, ← ho]
      ·simp only [decide_eq_true_eq, decide_eq_false_iff_not] at hc4
       refine WC.exit (WC.seq ?_)
       obtain rfl : k = x.b.length := by omega
       have hC : jG (jK x) x.b y x.shift x.b.length = CW x d := by rw [hy]; rfl
       rw [hC]
       have R7 : (CW x d).length = (jK x).length := yV x d
       rw [← R7] at Fp ⊢
       refine WC.region (WL.mv rfl rfl ?_)
       refine WL.val (V.jQ (OV.p rfl) (OV.p rfl) (fun hc => by first | omega | (simp at hc; omega))) rfl ?_
       refine WL.mv rfl rfl (WL.val (V.leq (OV.p rfl) (OV.p rfl)) rfl (WL.nil ?_))
       refine WC.cond rfl (fun pI => ?_) (fun pI => ?_)
       ·simp only [decide_eq_true_eq, decide_eq_false_iff_not] at pI
        have h5 := pI
        rw [if_pos (by omega)] at hxs
        refine WC.region (WL.mv rfl rfl (WL.ad rfl rfl rfl ?_))
        refine WL.mv rfl rfl (WL.sb rfl rfl rfl ?_)
        refine WL.mv rfl rfl (WL.mv rfl rfl (WL.sg rfl rfl (WL.sg rfl rfl (WL.sg rfl rfl (WL.sg rfl rfl (WL.nil (WC.region (WL.ad rfl rfl rfl ?_))))))))
        refine WL.mv rfl rfl (WL.nil ?_)
        refine ⟨rfl, ?_⟩
        first
        | exact ⟨⟨n + 1, gc, gb, cc, cb, rc, rb⟩, ⟨by show n + 1 ≤ m; omega, by show (gy s (n + 1)).c.length ≤ cc; rw [hxs]; exact hcc, by show (gy s (n + 1)).b.length ≤ cb; rw [hxs]; exact hcb⟩, (by show m - (n + 1) < m - n; omega), .cons rfl (.cons (look_eq rfl (by rw [hxs])) (.cons (look_eq rfl (by rw [hxs])) (.cons (look_eq rfl (by rw [hxs])) (.cons (look_eq rfl (by rw [hxs]; simp)) (.cons (look_eq rfl (by rw [hxs])) (.cons rfl (.cons (look_eq rfl (by simp)) (.nil _)))))))), fun w h => by dsimp only; rw [hxs]; exact h⟩
        | exact ⟨⟨n + 1, g3, go, c3, c1, r3, ro⟩, ⟨by show n + 1 ≤ m; omega, by show (gy s (n + 1)).c.length ≤ c3; rw [hxs]; exact Fp, by show (gy s (n + 1)).b.length ≤ c1; rw [hxs]; exact hco⟩, (by show m - (n + 1) < m - n; omega), .cons rfl (.cons (look_eq rfl (by rw [hxs])) (.cons (look_eq rfl (by rw [hxs])) (.cons (look_eq rfl (by rw [hxs]; simp; omega)) (.cons (look_eq rfl (by rw [hxs]; rfl)) (.cons (look_eq rfl (by rw [hxs])) (.cons rfl (.cons (look_eq rfl (by simp)) (.nil _)))))))), fun w h => by dsimp only; rw [hxs]; exact h.sel 3 [0, 1] rfl⟩
        | exact ⟨⟨n + 1, g3, gb, c3, cb, r3, rb⟩, ⟨by show n + 1 ≤ m; omega, by show (gy s (n + 1)).c.length ≤ c3; rw [hxs]; exact Fp, by show (gy s (n + 1)).b.length ≤ cb; rw [hxs]; exact hcb⟩, (by show m - (n + 1) < m - n; omega), .cons rfl (.cons (look_eq rfl (by rw [hxs])) (.cons (look_eq rfl (by rw [hxs])) (.cons (look_eq rfl (by rw [hxs])) (.cons (look_eq rfl (by rw [hxs]; simp)) (.cons (look_eq rfl (by rw [hxs])) (.cons rfl (.cons (look_eq rfl (by simp)) (.nil _)))))))), fun w h => by dsimp only; rw [hxs]; exact h.sel 3 [0, 2] rfl⟩
       ·simp only [decide_eq_true_eq, decide_eq_false_iff_not] at pI
        have h5 := pI
        rw [if_neg (by omega)] at hxs
        refine WC.region (WL.mv rfl rfl (WL.ad rfl rfl rfl ?_))
        refine WL.sg rfl rfl (WL.nil (WC.region (WL.ad rfl rfl rfl ?_)))
        refine WL.mv rfl rfl (WL.nil ?_)
        refine ⟨rfl, ?_⟩
        first
        | exact ⟨⟨n + 1, gc, gb, cc, cb, rc, rb⟩, ⟨by show n + 1 ≤ m; omega, by show (gy s (n + 1)).c.length ≤ cc; rw [hxs]; exact hcc, by show (gy s (n + 1)).b.length ≤ cb; rw [hxs]; exact hcb⟩, (by show m - (n + 1) < m - n; omega), .cons rfl (.cons (look_eq rfl (by rw [hxs])) (.cons (look_eq rfl (by rw [hxs])) (.cons (look_eq rfl (by rw [hxs])) (.cons (look_eq rfl (by rw [hxs]; simp)) (.cons (look_eq rfl (by rw [hxs])) (.cons rfl (.cons (look_eq rfl (by simp)) (.nil _)))))))), fun w h => by dsimp only; rw [hxs]; exact h⟩
        | exact ⟨⟨n + 1, g3, go, c3, c1, r3, ro⟩, ⟨by show n + 1 ≤ m; omega, by show (gy s (n + 1)).c.length ≤ c3; rw [hxs]; exact Fp, by show (gy s (n + 1)).b.length ≤ c1; rw [hxs]; exact hco⟩, (by show m - (n + 1) < m - n; omega), .cons rfl (.cons (look_eq rfl (by rw [hxs])) (.cons (look_eq rfl (by rw [hxs])) (.cons (look_eq rfl (by rw [hxs]; simp; omega)) (.cons (look_eq rfl (by rw [hxs]; rfl)) (.cons (look_eq rfl (by rw [hxs])) (.cons rfl (.cons (look_eq rfl (by simp)) (.nil _)))))))), fun w h => by dsimp only; rw [hxs]; exact h.sel 3 [0, 1] rfl⟩
        | exact ⟨⟨n + 1, g3, gb, c3, cb, r3, rb⟩, ⟨by show n + 1 ≤ m; omega, by show (gy s (n + 1)).c.length ≤ c3; rw [hxs]; exact Fp, by show (gy s (n + 1)).b.length ≤ cb; rw [hxs]; exact hcb⟩, (by show m - (n + 1) < m - n; omega), .cons rfl (.cons (look_eq rfl (by rw [hxs])) (.cons (look_eq rfl (by rw [hxs])) (.cons (look_eq rfl (by rw [hxs])) (.cons (look_eq rfl (by rw [hxs]; simp)) (.cons (look_eq rfl (by rw [hxs])) (.cons rfl (.cons (look_eq rfl (by simp)) (.nil _)))))))), fun w h => by dsimp only; rw [hxs]; exact h.sel 3 [0, 2] rfl⟩
  ·simp only [decide_eq_true_eq, decide_eq_false_iff_not] at hc0
   refine WC.exit (WC.seq (WC.block ?_))
   refine WC.loop (σ := Nat) (fun j => [(3, .slice (some ⟨gc, 0, none⟩) j cc)]) (fun j => Cells gc 3 (aB .i64 x.c ++ rc) :: F) (fun j => j ≤ x.c.length ∧ aC x.c j = aC x.c x.c.length) (fun j => j) x.c.length ⟨Nat.le_refl _, rfl⟩ (.cons rfl (.nil _)) (fun w h => h.sel 2 [0] rfl) ?_
   rintro j ⟨hj, hjn⟩
   have hgc : 0 < j → (aB .i64 x.c ++ rc)[0 + ((j : Int) - 1).toNat * 1]? = some (.int .i64 (x.c.getD (j - 1) 0 : Nat)) := fun h => by rw [show 0 + ((j : Int) - 1).toNat * 1 = j - 1 by omega]; exact iL _ _ _ (by omega)
   refine WC.seq (WC.sr (WL.mv rfl rfl (WL.val (V.len (t := 124) Tryz.runUnderlying124 (OV.p rfl)) rfl (WL.val (V.gtr (OV.p rfl) (OV.p rfl)) rfl (WL.mv rfl rfl (WL.ah (oj := _) rfl rfl rfl GC.t (V.move (OV.p rfl)) rfl (WL.ah (oj := _) rfl rfl rfl GC.t (V.move (OV.p rfl)) rfl (WL.ah (oj := _) rfl rfl rfl GC.t (V.len (t := 124) Tryz.runUnderlying124 (OV.g rfl id)) rfl ?_))))))))
   refine WL.ah (oj := _) rfl rfl rfl GC.t (V.wM (OV.g rfl id) (OV.p rfl) (fun hc => by first | omega | (simp at hc; omega))) rfl ?_
   refine WL.ah (oj := _) rfl rfl rfl GC.t (V.bP bO (OV.g rfl id) (OV.g rfl id) (fun hc => by simp at hc; omega)) rfl ?_
   refine WL.ah (oj := _) rfl rfl rfl GC.t (V.load Tryz.isAgg3 (OV.g rfl id) (fun hc => Rd.here (hgc (by simp at hc; omega)))) rfl ?_
   refine WL.ah (oj := _) rfl rfl rfl GC.t (V.eql (OV.g rfl id) (OV.p rfl)) rfl (WL.val (V.aD (OV.p rfl) (OV.g rfl id)) rfl (WL.nil ?_))
   refine WC.cond rfl (fun hc6 => ?_) (fun hc6 => ?_)
   ·simp only [Bool.and_eq_true, Bool.and_eq_false_iff, decide_eq_true_eq, decide_eq_false_iff_not] at hc6
    have h6 := hc6
    refine WC.skip (WC.block (WC.region (WL.mv rfl rfl (WL.mv rfl rfl (WL.val (V.len (t := 124) Tryz.runUnderlying124 (OV.p rfl)) rfl (WL.sb rfl rfl rfl ?_))))))
    refine WL.val (V.aA (v' := .slice (some ⟨gc, 0, none⟩) (j - 1) cc) (V.slice (l := 0) (h := j - 1) (u := cc) bO (OV.p rfl) OO.none (OO.some (OV.p rfl) (fun _ => by omega)) OO.none (by simp) (Nat.zero_le _) (by omega) (Nat.le_refl _)) (fun _ => by simp [gZ])) rfl ?_
    refine WL.sg rfl rfl (WL.nil ?_)
    refine ⟨rfl, ?_⟩
    refine ⟨j - 1, ⟨by show j - 1 ≤ x.c.length; omega, ?_⟩, (by show j - 1 < j; omega), .cons rfl (.nil _), fun w h => h⟩
    obtain ⟨i, rfl⟩ : ∃ i, j = i + 1 := ⟨j - 1, by omega⟩
    rw [← hjn, aC, if_pos (by have := h6.2; simp at this ⊢; omega)]; rfl
   ·simp only [Bool.and_eq_true, Bool.and_eq_false_iff, decide_eq_true_eq, decide_eq_false_iff_not] at hc6
    have h6 := hc6
    refine WC.exit (WC.sr (WL.mv rfl rfl (WL.sg rfl rfl (WL.nil (WC.ret ?_)))))
    obtain rfl : n = m := by omega
    have QO : kR s = x.c := by unfold kR; rw [hl, ← hx]
    have hj2 : aC x.c x.c.length = j := by
      rw [← hjn]
      cases j with
      | zero => rfl
      | succ i =>
        rw [aC, if_neg]
        intro hz
        rcases h6 with h1 | h1
        · omega
        · have h2 : ¬ ((x.c.getD i 0 : Nat) : Int) = 0 := h1
          exact h2 (by rw [hz]; rfl)
    refine aj.ret (H' := Cells gc _ _ :: F) (aL.tmp rfl rfl) (fun w h => h) ⟨gc, cc, rc, ?_, by rw [QO]⟩
    unfold mh
    rw [QO, hj2]
end
end Go.Proofs.YtcedojacbhnbiaaGreat
