/- slices.Clone, IndexFunc, DeleteFunc, Compact at []int. -/
import Derived.Test.YtgmdagjnigkaaaaSlQ
import Derived.Test.YtgmdagjnigkaaaaTy
namespace Go.Proofs.Ytgmdagjnigkaaaa
open Go.Sl Go.RowKit
set_option linter.unusedVariables false
set_option linter.unusedSimpArgs false
set_option maxRecDepth 20000

theorem clone_ints {A : Option Addr} {m cap : Nat} {xs : List Int} {K : World} {F : List Assn} (hs : Seq K F A m 1 (ints .i64 xs)) (hm : m ≤ 1000000) :
    Does Try.prog 62 #[.slice A m cap] K F (fun v H' => ∃ A' cap', v = .slice A' m cap' ∧ H' = SlA (.slice A' m cap') 3 1 m (ints .i64 xs) :: F) := by
  have hl : xs.length = m := by simpa [ints] using hs.len
  refine Does.have_ (p := A = none → xs = []) (fun w hw hA => by subst hA; simpa [ints] using hs.none_nil hw) (fun hnil => ?_)
  refine Does.enter Try.func62 rfl Try.ntmps62 rfl ?_
  simp only [env0, Nat.reduceAdd]
  refine WC.seq ?_
  refine WC.region ?_
  refine WL.val (V.assign (OV.p rfl)) rfl ?_
  refine WL.nil ?_
  refine WC.seq ?_
  refine WC.seq ?_
  refine WC.region ?_
  refine WL.val (V.move (OV.p rfl)) rfl ?_
  refine WL.val (V.eqlNil Try.underlying40 (OV.p rfl)) rfl ?_
  refine WL.nil ?_
  refine WC.cond rfl (fun hc0 => ?_) (fun hc0 => ?_)
  · skip
    have hA : A = none := by cases A <;> simp at hc0 ⊢
    subst hA
    have hx := hnil rfl
    subst hx
    obtain rfl : m = 0 := hl.symm
    refine WC.seq ?_
    refine WC.region ?_
    refine WL.val (V.assign (OV.p rfl)) rfl ?_
    refine WL.nil ?_
    refine WC.ret ?_
    exact BodyQ.ret (H' := SlA (.slice none 0 0) _ 1 0 [] :: F) (Res.tmp rfl rfl) (fun w h => Sat.slNil h _ _) ⟨none, 0, rfl, rfl⟩
  · skip
    refine WC.skip ?_
    refine WC.seq ?_
    refine WC.region ?_
    refine WL.buildSlice (E := 3) (cs := []) (vs := []) trivial rfl (bsl40_0 ) rfl (fun b5 => ?_)
    refine WL.val (V.move (OV.p rfl)) rfl ?_
    refine WL.sub (Sub.refl _) (fun w h => Sat.toSl (m := 0) (cap := 0) (s := 1) h rfl (Nat.le_refl _) (Nat.zero_le _)) ?_
    refine WL.append (m := 0) (cs := []) Try.underlying40 el3 (OV.p rfl) (OV.p rfl) (by repeat (first | exact hs | apply Seq.up)) (ints_one _ _) (by omega) rfl rfl (fun A' c' hn' hc' => ?_)
    refine WL.val (V.assign (OV.p rfl)) rfl ?_
    refine WL.nil ?_
    refine WC.ret ?_
    refine BodyQ.ret (H' := SlA (.slice A' m c') _ 1 m (ints .i64 xs) :: F) (Res.tmp rfl (look_eq rfl (by simp))) (fun w h => ?_) ⟨A', c', rfl, rfl⟩
    simpa using h

/-- A closure that asks a number. -/
def Asks (P : Program) (fid : FuncId) (capt : List Value) (K : World) (F : List Assn) (p : Int → Bool) : Prop := ∀ x : Int, Tells P fid (#[.int .i64 x] ++ capt.toArray) K F (.bool (p x))

theorem indexFunc {A : Option Addr} {m cap : Nat} {xs : List Int} {fid : FuncId} {capt : List Value} {p : Int → Bool} {K : World} {F : List Assn} (hs : Seq K F A m 1 (ints .i64 xs)) (hm : m ≤ maxLen) (hcl : Callable Try.prog fid)
    (hf : ∀ x ∈ xs, Tells Try.prog fid ([Value.int .i64 x] ++ capt).toArray K F (.bool (p x))) :
    Does Try.prog 84 #[.slice A m cap, .func (.func fid) #[] capt.toArray] K F
      (fun v H' => H' = F ∧ ((v = .int .i64 (-1) ∧ ∀ x ∈ xs, p x = false) ∨ ∃ i : Nat, i < m ∧ v = .int .i64 (i : Int) ∧ (∀ x ∈ xs.take i, p x = false) ∧ p (xs.getD i 0) = true)) := by
  have hl : xs.length = m := by simpa [ints] using hs.len
  have hm' : m ≤ 9223372036854775807 := by simp only [maxLen] at hm; omega
  refine Does.enter Try.func84 rfl Try.ntmps84 rfl ?_
  simp only [env0, Nat.reduceAdd]
  refine WC.seq ?_
  refine WC.region ?_
  refine WL.val (V.assign (OV.p rfl)) rfl ?_
  refine WL.nil ?_
  refine WC.seq ?_
  refine WC.seq ?_
  refine WC.region ?_
  refine WL.val (V.move (OV.p rfl)) rfl ?_
  refine WL.val (V.len (t := 40) Try.runUnderlying40 (OV.p rfl)) rfl ?_
  refine WL.val (V.move (OV.p rfl)) rfl ?_
  refine WL.nil ?_
  refine WC.block ?_
  refine WC.loop (σ := Nat) (fun i => [(0, .slice A m cap), (1, .func (.func fid) #[] capt.toArray), (7, .int .i64 (m : Int)), (8, .int .i64 (i : Int))]) (fun i => F) (fun i => i ≤ m ∧ ∀ x ∈ xs.take i, p x = false) (fun i => m - i) 0 ⟨Nat.zero_le _, fun x hx => by simp at hx⟩ (.cons rfl (.cons rfl (.cons rfl (.cons rfl (.nil _))))) (fun w h => h) ?_
  rintro i ⟨hi, hp⟩
  refine WC.seq ?_
  refine WC.region ?_
  refine WL.val (V.lss (OV.p rfl) (OV.p rfl)) rfl ?_
  refine WL.nil ?_
  refine WC.seq ?_
  refine WC.cond rfl (fun hc0 => ?_) (fun hc0 => ?_)
  · simp only [decide_eq_true_eq, decide_eq_false_iff_not] at hc0
    refine WC.skip ?_
    refine WC.seq ?_
    refine WC.block ?_
    refine WC.seq ?_
    refine WC.region ?_
    refine WL.val (V.move (OV.p rfl)) rfl ?_
    refine WL.val (V.assign (OV.p rfl)) rfl ?_
    refine WL.nil ?_
    refine WC.seq ?_
    refine WC.region ?_
    refine WL.val (V.move (OV.p rfl)) rfl ?_
    refine WL.val (V.move (OV.p rfl)) rfl ?_
    refine WL.val (V.move (OV.p rfl)) rfl ?_
    refine WL.val (V.idxS st40 (OV.p rfl) (OV.p rfl) (fun hc => by omega) (fun hc => Seq.int_rd hs (by omega))) rfl ?_
    refine WL.val (V.load Try.isAgg3 (OV.p rfl) (fun hc => Seq.int_rd hs (by omega))) rfl ?_
    have hti : (i : Int).toNat = i := by omega
    have hget : xs.getD i 0 = xs[i]'(by omega) := by simp [List.getD, show i < xs.length by omega]
    refine WL.callV (first := []) (vs := [_]) (captured := capt) hcl (OV.p rfl) ⟨OV.p rfl, trivial⟩ (hf (xs.getD i 0) (by rw [hget]; exact List.getElem_mem _)) rfl ?_
    rintro _ H0 ⟨rfl, h0⟩
    subst H0
    refine WL.nil ?_
    refine WC.cond rfl (fun hc1 => ?_) (fun hc1 => ?_)
    · skip
      have h1 := hc1
      refine WC.seq ?_
      refine WC.region ?_
      refine WL.val (V.move (OV.p rfl)) rfl ?_
      refine WL.val (V.assign (OV.p rfl)) rfl ?_
      refine WL.nil ?_
      refine WC.ret ?_
      refine BodyQ.ret (H' := F) (Res.tmp rfl rfl) (fun w h => h) ⟨rfl, .inr ⟨i, by omega, rfl, hp, h1⟩⟩
    · skip
      have h1 := hc1
      refine WC.skip ?_
      refine WC.region ?_
      refine WL.val (V.addI (OV.p rfl) (OV.p rfl) (fun hc => by first | omega | (simp at hc; omega))) rfl ?_
      refine WL.val (V.move (OV.p rfl)) rfl ?_
      refine WL.nil ?_
      refine ⟨rfl, ?_⟩
      refine ⟨i + 1, ⟨by show i + 1 ≤ m; omega, fun x hx => ?_⟩, (by show m - (i + 1) < m - i; omega), .cons rfl (.cons rfl (.cons rfl (.cons (look_eq rfl (by simp)) (.nil _)))), fun w h => h⟩
      rw [List.take_add_one, List.getElem?_eq_getElem (by omega), ← hget] at hx
      rcases List.mem_append.1 hx with hx | hx
      · exact hp x hx
      · simp at hx; subst hx; exact h1
  · simp only [decide_eq_true_eq, decide_eq_false_iff_not] at hc0
    refine WC.exit ?_
    refine WC.seq ?_
    refine WC.region ?_
    refine WL.val (V.assign (OV.p rfl)) rfl ?_
    refine WL.nil ?_
    refine WC.ret ?_
    obtain rfl : i = m := by omega
    refine BodyQ.ret (H' := F) (Res.tmp rfl rfl) (fun w h => h) ⟨rfl, .inl ⟨rfl, fun x hx => hp x (by rw [List.take_of_length_le (by omega)]; exact hx)⟩⟩
theorem filter_all {p : Int → Bool} {xs : List Int} (h : ∀ x ∈ xs, p x = false) : xs.filter (fun x => !p x) = xs := List.filter_eq_self.2 fun x hx => by simp [h x hx]
theorem deleteFunc {A : Option Addr} {m cap : Nat} {xs : List Int} {fid : FuncId} {capt : List Value} {p : Int → Bool} {K : World} {F : List Assn} (hcl : Callable Try.prog fid)
    (hf : ∀ x ∈ xs, ∀ X, Tells Try.prog fid ([Value.int .i64 x] ++ capt).toArray K (X :: F) (.bool (p x))) :
    Does Try.prog 61 #[.slice A m cap, .func (.func fid) #[] capt.toArray] K (SlA (.slice A m cap) 3 1 m (ints .i64 xs) :: F)
      (fun v H' => ∃ q, q = (xs.filter fun x => !p x).length ∧ v = .slice A q cap ∧ H' = SlA (.slice A q cap) 3 1 q (ints .i64 (xs.filter fun x => !p x)) :: F) := by
  refine Does.have_ (p := xs.length = m) (fun w hw => by have := SlA.len hw; rwa [ints_length, Nat.mul_one] at this) (fun hl => ?_)
  cases A with
  | none =>
    refine Does.have_ (p := m = 0 ∧ cap = 0 ∧ xs = []) (fun w hw => by have := SlA.nilCs hw; simpa [ints] using this) (fun ⟨e1, e2, e3⟩ => ?_)
    subst e1 e2 e3
    refine Does.enter Try.func61 rfl Try.ntmps61 rfl ?_
    simp only [env0, Nat.reduceAdd]
    refine WC.seq ?_
    refine WC.region ?_
    refine WL.val (V.assign (OV.p rfl)) rfl ?_
    refine WL.nil ?_
    refine WC.seq ?_
    refine WC.region ?_
    refine WL.val (V.move (OV.p rfl)) rfl ?_
    refine WL.val (V.move (OV.p rfl)) rfl ?_
    refine WL.call (vs := [_, _]) Try.call84 ⟨OV.p rfl, OV.p rfl, trivial⟩ (indexFunc (xs := []) (p := p) Seq.nilI (Nat.zero_le _) hcl (fun x hx => by simp at hx)) rfl ?_
    rintro _ _ ⟨rfl, ⟨rfl, _⟩ | ⟨i, hi, _⟩⟩
    rotate_left
    · exact absurd hi (by omega)
    refine WL.val (V.assign (OV.p rfl)) rfl ?_
    refine WL.nil ?_
    refine WC.seq ?_
    refine WC.seq ?_
    refine WC.region ?_
    refine WL.val (V.move (OV.p rfl)) rfl ?_
    refine WL.val (V.eql (OV.p rfl) (OV.p rfl)) rfl ?_
    refine WL.nil ?_
    refine WC.condT' rfl (by first | rfl | (simp; done) | (simp; omega)) ?_
    refine WC.seq ?_
    refine WC.region ?_
    refine WL.val (V.move (OV.p rfl)) rfl ?_
    refine WL.val (V.assign (OV.p rfl)) rfl ?_
    refine WL.nil ?_
    refine WC.ret ?_
    exact BodyQ.ret (H' := SlA (.slice none 0 0) _ 1 0 [] :: F) (Res.tmp rfl rfl) (fun w h => h) ⟨0, rfl, rfl, rfl⟩
  | some a =>
    refine Does.have_ (p := ∃ g, a = ⟨g, 0, none⟩) (fun w hw => SlA.addr hw) (fun ⟨g, e1⟩ => ?_)
    subst e1
    refine Does.ex (fun w hw => Sat.slCells hw) (fun rs ⟨hr1, _, hr2, hr3⟩ => ?_)
    have hm' : m ≤ maxLen := by omega
    have hcap : cap ≤ 9223372036854775807 := by simp only [maxLen] at hr3; omega
    have hrl : rs.length = cap - m := by rw [List.length_append, ints_length] at hr1; omega
    have hback : ∀ (ys : List Int) (cs : List Value) (w : World), cs.length = cap → ys.length ≤ cap → cs.take ys.length = ints .i64 ys → Sat K w (Cells g 3 cs :: F) → Sat K w (SlA (.slice (some ⟨g, 0, none⟩) ys.length cap) 3 1 ys.length (ints .i64 ys) :: F) := fun ys cs w h1 h2 h3 h => by
      have := Sat.toSl (s := 1) h (by rw [h1, Nat.mul_one]) h2 hr3
      rw [Nat.mul_one, h3] at this
      exact this
    have hSq : Seq K (Cells g 3 (ints .i64 xs ++ rs) :: F) (some ⟨g, 0, none⟩) m 1 (ints .i64 xs) := Seq.here (by rw [ints_length]; omega) (List.prefix_append _ _)
    by_cases hall : ∀ x ∈ xs, p x = false
    · skip
      refine Does.enter Try.func61 rfl Try.ntmps61 rfl ?_
      simp only [env0, Nat.reduceAdd]
      refine WC.seq ?_
      refine WC.region ?_
      refine WL.val (V.assign (OV.p rfl)) rfl ?_
      refine WL.nil ?_
      refine WC.seq ?_
      refine WC.region ?_
      refine WL.val (V.move (OV.p rfl)) rfl ?_
      refine WL.val (V.move (OV.p rfl)) rfl ?_
      refine WL.call (vs := [_, _]) Try.call84 ⟨OV.p rfl, OV.p rfl, trivial⟩ (indexFunc (xs := xs) (p := p) hSq hm' hcl (fun x hx => hf x hx _)) rfl ?_
      rintro _ _ ⟨rfl, ⟨rfl, _⟩ | ⟨i0, hi0, rfl, hpre, hat⟩⟩
      rotate_left
      · exfalso
        have : xs.getD i0 0 = xs[i0]'(by omega) := by simp [List.getD, show i0 < xs.length by omega]
        rw [this, hall _ (List.getElem_mem _)] at hat
        cases hat
      refine WL.val (V.assign (OV.p rfl)) rfl ?_
      refine WL.nil ?_
      refine WC.seq ?_
      refine WC.seq ?_
      refine WC.region ?_
      refine WL.val (V.move (OV.p rfl)) rfl ?_
      refine WL.val (V.eql (OV.p rfl) (OV.p rfl)) rfl ?_
      refine WL.nil ?_
      refine WC.condT' rfl (by first | rfl | (simp; done) | (simp; omega)) ?_
      refine WC.seq ?_
      refine WC.region ?_
      refine WL.val (V.move (OV.p rfl)) rfl ?_
      refine WL.val (V.assign (OV.p rfl)) rfl ?_
      refine WL.nil ?_
      refine WC.ret ?_
      refine BodyQ.ret (H' := SlA (.slice (some ⟨g, 0, none⟩) xs.length cap) _ 1 xs.length (ints .i64 xs) :: F) (Res.tmp rfl rfl) (fun w h => hback xs _ w (by omega) (by omega) (by rw [List.take_left' (ints_length _ _)]) h) ⟨xs.length, by rw [filter_all hall], by rw [hl], by rw [filter_all hall]⟩
    · skip
      refine Does.enter Try.func61 rfl Try.ntmps61 rfl ?_
      simp only [env0, Nat.reduceAdd]
      refine WC.seq ?_
      refine WC.region ?_
      refine WL.val (V.assign (OV.p rfl)) rfl ?_
      refine WL.nil ?_
      refine WC.seq ?_
      refine WC.region ?_
      refine WL.val (V.move (OV.p rfl)) rfl ?_
      refine WL.val (V.move (OV.p rfl)) rfl ?_
      refine WL.call (vs := [_, _]) Try.call84 ⟨OV.p rfl, OV.p rfl, trivial⟩ (indexFunc (xs := xs) (p := p) hSq hm' hcl (fun x hx => hf x hx _)) rfl ?_
      rintro _ _ ⟨rfl, ⟨rfl, hno⟩ | ⟨i0, hi0, rfl, hpre, hat⟩⟩
      · exact absurd hno hall
      have hlt0 : i0 < xs.length := by omega
      refine WL.val (V.assign (OV.p rfl)) rfl ?_
      refine WL.nil ?_
      refine WC.seq ?_
      refine WC.seq ?_
      refine WC.region ?_
      refine WL.val (V.move (OV.p rfl)) rfl ?_
      refine WL.val (V.eql (OV.p rfl) (OV.p rfl)) rfl ?_
      refine WL.nil ?_
      refine WC.condF' rfl ((by simp)) ?_
      refine WC.skip ?_
      refine WC.seq ?_
      refine WC.seq ?_
      refine WC.region ?_
      refine WL.val (V.move (OV.p rfl)) rfl ?_
      refine WL.val (V.addI (OV.p rfl) (OV.p rfl) (fun hc => by first | omega | (simp at hc; omega))) rfl ?_
      refine WL.val (V.assign (OV.p rfl)) rfl ?_
      refine WL.nil ?_
      refine WC.block ?_
      refine WC.loop (σ := Nat × Nat × List Value) (fun x => [(0, .slice (some ⟨g, 0, none⟩) m cap), (1, .func (.func fid) #[] capt.toArray), (5, .int .i64 (x.1 : Int)), (6, .int .i64 (x.2.1 : Int))]) (fun x => Cells g 3 x.2.2 :: F) (fun x => x.1 < x.2.1 ∧ x.2.1 ≤ m ∧ x.2.2.length = cap ∧ x.1 = ((xs.take x.2.1).filter fun y => !p y).length ∧ x.2.2.take x.1 = ints .i64 ((xs.take x.2.1).filter fun y => !p y) ∧ x.2.2.drop x.2.1 = (ints .i64 xs ++ rs).drop x.2.1) (fun x => m - x.2.1) (i0, i0 + 1, ints .i64 xs ++ rs) ?_ (.cons rfl (.cons rfl (.cons rfl (.cons (look_eq rfl (by simp)) (.nil _))))) (fun w h => h) ?_
      · have e1 : (xs.take (i0 + 1)).filter (fun y => !p y) = xs.take i0 := by
          rw [List.take_add_one, List.getElem?_eq_getElem hlt0, List.filter_append, filter_all hpre]
          have : p xs[i0] = true := by simpa [List.getD, hlt0] using hat
          simp [this]
        refine ⟨by show i0 < i0 + 1; omega, by show i0 + 1 ≤ m; omega, by rw [hr1]; omega, ?_, ?_, rfl⟩
        · show i0 = ((xs.take (i0 + 1)).filter fun y => !p y).length
          rw [e1, List.length_take]; omega
        · show (ints .i64 xs ++ rs).take i0 = ints .i64 ((xs.take (i0 + 1)).filter fun y => !p y)
          rw [e1, List.take_append_of_le_length (by rw [ints_length]; omega), ints_take]
      rintro ⟨i, j, cs⟩ ⟨hij, hjm, hcl', hi, htk, hdr⟩
      dsimp only at hij hjm hcl' hi htk hdr ⊢
      refine WC.seq ?_
      refine WC.seq ?_
      refine WC.region ?_
      refine WL.val (V.move (OV.p rfl)) rfl ?_
      refine WL.val (V.move (OV.p rfl)) rfl ?_
      refine WL.val (V.len (t := 40) Try.runUnderlying40 (OV.p rfl)) rfl ?_
      refine WL.val (V.lss (OV.p rfl) (OV.p rfl)) rfl ?_
      refine WL.nil ?_
      refine WC.cond rfl (fun hc1 => ?_) (fun hc1 => ?_)
      · simp only [decide_eq_true_eq, decide_eq_false_iff_not] at hc1
        refine WC.skip ?_
        refine WC.seq ?_
        refine WC.block ?_
        refine WC.seq ?_
        have hjm2 : j < m := by omega
        have hgj : cs[0 + (j : Int).toNat * 1]? = some (.int .i64 (xs.getD j 0)) := by
          have e1 := congrArg (·[0]?) hdr
          simp only [List.getElem?_drop, Nat.add_zero] at e1
          rw [show 0 + (j : Int).toNat * 1 = j by omega, e1, List.getElem?_append_left (by rw [ints_length]; omega), ints_getD _ _ (by omega)]
        have hgx : xs.getD j 0 = xs[j]'(by omega) := by simp [List.getD, show j < xs.length by omega]
        have htj : xs.take (j + 1) = xs.take j ++ [xs.getD j 0] := by rw [List.take_add_one, List.getElem?_eq_getElem (by omega), hgx]; rfl
        refine WC.region ?_
        refine WL.val (V.move (OV.p rfl)) rfl ?_
        refine WL.val (V.move (OV.p rfl)) rfl ?_
        refine WL.val (V.idxB st40 (OV.p rfl) (OV.p rfl) (fun hc => by omega)) rfl ?_
        refine WL.val (V.load Try.isAgg3 (OV.p rfl) (fun _ => Rd.here hgj)) rfl ?_
        refine WL.val (V.assign (OV.p rfl)) rfl ?_
        refine WL.nil ?_
        refine WC.seq ?_
        refine WC.region ?_
        refine WL.val (V.move (OV.p rfl)) rfl ?_
        refine WL.val (V.move (OV.p rfl)) rfl ?_
        refine WL.callV (first := []) (vs := [_]) (captured := capt) hcl (OV.p rfl) ⟨OV.p rfl, trivial⟩ (hf (xs.getD j 0) (by rw [hgx]; exact List.getElem_mem _) _) rfl ?_
        rintro _ H0 ⟨rfl, h0⟩
        subst H0
        refine WL.val (V.not (OV.p rfl)) rfl ?_
        refine WL.nil ?_
        refine WC.cond rfl (fun hc2 => ?_) (fun hc2 => ?_)
        · simp only [Bool.not_eq_true', Bool.not_eq_false'] at hc2
          have h2 := hc2
          have hst : [xs.getD j 0].filter (fun y => !p y) = [xs.getD j 0] := by rw [List.filter_cons_of_pos (by rw [h2]; rfl)]; rfl
          refine WC.seq ?_
          refine WC.region ?_
          refine WL.val (V.move (OV.p rfl)) rfl ?_
          refine WL.val (V.move (OV.p rfl)) rfl ?_
          refine WL.val (V.move (OV.p rfl)) rfl ?_
          refine WL.val (V.idxB st40 (OV.p rfl) (OV.p rfl) (fun hc => by omega)) rfl ?_
          refine WL.store (cs := [_]) Try.sizeOf3 (OV.p rfl) (OV.p rfl) rfl rfl rfl (Upd.at_ (by omega)) ?_
          refine WL.nil ?_
          refine WC.region ?_
          refine WL.val (V.move (OV.p rfl)) rfl ?_
          refine WL.val (V.addI (OV.p rfl) (OV.p rfl) (fun hc => by first | omega | (simp at hc; omega))) rfl ?_
          refine WL.val (V.assign (OV.p rfl)) rfl ?_
          refine WL.nil ?_
          refine WC.region ?_
          refine WL.val (V.move (OV.p rfl)) rfl ?_
          refine WL.val (V.addI (OV.p rfl) (OV.p rfl) (fun hc => by first | omega | (simp at hc; omega))) rfl ?_
          refine WL.val (V.assign (OV.p rfl)) rfl ?_
          refine WL.nil ?_
          refine ⟨rfl, ?_⟩
          first
          | (refine ⟨(i, j + 1, cs), ⟨by show i < j + 1; omega, by show j + 1 ≤ m; omega, hcl', ?_, ?_, ?_⟩, (by show m - (j + 1) < m - j; omega), .cons rfl (.cons rfl (.cons rfl (.cons (look_eq rfl (by simp)) (.nil _)))), fun w h => h⟩
             · show i = ((xs.take (j + 1)).filter fun y => !p y).length
               rw [htj, List.filter_append, hse, List.length_append, ← hi]; rfl
             · show cs.take i = ints .i64 ((xs.take (j + 1)).filter fun y => !p y)
               rw [htj, List.filter_append, hse, List.append_nil, htk]
             · have := congrArg (List.drop 1) hdr
               rwa [List.drop_drop, List.drop_drop] at this)
          | (have hst2 := hst
             refine ⟨(i + 1, j + 1, cs.set (0 + (i : Int).toNat * 1) (.int .i64 (xs.getD j 0))), ⟨by show i + 1 < j + 1; omega, by show j + 1 ≤ m; omega, by rw [List.length_set]; exact hcl', ?_, ?_, ?_⟩, (by show m - (j + 1) < m - j; omega), .cons rfl (.cons rfl (.cons (look_eq rfl (by simp)) (.cons (look_eq rfl (by simp)) (.nil _)))), fun w h => h⟩
             · show i + 1 = ((xs.take (j + 1)).filter fun y => !p y).length
               rw [htj, List.filter_append, hst2, List.length_append, ← hi]; rfl
             · show (cs.set (0 + (i : Int).toNat * 1) (.int .i64 (xs.getD j 0))).take (i + 1) = ints .i64 ((xs.take (j + 1)).filter fun y => !p y)
               rw [htj, List.filter_append, hst2, ints_append, ← htk, show 0 + (i : Int).toNat * 1 = i by omega, List.take_add_one, List.getElem?_set_self (by omega), List.take_set_of_le (by omega)]
               rfl
             · show (cs.set (0 + (i : Int).toNat * 1) (.int .i64 (xs.getD j 0))).drop (j + 1) = (ints .i64 xs ++ rs).drop (j + 1)
               rw [show 0 + (i : Int).toNat * 1 = i by omega, List.drop_set_of_lt (by omega)]
               have := congrArg (List.drop 1) hdr
               rwa [List.drop_drop, List.drop_drop] at this)
        · simp only [Bool.not_eq_true', Bool.not_eq_false'] at hc2
          have h2 := hc2
          have hse : [xs.getD j 0].filter (fun y => !p y) = [] := by rw [List.filter_cons_of_neg (by rw [h2]; decide)]; rfl
          refine WC.skip ?_
          refine WC.region ?_
          refine WL.val (V.move (OV.p rfl)) rfl ?_
          refine WL.val (V.addI (OV.p rfl) (OV.p rfl) (fun hc => by first | omega | (simp at hc; omega))) rfl ?_
          refine WL.val (V.assign (OV.p rfl)) rfl ?_
          refine WL.nil ?_
          refine ⟨rfl, ?_⟩
          first
          | (refine ⟨(i, j + 1, cs), ⟨by show i < j + 1; omega, by show j + 1 ≤ m; omega, hcl', ?_, ?_, ?_⟩, (by show m - (j + 1) < m - j; omega), .cons rfl (.cons rfl (.cons rfl (.cons (look_eq rfl (by simp)) (.nil _)))), fun w h => h⟩
             · show i = ((xs.take (j + 1)).filter fun y => !p y).length
               rw [htj, List.filter_append, hse, List.length_append, ← hi]; rfl
             · show cs.take i = ints .i64 ((xs.take (j + 1)).filter fun y => !p y)
               rw [htj, List.filter_append, hse, List.append_nil, htk]
             · have := congrArg (List.drop 1) hdr
               rwa [List.drop_drop, List.drop_drop] at this)
          | (have hst2 := hst
             refine ⟨(i + 1, j + 1, cs.set (0 + (i : Int).toNat * 1) (.int .i64 (xs.getD j 0))), ⟨by show i + 1 < j + 1; omega, by show j + 1 ≤ m; omega, by rw [List.length_set]; exact hcl', ?_, ?_, ?_⟩, (by show m - (j + 1) < m - j; omega), .cons rfl (.cons rfl (.cons (look_eq rfl (by simp)) (.cons (look_eq rfl (by simp)) (.nil _)))), fun w h => h⟩
             · show i + 1 = ((xs.take (j + 1)).filter fun y => !p y).length
               rw [htj, List.filter_append, hst2, List.length_append, ← hi]; rfl
             · show (cs.set (0 + (i : Int).toNat * 1) (.int .i64 (xs.getD j 0))).take (i + 1) = ints .i64 ((xs.take (j + 1)).filter fun y => !p y)
               rw [htj, List.filter_append, hst2, ints_append, ← htk, show 0 + (i : Int).toNat * 1 = i by omega, List.take_add_one, List.getElem?_set_self (by omega), List.take_set_of_le (by omega)]
               rfl
             · show (cs.set (0 + (i : Int).toNat * 1) (.int .i64 (xs.getD j 0))).drop (j + 1) = (ints .i64 xs ++ rs).drop (j + 1)
               rw [show 0 + (i : Int).toNat * 1 = i by omega, List.drop_set_of_lt (by omega)]
               have := congrArg (List.drop 1) hdr
               rwa [List.drop_drop, List.drop_drop] at this)
      · simp only [decide_eq_true_eq, decide_eq_false_iff_not] at hc1
        refine WC.exit ?_
        refine WC.seq ?_
        refine WC.region ?_
        refine WL.val (V.move (OV.p rfl)) rfl ?_
        refine WL.val (V.move (OV.p rfl)) rfl ?_
        have hje : j = m := by omega
        subst hje
        refine WL.val (V.slice (l := i) (h := j) (u := cap) st40 (OV.p rfl) (OO.some (OV.p rfl) (fun _ => rfl)) OO.none OO.none (by simp) (by omega) (by omega) (Nat.le_refl _)) rfl ?_
        refine WL.clear0 (b := g) (o := i) Try.underlying40 Try.zeroValue3 rfl rfl (OV.p rfl) (fun hq => by rw [if_neg (by omega)]; simp [add_mk]) (Upd.row (by rw [List.length_replicate]; omega)) ?_
        refine WL.nil ?_
        refine WC.seq ?_
        refine WC.region ?_
        refine WL.val (V.move (OV.p rfl)) rfl ?_
        refine WL.val (V.move (OV.p rfl)) rfl ?_
        refine WL.val (V.slice (l := 0) (h := i) (u := cap) st40 (OV.p rfl) OO.none (OO.some (OV.p rfl) (fun _ => rfl)) OO.none (by simp) (by omega) (by omega) (Nat.le_refl _)) rfl ?_
        refine WL.val (V.assign (OV.p rfl)) rfl ?_
        refine WL.nil ?_
        refine WC.ret ?_
        rw [List.take_of_length_le (Nat.le_of_eq hl)] at hi htk
        refine BodyQ.ret (H' := SlA (.slice (some ⟨g, 0, none⟩) i cap) _ 1 i (ints .i64 (xs.filter fun y => !p y)) :: F) (Res.tmp rfl (look_eq rfl (by simp [Addr.add]))) (fun w h => ?_) ⟨i, hi, rfl, rfl⟩
        have hlen : (cs.take i ++ List.replicate (j - i) (Value.int .i64 0) ++ cs.drop (i + (List.replicate (j - i) (Value.int .i64 0)).length)).length = cap := by
          simp only [List.length_append, List.length_take, List.length_replicate, List.length_drop]; omega
        have := hback (xs.filter fun y => !p y) _ w hlen (by omega) (by rw [← hi, List.append_assoc, List.take_left' (by rw [List.length_take]; omega), htk]) h
        rw [← hi] at this
        exact this
end Go.Proofs.Ytgmdagjnigkaaaa
