/- Polynomials over the field: Mul; the conjugates; the least polynomial of a power of w. -/
import Derived.Test.YtohkefolnmcjnaaB2
namespace Go.Proofs.Ytohkefolnmcjnaa
open Go.Sl Go.RowKit
set_option linter.unusedVariables false
set_option linter.unusedSimpArgs false
set_option maxRecDepth 20000

section
variable {K : World} {F : List Assn}
theorem poly_fill {g b2 b3 b5 N cap q cap' m capp : Nat} {A B : Option Addr} {ps qs : List Nat} (hN : ps.length + qs.length = N) (hs : Seq K F A m 1 (nats .i64 ps)) (hq : Seq K F B q 1 (nats .i64 qs)) (hp8 : Small 8192 ps) (hq8 : Small 8192 qs) (hcap : N ≤ 1000000)
    (h2 : Rd K F (some ⟨b2, 0, none⟩) (.slice A m capp)) (h3 : Rd K F (some ⟨b3, 0, none⟩) (.slice B q cap')) (h5 : Rd K F (some ⟨b5, 0, none⟩) (.slice (some ⟨g, 0, none⟩) N cap)) :
    Does Try.prog 90 #[.func (.func 92) #[] #[ptr b5 0], ptr b2 0, ptr b3 0] K (Cells g 3 (List.replicate N (.int .i64 0)) :: F)
      (fun v H' => H' = Cells g 3 (nats .i64 (mulFull ps qs)) :: F) := by
  have hl : ps.length = m := by simpa [nats] using hs.len
  have hql : qs.length = q := by simpa [nats] using hq.len
  refine Does.enter Try.func90 rfl Try.ntmps90 rfl ?_
  simp only [env0, Nat.reduceAdd]
  refine WC.seq ?_
  refine WC.region ?_
  refine WL.val (V.load Try.isAgg39 (OV.p rfl) (fun hc => h2.up)) rfl ?_
  refine WL.val (V.len (t := 39) Try.runUnderlying39 (OV.p rfl)) rfl ?_
  refine WL.val (V.move (OV.p rfl)) rfl ?_
  refine WL.nil ?_
  refine WC.block ?_
  refine WC.loop (σ := Nat) (fun j => [(0, .func (.func 92) #[] #[ptr b5 0]), (2, ptr b3 0), (6, .slice A m capp), (7, .int .i64 (m : Int)), (8, .int .i64 (j : Int))]) (fun j => Cells g 3 (nats .i64 (mulTo ps qs j)) :: F) (fun j => j ≤ m) (fun j => m - j) 0 (Nat.zero_le _) (.cons rfl (.cons rfl (.cons rfl (.cons rfl (.cons rfl (.nil _)))))) (fun w h => Sat.cells_eq h (by rw [mulTo, hN, nats_replicate]; rfl)) ?_
  rintro j hj
  refine WC.seq ?_
  refine WC.region ?_
  refine WL.val (V.lss (OV.p rfl) (OV.p rfl)) rfl ?_
  refine WL.nil ?_
  refine WC.seq ?_
  refine WC.cond rfl (fun hc0 => ?_) (fun hc0 => ?_)
  · simp only [decide_eq_true_eq, decide_eq_false_iff_not] at hc0
    refine WC.skip ?_
    refine WC.seq ?_
    refine WC.block ?_
    refine WC.seq ?_
    have hjm : j < m := by omega
    have hrd2 : Rd K (Cells g 3 (nats .i64 (mulTo ps qs j)) :: F) (A.map (·.add ((j : Int).toNat * 1))) (.int .i64 (ps.getD j 0 : Nat)) := by
      rw [show (j : Int).toNat = j by omega]; exact (hs.nat_rd (by omega)).up
    have hsm := mulTo_small (ps := ps) hq8 j
    refine WC.region ?_
    refine WL.val (V.move (OV.p rfl)) rfl ?_
    refine WL.val (V.idxS st39 (OV.p rfl) (OV.p rfl) (fun hc => by omega) (fun hc => hrd2)) rfl ?_
    refine WL.val (V.load Try.isAgg3 (OV.p rfl) (fun hc => hrd2)) rfl ?_
    refine WL.val (V.assign (OV.p rfl)) rfl ?_
    refine WL.val (V.assign (OV.p rfl)) rfl ?_
    refine WL.nil ?_
    refine WC.region ?_
    refine WL.val (V.move (OV.p rfl)) rfl ?_
    refine WL.val (V.load Try.isAgg39 (OV.p rfl) (fun hc => h3.up)) rfl ?_
    refine WL.val (V.move (OV.p rfl)) rfl ?_
    refine WL.val (V.move (OV.p rfl)) rfl ?_
    refine WL.call (vs := [_, _, _, _]) Try.call91 ⟨OV.p rfl, OV.p rfl, OV.p rfl, OV.p rfl, trivial⟩ (poly_lay (N := N) (cap := cap) (by rw [mulTo_length]; exact hN) hsm hq hq8 (by omega) (hp8.at_ (by decide) j) h5 hcap) rfl ?_
    rintro v1 _ rfl
    refine WL.nil ?_
    refine WC.region ?_
    refine WL.val (V.addI (OV.p rfl) (OV.p rfl) (fun hc => by first | omega | (simp at hc; omega))) rfl ?_
    refine WL.val (V.move (OV.p rfl)) rfl ?_
    refine WL.nil ?_
    refine ⟨rfl, ?_⟩
    exact ⟨j + 1, (by show j + 1 ≤ m; omega), (by show m - (j + 1) < m - j; omega), .cons rfl (.cons rfl (.cons rfl (.cons rfl (.cons (look_eq rfl (by simp)) (.nil _))))), fun w h => Sat.cells_eq h (by rw [mulTo, hql])⟩
  · simp only [decide_eq_true_eq, decide_eq_false_iff_not] at hc0
    refine WC.exit ?_
    obtain rfl : j = m := by omega
    exact BodyQ.normal (H' := Cells g _ _ :: F) (Res.none rfl) (fun w h => Sat.cells_eq h (by unfold mulFull; rw [hl])) rfl
theorem poly_buildMul {b2 b3 N q cap' m capp : Nat} {A B : Option Addr} {ps qs : List Nat} (hN : ps.length + qs.length = N) (hs : Seq K F A m 1 (nats .i64 ps)) (hq : Seq K F B q 1 (nats .i64 qs)) (hp8 : Small 8192 ps) (hq8 : Small 8192 qs) (hcap : N ≤ 1000000)
    (h2 : Rd K F (some ⟨b2, 0, none⟩) (.slice A m capp)) (h3 : Rd K F (some ⟨b3, 0, none⟩) (.slice B q cap')) :
    Does Try.prog 89 #[.int .i64 (N : Int), .func (.func 90) #[] #[ptr b2 0, ptr b3 0]] K F
      (fun v H' => ∃ g, v = .slice (some ⟨g, 0, none⟩) (normLen (mulFull ps qs) N) N ∧ H' = Cells g 3 (nats .i64 (mulFull ps qs)) :: F) := by
  have hml : (mulFull ps qs).length = N := by unfold mulFull; rw [mulTo_length, hN]
  refine Does.enter Try.func89 rfl Try.ntmps89 rfl ?_
  simp only [env0, Nat.reduceAdd]
  refine WC.seq ?_
  refine WC.region ?_
  refine WL.val (V.assign (OV.p rfl)) rfl ?_
  refine WL.nil ?_
  refine WC.seq ?_
  refine WC.region ?_
  refine WL.val (V.move (OV.p rfl)) rfl ?_
  refine WL.make1 (m := N) Try.underlying39 el3 (OV.p rfl) (OV.p rfl) rfl rfl (by omega) rfl rfl rfl (fun b7 => ?_)
  refine WL.alloc (cs := [(.slice none 0 0)]) Try.zeroValue39 rfl rfl (fun b5 => ?_)
  refine WL.store (cs := [_]) Try.sizeOf39 (OV.p rfl) (OV.p rfl) rfl rfl rfl (by repeat (first | exact Upd.here (cs' := [_]) rfl rfl | apply Upd.up)) ?_
  refine WL.nil ?_
  refine WC.seq ?_
  refine WC.region ?_
  refine WL.val (V.move (OV.p rfl)) rfl ?_
  refine WL.val (V.makeFunc (us := []) (vs := [_]) trivial ⟨OV.p rfl, trivial⟩) rfl ?_
  refine WL.sub (Sub.refl _) (fun w h => h.p1) ?_
  refine WL.callV (first := []) (vs := [_]) (captured := [ptr b2 0, ptr b3 0]) Try.call90 (OV.p rfl) ⟨OV.p rfl, trivial⟩ (poly_fill hN hs.up hq.up hp8 hq8 hcap h2.up h3.up (Rd.here rfl)) rfl ?_
  rintro v1 _ rfl
  refine WL.nil ?_
  refine WC.seq ?_
  refine WC.region ?_
  refine WL.val (V.load Try.isAgg39 (OV.p rfl) (fun hc => (Rd.here rfl).up)) rfl ?_
  refine WL.call (vs := [_]) Try.call93 ⟨OV.p rfl, trivial⟩ (poly_norm (xs := mulFull ps qs) (Seq.allN hml) (Nat.le_refl _) hcap) rfl ?_
  rintro _ H0 ⟨rfl, h0⟩
  subst H0
  refine WL.val (V.assign (OV.p rfl)) rfl ?_
  refine WL.nil ?_
  refine WC.ret ?_
  exact BodyQ.ret (H' := Cells b7 _ _ :: F) (Res.tmp rfl rfl) (fun w h => h.drop2) ⟨b7, rfl, rfl⟩
theorem poly_Mul {q cap' m capp : Nat} {A B : Option Addr} {ps qs : List Nat} (hs : Seq K F A m 1 (nats .i64 ps)) (hq : Seq K F B q 1 (nats .i64 qs)) (hp8 : Small 8192 ps) (hq8 : Small 8192 qs) (hcap : ps.length + qs.length ≤ 1000000) :
    Does Try.prog 83 #[.slice A m capp, .slice B q cap'] K F
      (fun v H' => ∃ g, v = .tuple #[.slice (some ⟨g, 0, none⟩) (normLen (mulFull ps qs) (ps.length + qs.length)) (ps.length + qs.length), .int .i64 0] ∧ H' = Cells g 3 (nats .i64 (mulFull ps qs)) :: F) := by
  have hl : ps.length = m := by simpa [nats] using hs.len
  have hql : qs.length = q := by simpa [nats] using hq.len
  refine Does.enter Try.func83 rfl Try.ntmps83 rfl ?_
  simp only [env0, Nat.reduceAdd]
  refine WC.seq ?_
  refine WC.region ?_
  refine WL.box (cs := [_]) (OV.p rfl) rfl rfl (fun b2 => ?_)
  refine WL.box (cs := [_]) (OV.p rfl) rfl rfl (fun b3 => ?_)
  refine WL.val (V.assign (OV.p rfl)) rfl ?_
  refine WL.val (V.assign (OV.p rfl)) rfl ?_
  refine WL.nil ?_
  refine WC.seq ?_
  refine WC.seq ?_
  refine WC.region ?_
  refine WL.val (V.load Try.isAgg39 (OV.p rfl) (fun _ => by repeat (first | exact Rd.here rfl | apply Rd.up))) rfl ?_
  refine WL.val (V.load Try.isAgg39 (OV.p rfl) (fun _ => by repeat (first | exact Rd.here rfl | apply Rd.up))) rfl ?_
  refine WL.buildSlice (E := 39) (cs := [_, _]) (vs := [(0, _), (1, _)]) ⟨OV.p rfl, OV.p rfl, trivial⟩ rfl (bsl119_2_0_1 _ _ _ _ _ _) rfl (fun b8 => ?_)
  refine WL.call (vs := [_]) Try.call88 ⟨OV.p rfl, trivial⟩ (poly_is (ls := [⟨A, m, capp, ps⟩, ⟨B, q, cap', qs⟩]) (fun p hp => by
    rcases List.mem_cons.1 hp with rfl | hp
    · exact ⟨by repeat (first | exact hs | apply Seq.up), hp8, by show m ≤ 1000000; omega⟩
    · rw [List.mem_singleton] at hp; subst hp
      exact ⟨by repeat (first | exact hq | apply Seq.up), hq8, by show q ≤ 1000000; omega⟩) (Seq.all rfl) (by show 2 ≤ 1000; omega)) rfl ?_
  rintro _ H0 ⟨rfl, h0⟩
  subst H0
  refine WL.val (V.not (OV.p rfl)) rfl ?_
  refine WL.nil ?_
  refine WC.condF' rfl (by first | rfl | (simp; done) | (simp; omega)) ?_
  refine WC.skip ?_
  refine WC.seq ?_
  refine WC.region ?_
  refine WL.val (V.load Try.isAgg39 (OV.p rfl) (fun _ => by repeat (first | exact Rd.here rfl | apply Rd.up))) rfl ?_
  refine WL.val (V.len (t := 39) Try.runUnderlying39 (OV.p rfl)) rfl ?_
  refine WL.val (V.load Try.isAgg39 (OV.p rfl) (fun _ => by repeat (first | exact Rd.here rfl | apply Rd.up))) rfl ?_
  refine WL.val (V.len (t := 39) Try.runUnderlying39 (OV.p rfl)) rfl ?_
  refine WL.val (V.val_eq (v' := .int .i64 ((ps.length + qs.length : Nat) : Int)) (V.addI (OV.p rfl) (OV.p rfl) (fun _ => by omega)) (fun _ => by rw [hl, hql]; simp)) rfl ?_
  refine WL.val (V.makeFunc (us := []) (vs := [_, _]) trivial ⟨OV.p rfl, OV.p rfl, trivial⟩) rfl ?_
  refine WL.call (vs := [_, _]) Try.call89 ⟨OV.p rfl, OV.p rfl, trivial⟩ (poly_buildMul (capp := capp) (cap' := cap') rfl (by repeat (first | exact hs | apply Seq.up)) (by repeat (first | exact hq | apply Seq.up)) hp8 hq8 hcap (by repeat (first | exact Rd.here rfl | apply Rd.up)) (by repeat (first | exact Rd.here rfl | apply Rd.up))) rfl ?_
  rintro _ _ ⟨g, rfl, rfl⟩
  refine WL.val (V.assign (OV.p rfl)) rfl ?_
  refine WL.val (V.assign (OV.p rfl)) rfl ?_
  refine WL.nil ?_
  refine WC.ret ?_
  exact BodyQ.ret (H' := Cells g _ _ :: F) (Res.tmp2 rfl rfl rfl) (fun w h => h.sel 4 [0] rfl) ⟨g, rfl, rfl⟩

/-! ### The powers that have the same least polynomial -/
def conj (x : Nat) : Nat → Nat
  | 0 => x
  | k + 1 => gmul (conj x k) (conj x k)
theorem conj_lt {x : Nat} (h : x < 8192) : ∀ k, conj x k < 8192
  | 0 => h
  | k + 1 => gmul_lt (conj_lt h k)
/-- The iterator: k rounds, till the first one comes again. -/
theorem conj_does {r : Option Nat} {σ : Type} {l b1 k : Nat} {i : Int} (hi : -9223372036854775808 ≤ i ∧ i ≤ 9223372036854775807) (hk : 0 < k) (hback : conj (gexp i) k = gexp i) (hno : ∀ j, 0 < j → j < k → conj (gexp i) j ≠ gexp i) (I : Nat → σ → Prop) (M : σ → List Assn) (h1 : ∀ j s, I j s → Rd K (M s) (some ⟨b1, 0, none⟩) (.int .i64 i))
    (hround : ∀ j s, j < k → I j s → YieldsTo Try.prog K none l #[.int .i64 (conj (gexp i) j : Nat)] (M s) (fun b H' => b = true ∧ ∃ s', I (j + 1) s' ∧ H' = M s')) (s0 : σ) (h0 : I 0 s0) :
    Does Try.prog 87 #[.func (.yield l) #[] #[], ptr b1 0] K (M s0) (fun v H' => ∃ s, I k s ∧ H' = M s) := by
  have hlt := fun j => conj_lt (x := gexp i) (gexp_lt i) j
  refine Does.enterY Try.func87 rfl Try.ntmps87 rfl ?_
  simp only [env0, Nat.reduceAdd]
  refine WC.seq ?_
  refine WC.region ?_
  refine WL.val (V.load Try.isAgg3 (OV.p rfl) (fun hc => h1 0 s0 h0)) rfl ?_
  refine WL.call (vs := [_]) Try.call66 ⟨OV.p rfl, trivial⟩ (gf_Exp i hi) rfl ?_
  rintro _ H0 ⟨rfl, h0⟩
  subst H0
  refine WL.val (V.assign (OV.p rfl)) rfl ?_
  refine WL.nil ?_
  refine WC.seq ?_
  refine WC.region ?_
  refine WL.val (V.move (OV.p rfl)) rfl ?_
  refine WL.val (V.assign (OV.p rfl)) rfl ?_
  refine WL.nil ?_
  refine WC.block ?_
  refine WC.loop (σ := Nat × σ) (fun x => [(0, .func (.yield l) #[] #[]), (3, .int .i64 (gexp i : Nat)), (4, .int .i64 (conj (gexp i) x.1 : Nat))]) (fun x => M x.2) (fun x => x.1 < k ∧ I x.1 x.2) (fun x => k - x.1) (0, s0) ⟨hk, h0⟩ (.cons rfl (.cons rfl (.cons rfl (.nil _)))) (fun w h => h) ?_
  rintro ⟨j, s⟩ ⟨hj, hI⟩
  dsimp only at hj hI ⊢
  refine WC.seq ?_
  refine WC.seq ?_
  refine WC.region ?_
  refine WL.val (V.move (OV.p rfl)) rfl ?_
  refine WL.val (V.move (OV.p rfl)) rfl ?_
  refine WL.callY (r := none) (l := l) (vs := [_]) (OV.p rfl) ⟨OV.p rfl, trivial⟩ (hround j s hj hI) rfl ?_
  rintro _ _ ⟨rfl, s', hI', rfl⟩
  refine WL.nil ?_
  refine WC.condT' rfl (by first | rfl | (simp; done) | (simp; omega)) ?_
  refine WC.skip ?_
  refine WC.block ?_
  refine WC.seq ?_
  refine WC.region ?_
  refine WL.val (V.move (OV.p rfl)) rfl ?_
  refine WL.val (V.move (OV.p rfl)) rfl ?_
  refine WL.call (vs := [_, _]) Try.call81 ⟨OV.p rfl, OV.p rfl, trivial⟩ (gf_Mul (hlt j) (hlt j)) rfl ?_
  rintro _ H0 ⟨rfl, h0⟩
  subst H0
  refine WL.val (V.move (OV.p rfl)) rfl ?_
  refine WL.val (V.extract (OV.p rfl) rfl) rfl ?_
  refine WL.val (V.extract (OV.p rfl) rfl) rfl ?_
  refine WL.val (V.assign (OV.p rfl)) rfl ?_
  refine WL.nil ?_
  refine WC.seq ?_
  refine WC.region ?_
  refine WL.val (V.move (OV.p rfl)) rfl ?_
  refine WL.val (V.move (OV.p rfl)) rfl ?_
  refine WL.val (V.eql (OV.p rfl) (OV.p rfl)) rfl ?_
  refine WL.nil ?_
  refine WC.cond rfl (fun hc1 => ?_) (fun hc1 => ?_)
  · simp only [decide_eq_true_eq, decide_eq_false_iff_not] at hc1
    have h2 : (conj (gexp i) (j + 1) = gexp i) ∨ ¬ (conj (gexp i) (j + 1) = gexp i) := Decidable.em _
    have h3 : conj (gexp i) (j + 1) = gexp i := by have := hc1; exact Int.ofNat.inj this
    have h4 : j + 1 = k := by
      rcases Nat.lt_or_ge (j + 1) k with h | h
      · exact absurd h3 (hno (j + 1) (by omega) h)
      · omega
    refine WC.ret ?_
    exact BodyQ.ret (H' := M s') (Res.none rfl) (fun w h => h) ⟨s', by rw [← h4]; exact hI', rfl⟩
  · simp only [decide_eq_true_eq, decide_eq_false_iff_not] at hc1
    have h2 : (conj (gexp i) (j + 1) = gexp i) ∨ ¬ (conj (gexp i) (j + 1) = gexp i) := Decidable.em _
    have h3 : ¬ conj (gexp i) (j + 1) = gexp i := fun h => hc1 (congrArg Int.ofNat h)
    have h4 : j + 1 < k := by
      rcases Nat.lt_or_ge (j + 1) k with h | h
      · exact h
      · have : j + 1 = k := by omega
        rw [this] at h3; exact absurd hback h3
    refine WC.skip ?_
    refine ⟨rfl, ?_⟩
    exact ⟨(j + 1, s'), ⟨h4, hI'⟩, (by show k - (j + 1) < k - j; omega), .cons rfl (.cons rfl (.cons rfl (.nil _))), fun w h => h⟩
end
end Go.Proofs.Ytohkefolnmcjnaa
