import Derived.Test.YtcedojacbhnbiaaGreatP26
import Derived.Test.YtcedojacbhnbiaaGreatP19
import Derived.Test.YtcedojacbhnbiaaGreatP7
import Derived.Scope
namespace Go.Proofs.YtcedojacbhnbiaaGreat
open Go.Sl Go.RowKit
set_option linter.unusedVariables false
set_option linter.unusedSimpArgs false
set_option maxRecDepth 20000
def St.drop (T : St) (aI : Int) : St := { T with stands := T.stands.set aI.toNat (-1), stale := T.stale.set aI.toNat [] }
section
variable {bs bd bc : Nat} {g : Geo} {T : bI} {C : Cw} {K : World} {F : List au}
end
theorem tL {S : ak} (hg : S.g.aF) (hu : S.up = true) : S.jF = 0 := by
  unfold Geo.aF at hg
  have e1 : ¬ ((0 : Int) < 0 ∨ S.g.bl ≤ 0 ∨ (0 : Int) < 0 ∨ S.g.pg ≤ 0 ∨ (decide ((0 : Int) ≤ 0) && decide (0 ≤ S.g.pg)) = false) := by
    simp; omega
  have e2 : S.ahead 0 0 (decide ((0 : Int) ≤ 0) && decide (0 ≤ S.g.pg)) = if S.bad 0 = true then 73 else 0 := by
    unfold ak.ahead
    rw [if_neg (by rw [hu]; decide), if_neg e1]
  unfold ak.jF ak.jg
  rw [e2]
  cases S.bad 0 <;> rfl
section
variable {K : World} {F : List au}
end
namespace ak
theorem kD {S : ak} (h : S.left = 0) : S.deed = S := by
  unfold deed cut
  rw [h]
  obtain ⟨a, b, c, d, e, f, g, up, l, k⟩ := S
  dsimp only at h
  subst h
  simp
theorem BQ {S : ak} {b p : Int} (h : 0 ≤ b ∧ b < S.g.bl ∧ 0 ≤ p ∧ p < S.g.pg) : S.page b p = true := by
  unfold page block
  simp; omega
theorem uy {S : ak} {b : Int} (h : 0 ≤ b ∧ b < S.g.bl) : S.block b = true := by
  unfold block
  simp; omega
theorem oJ {S : ak} {b p : Int} (hu : S.up = true) (h : 0 ≤ b ∧ b < S.g.bl ∧ 0 ≤ p ∧ p < S.g.pg) (hm : S.marked b = false) : S.ahead b p true = 0 := by
  unfold ahead bad
  rw [if_neg (by rw [hu]; decide), if_neg (fun hh => by rcases hh with h | h | h | h | h <;> first | omega | cases h), hm, Bool.and_false, if_neg (by decide)]
section
variable {S : ak} {b p : Int} {d : List Nat}
theorem JV (hg : S.g.aF) (h8 : Small 256 d) (hl : d.length = S.room) : ((bq (cK S.g d)).length : Int) = S.raw := by
  have hN := nY.of (bl := S.g.bl) (pg := S.g.pg) (by rw [← gT hg]; exact hg)
  unfold cK bq
  rw [List.length_map, nA hN.t h8 hl]
  exact (Geo.nP hg).symm
theorem EP (hu : S.up = true) (h : 0 ≤ b ∧ b < S.g.bl ∧ 0 ≤ p ∧ p < S.g.pg) (hm : S.marked b = false) (hl : d.length = S.room) : S.bM b p d = done b (S.program b p (bq (cK S.g d))) := by
  have e : decide (d.length = S.room) = true := decide_eq_true hl
  unfold bM
  rw [e, if_neg (by rw [oJ hu h hm]; decide)]
theorem A9 {xs : List Nat} (hp : S.pages (b, p) = some (bq xs)) (hw : S.wrong (b, p) = none) : S.fU b p = xs := by
  unfold fU reads
  rw [hp, hw]
  exact jy xs
theorem FJ (hg : S.g.aF) (hu : S.up = true) (h : 0 ≤ b ∧ b < S.g.bl ∧ 0 ≤ p ∧ p < S.g.pg) (hm : S.marked b = false) (h8 : Small 256 d) (hl : d.length = S.room) (hp : S.pages (b, p) = some (bq (cK S.g d))) (hw : S.wrong (b, p) = none) :
    S.bB b p = ⟨0, d, 0⟩ := by
  have hN := nY.of (bl := S.g.bl) (pg := S.g.pg) (by rw [← gT hg]; exact hg)
  unfold bB
  rw [if_neg (by rw [oJ hu h hm]; decide), A9 hp hw]
  unfold cK
  rw [Jd hN.t h8 hl]
  rfl
theorem Jk {t S n : Nat} {raw : List Nat} (h : raw.getD (S * n) 0 = 255) : dN t S n raw = 60 ∨ dN t S n raw = 61 := by
  unfold dN
  rw [h, if_neg (by decide), if_neg (fun h => h rfl)]
  split
  · exact .inl rfl
  · exact .inr rfl
end
end ak
theorem WC.scope {ds : List Deferred} {P : Program} {K : World} {n : Nat} {c : Code} {Q : Post} {e : Env} {H : List au} (hQ : ∀ M l e H, Q M (.goto l) e H → False) (h : WC ⟨none, ds⟩ P K n c Q e H) : WC ⟨none, ds⟩ P K n (.scope c) Q e H := fun a w ha hw =>
  wp_scope_straight (wp_mono (h a w ha hw) (fun x a w hx => by
    cases x <;> first | exact hx | (obtain ⟨_, _, _, _, _, h3⟩ := hx; exact hQ _ _ _ _ h3)))
def nS (slot seg : Int) : Bool := (decide (slot = 0) || decide (slot = 1)) && decide (-1 ≤ seg) && decide (seg ≤ 3)
def xQ (slot seg : Int) : Int × Int := if nS slot seg then (2 + 5 * slot + seg, 0) else (0, 1)
theorem oL (slot seg : Int) (K : World) (F : List au) : aG Tryz.prog 23 #[.int .i64 slot, .int .i64 seg] K F (.tuple #[.int .i64 (xQ slot seg).1, .int .i64 (xQ slot seg).2]) := by
  obtain ⟨X, hX⟩ : ∃ X, X = xQ slot seg := ⟨_, rfl⟩
  rw [← hX]
  unfold xQ nS at hX
  refine Does.enter Tryz.func23 rfl Tryz.ntmps23 rfl ?_
  simp only [aJ, Nat.reduceAdd]
  refine WC.sr (WL.sg rfl rfl (WL.sg rfl rfl (WL.nil (WC.seq (WC.sr (WL.mv rfl rfl (WL.val (V.neq (OV.p rfl) (OV.p rfl)) rfl (WL.mv rfl rfl (WL.ah (oj := _) rfl rfl rfl GC.t (V.move (OV.p rfl)) rfl (WL.ah (oj := _) rfl rfl rfl GC.t (V.neq (OV.g rfl id) (OV.p rfl)) rfl (WL.val (V.aD (OV.p rfl) (OV.g rfl id)) rfl (WL.mv rfl rfl (WL.ah (oj := _) rfl rfl rfl GC.f (V.move (OV.p rfl)) rfl (WL.ah (oj := _) rfl rfl rfl GC.f (V.lss (OV.g rfl id) (OV.p rfl)) rfl (WL.val (V.aS (OV.p rfl) (OV.g rfl id)) rfl (WL.mv rfl rfl (WL.ah (oj := _) rfl rfl rfl GC.f (V.move (OV.p rfl)) rfl (WL.ah (oj := _) rfl rfl rfl GC.f (V.geq (OV.g rfl id) (OV.p rfl)) rfl (WL.val (V.aS (OV.p rfl) (OV.g rfl id)) rfl (WL.nil ?_))))))))))))))))))))
  refine WC.cond rfl (fun hc0 => ?_) (fun hc0 => ?_)
  ·simp only [Bool.or_eq_true, Bool.or_eq_false_iff, Bool.and_eq_true, Bool.and_eq_false_iff, decide_eq_true_eq, decide_eq_false_iff_not, Bool.not_eq_true', Bool.not_eq_false'] at hc0
   rw [if_neg (by simp; omega)] at hX
   refine WC.sr (WL.sg rfl rfl (WL.sg rfl rfl (WL.nil (WC.ret ?_))))
   subst hX
   exact aj.ret (H' := F) (aL.dJ rfl rfl rfl) (fun w h => by repeat (first | exact h | replace h := h.tail)) ⟨rfl, rfl⟩
  ·simp only [Bool.or_eq_true, Bool.or_eq_false_iff, Bool.and_eq_true, Bool.and_eq_false_iff, decide_eq_true_eq, decide_eq_false_iff_not, Bool.not_eq_true', Bool.not_eq_false'] at hc0
   rw [if_pos (by simp; omega)] at hX
   refine WC.skip (WC.sr (WL.mv rfl rfl ?_))
   refine WL.val (V.jQ (OV.p rfl) (OV.p rfl) (fun hc => by first | omega | (simp at hc; omega))) rfl ?_
   refine WL.ad rfl rfl rfl ?_
   refine WL.ad rfl rfl rfl ?_
   refine WL.mv rfl rfl (WL.ad rfl rfl rfl ?_)
   refine WL.sg rfl rfl (WL.sg rfl rfl (WL.nil (WC.ret ?_)))
   subst hX
   refine aj.ret (H' := F) (aL.dJ rfl rfl rfl) (fun w h => by repeat (first | exact h | replace h := h.tail)) ⟨?_, rfl⟩
   dsimp only
   rw [show (1 + slot * 5 + 1 + seg : Int) = 2 + 5 * slot + seg by omega]
def lQ (S : ak) (T : St) : bW × Int × St :=
  if (fC S T 0).1.err = 70 then (bW.zero, 70, (fC S T 0).2)
  else if (fC S T 0).1.err = 0 ∧ (bW.parse (bq (fC S T 0).1.d)).2 = 0 then ((bW.parse (bq (fC S T 0).1.d)).1, 0, (fC S T 0).2)
  else (bW.zero, 0, (fC S T 0).2)
theorem Cw.Ok.pE {C : Cw} (hC : C.Ok) (b : Int) (n0 : Nat) : ∀ k, Small 256 (eD C.sem b n0 k).d
  | 0 => fun y hy => by cases hy
  | k + 1 => by
    rw [eD]
    split
    · exact hC.pE b n0 k
    · split
      · exact fun y hy => by cases hy
      · exact (hC.pE b n0 k).append (hC.kU _ _).1
theorem Cw.Ok.CZ {C : Cw} (hC : C.Ok) (T : St) (aI : Int) : Small 256 (fC C.sem T aI).1.d := by
  unfold fC
  repeat (split; exact fun y hy => by cases hy)
  exact (hC.pE _ _ _).take
section
variable {bs bd bc : Nat} {g : Geo} {T : bI} {C : Cw} {K : World} {F : List au}
theorem vI : aG Tryz.prog 24 #[.pointer none] K F (.tuple #[bW.zero.v, .int .i64 3]) := by
  refine Does.enter Tryz.func24 rfl Tryz.ntmps24 rfl ?_
  simp only [aJ, Nat.reduceAdd]
  refine WC.sr ?_
  refine WL.alloc (cs := [(.int .i64 0), (.int .i64 0), (.bool false), (.int .i64 0), (.bool false)]) Tryz.zeroValue58 rfl rfl (fun b2 => ?_)
  refine WL.sg rfl rfl (WL.nil (WC.seq (WC.block (WC.sr (WL.mv rfl rfl (WL.val (V.ku Tryz.underlying28 (OV.p rfl) (OV.p rfl)) rfl (WL.sg rfl rfl (WL.nil ?_))))))))
  refine WC.bU rfl (by first | rfl | (simp; done) | (simp; omega)) ?_
  refine WC.sr (WL.val (V.build (vs := []) trivial rfl (zl )) rfl ?_)
  refine WL.store (cs := [_, _, _, _, _]) Tryz.sizeOf58 (OV.p rfl) (OV.p rfl) rfl rfl rfl (by repeat (first | exact aQ.here (cs' := [_, _, _, _, _]) rfl rfl | apply aQ.up)) ?_
  refine WL.sg rfl rfl (WL.nil (WC.ret ?_))
  exact aj.ret (H' := F) (aL.two rfl (R1.gF (vs := [_, _, _, _, _]) rfl ⟨Tryz.isAgg58, Tryz.sizeOf58⟩ rfl (by repeat (first | exact aT.gets ⟨rfl, rfl, rfl, rfl, rfl, trivial⟩ | apply aT.up))) (R1.tmp rfl)) (fun w h => by repeat (first | exact h | replace h := h.tail)) ⟨rfl, rfl⟩
theorem om (hl : (T.stands.length : Int) < 11) : aG Tryz.prog 24 #[ptr bs 0] K (T.A bs bd g :: F) (.tuple #[bW.zero.v, .int .i64 1]) := by
  refine Does.enter Tryz.func24 rfl Tryz.ntmps24 rfl ?_
  simp only [aJ, Nat.reduceAdd]
  refine WC.sr ?_
  refine WL.alloc (cs := [(.int .i64 0), (.int .i64 0), (.bool false), (.int .i64 0), (.bool false)]) Tryz.zeroValue58 rfl rfl (fun b2 => ?_)
  refine WL.sg rfl rfl (WL.nil (WC.seq (WC.block (WC.sr (WL.mv rfl rfl (WL.val (V.ku Tryz.underlying28 (OV.p rfl) (OV.p rfl)) rfl (WL.sg rfl rfl (WL.nil ?_))))))))
  refine WC.aM rfl (by first | rfl | (simp; done) | (simp; omega)) ?_
  refine WC.sr (WL.mv rfl rfl ?_)
  refine WL.sub (Sub.refl _) (fun w h => h.sel 2 [1, 0] rfl) ?_
  refine WL.call (vs := [_]) Tryz.call87 ⟨OV.p rfl, trivial⟩ (yF) rfl ?_
  rintro _ _ ⟨rfl, rfl⟩
  refine WL.val (V.lss (OV.p rfl) (OV.p rfl)) rfl (WL.sg rfl rfl (WL.nil ?_))
  refine WC.bU rfl ((by simp; omega)) ?_
  refine WC.sr (WL.val (V.build (vs := []) trivial rfl (zl )) rfl ?_)
  refine WL.store (cs := [_, _, _, _, _]) Tryz.sizeOf58 (OV.p rfl) (OV.p rfl) rfl rfl rfl (by repeat (first | exact aQ.here (cs' := [_, _, _, _, _]) rfl rfl | apply aQ.up)) ?_
  refine WL.sg rfl rfl (WL.nil (WC.ret ?_))
  exact aj.ret (H' := T.A bs bd g :: F) (aL.two rfl (R1.gF (vs := [_, _, _, _, _]) rfl ⟨Tryz.isAgg58, Tryz.sizeOf58⟩ rfl (by repeat (first | exact aT.gets ⟨rfl, rfl, rfl, rfl, rfl, trivial⟩ | apply aT.up))) (R1.tmp rfl)) (fun w h => h.sel 2 [0] rfl) ⟨rfl, rfl⟩
theorem nE (hC : C.Ok) (hg : C.g = g) (hT : T.Ok g) (hl : 11 ≤ (T.stands.length : Int)) : Does Tryz.prog 24 #[ptr bs 0] K (C.A bc :: bQ bd bc g :: T.A bs bd g :: F)
    (fun v H' => ∃ T' : bI, T'.Ok g ∧ T'.sem = (lQ C.sem T.sem).2.2 ∧ v = .tuple #[(lQ C.sem T.sem).1.v, .int .i64 (lQ C.sem T.sem).2.1] ∧ H' = C.A bc :: bQ bd bc g :: T'.A bs bd g :: F) := by
  obtain ⟨X, hX⟩ : ∃ X, X = lQ C.sem T.sem := ⟨_, rfl⟩
  rw [← hX]
  unfold lQ at hX
  have hsm := hC.CZ T.sem 0
  refine Does.enter Tryz.func24 rfl Tryz.ntmps24 rfl ?_
  simp only [aJ, Nat.reduceAdd]
  refine WC.sr ?_
  refine WL.alloc (cs := [(.int .i64 0), (.int .i64 0), (.bool false), (.int .i64 0), (.bool false)]) Tryz.zeroValue58 rfl rfl (fun b2 => ?_)
  refine WL.sg rfl rfl (WL.nil (WC.seq (WC.block (WC.sr (WL.mv rfl rfl (WL.val (V.ku Tryz.underlying28 (OV.p rfl) (OV.p rfl)) rfl (WL.sg rfl rfl (WL.nil ?_))))))))
  refine WC.aM rfl (by first | rfl | (simp; done) | (simp; omega)) ?_
  refine WC.sr (WL.mv rfl rfl ?_)
  refine WL.sub (Sub.refl _) (fun w h => h.sel 4 [3, 1, 2, 0] rfl) ?_
  refine WL.call (vs := [_]) Tryz.call87 ⟨OV.p rfl, trivial⟩ (yF) rfl ?_
  rintro _ _ ⟨rfl, rfl⟩
  refine WL.sub (Sub.refl _) (fun w h => h.sel 4 [1, 2, 0, 3] rfl) ?_
  refine WL.val (V.lss (OV.p rfl) (OV.p rfl)) rfl (WL.sg rfl rfl (WL.nil ?_))
  refine WC.aM rfl ((by simp; omega)) ?_
  refine WC.skip (WC.sr (WL.mv rfl rfl (WL.call (vs := [_, _]) Tryz.call26 ⟨OV.p rfl, OV.p rfl, trivial⟩ (F6 hC hg hT 0) rfl ?_)))
  rintro _ _ ⟨A1, c1, T1, hT1, t1, rfl, rfl⟩
  obtain ⟨R, hR⟩ : ∃ R, R = fC C.sem T.sem 0 := ⟨_, rfl⟩
  rw [← hR] at t1 hX hsm ⊢
  refine WL.mv rfl rfl (WL.xt rfl rfl rfl (WL.xt rfl rfl rfl (WL.xt rfl rfl rfl (WL.sg rfl rfl (WL.sg rfl rfl (WL.sg rfl rfl (WL.nil (WC.seq (WC.sr (WL.mv rfl rfl (WL.val (V.eql (OV.p rfl) (OV.p rfl)) rfl (WL.nil ?_))))))))))))
  refine WC.cond rfl (fun hc2 => ?_) (fun hc2 => ?_)
  ·simp only [decide_eq_true_eq, decide_eq_false_iff_not, Bool.and_eq_true, Bool.or_eq_true, Bool.and_eq_false_iff, Bool.or_eq_false_iff, Bool.not_eq_true', Bool.not_eq_false', Bool.not_eq_true, Bool.not_eq_false, Int.not_lt, Int.not_le] at hc2
   have h2 := hc2
   rw [if_pos h2] at hX
   refine WC.sr (WL.val (V.build (vs := []) trivial rfl (zl )) rfl (WL.mv rfl rfl ?_))
   refine WL.store (cs := [_, _, _, _, _]) Tryz.sizeOf58 (OV.p rfl) (OV.p rfl) rfl rfl rfl (by repeat (first | exact aQ.here (cs' := [_, _, _, _, _]) rfl rfl | apply aQ.up)) ?_
   refine WL.sg rfl rfl (WL.nil (WC.ret ?_))
   subst hX
   refine aj.ret (H' := C.A bc :: bQ bd bc g :: T1.A bs bd g :: F) (aL.two rfl (R1.gF (vs := [_, _, _, _, _]) rfl ⟨Tryz.isAgg58, Tryz.sizeOf58⟩ rfl (by repeat (first | exact aT.gets ⟨rfl, rfl, rfl, rfl, rfl, trivial⟩ | apply aT.up))) (R1.tmp rfl)) (fun w h => h.sel 5 [1, 2, 3] rfl) ⟨T1, hT1, t1, by rw [h2]; rfl, rfl⟩
  ·simp only [decide_eq_true_eq, decide_eq_false_iff_not, Bool.and_eq_true, Bool.or_eq_true, Bool.and_eq_false_iff, Bool.or_eq_false_iff, Bool.not_eq_true', Bool.not_eq_false', Bool.not_eq_true, Bool.not_eq_false, Int.not_lt, Int.not_le] at hc2
   have h2 := hc2
   rw [if_neg h2] at hX
   refine WC.skip (WC.seq (WC.sr (WL.mv rfl rfl ?_)))
   refine WL.call (vs := [_]) Tryz.call88 ⟨OV.p rfl, trivial⟩ (DC (xs := bq R.1.d) (jU hsm) _ _ (by rw [← lI]; exact bC.seq (by rw [aH, Nat.mul_one]))) rfl ?_
   rintro _ H0 ⟨rfl, h0⟩
   subst H0
   refine WL.mv rfl rfl (WL.xt rfl rfl rfl (WL.xt rfl rfl rfl ?_))
   refine WL.alloc (cs := [(.int .i64 0), (.int .i64 0), (.bool false), (.int .i64 0), (.bool false)]) Tryz.zeroValue58 rfl rfl (fun b7 => ?_)
   refine WL.store (cs := [_, _, _, _, _]) Tryz.sizeOf58 (OV.p rfl) (OV.p rfl) rfl rfl rfl (by repeat (first | exact aQ.here (cs' := [_, _, _, _, _]) rfl rfl | apply aQ.up)) ?_
   refine WL.sg rfl rfl (WL.nil (WC.sr (WL.mv rfl rfl (WL.val (V.eql (OV.p rfl) (OV.p rfl)) rfl (WL.mv rfl rfl (WL.ah (oj := _) rfl rfl rfl GC.t (V.move (OV.p rfl)) rfl (WL.ah (oj := _) rfl rfl rfl GC.t (V.eql (OV.g rfl id) (OV.p rfl)) rfl (WL.val (V.aD (OV.p rfl) (OV.g rfl id)) rfl (WL.nil ?_)))))))))
   refine WC.cond rfl (fun hc3 => ?_) (fun hc3 => ?_)
   ·simp only [decide_eq_true_eq, decide_eq_false_iff_not, Bool.and_eq_true, Bool.or_eq_true, Bool.and_eq_false_iff, Bool.or_eq_false_iff, Bool.not_eq_true', Bool.not_eq_false', Bool.not_eq_true, Bool.not_eq_false, Int.not_lt, Int.not_le] at hc3
    have h3 := hc3
    rw [if_pos h3] at hX
    refine WC.sr ?_
    refine WL.val (V.aU (vs := [_, _, _, _, _]) ⟨Tryz.isAgg58, Tryz.sizeOf58⟩ (OV.p rfl) rfl (fun _ => by repeat (first | exact aT.gets ⟨rfl, rfl, rfl, rfl, rfl, trivial⟩ | apply aT.up))) rfl ?_
    refine WL.store (cs := [_, _, _, _, _]) Tryz.sizeOf58 (OV.p rfl) (OV.p rfl) rfl rfl rfl (by repeat (first | exact aQ.here (cs' := [_, _, _, _, _]) rfl rfl | apply aQ.up)) ?_
    refine WL.sg rfl rfl (WL.nil (WC.ret ?_))
    subst hX
    refine aj.ret (H' := C.A bc :: bQ bd bc g :: T1.A bs bd g :: F) (aL.two rfl (R1.gF (vs := [_, _, _, _, _]) rfl ⟨Tryz.isAgg58, Tryz.sizeOf58⟩ rfl (by repeat (first | exact aT.gets ⟨rfl, rfl, rfl, rfl, rfl, trivial⟩ | apply aT.up))) (R1.tmp rfl)) (fun w h => h.sel 6 [2, 3, 4] rfl) ⟨T1, hT1, t1, rfl, rfl⟩
   ·simp only [decide_eq_true_eq, decide_eq_false_iff_not, Bool.and_eq_true, Bool.or_eq_true, Bool.and_eq_false_iff, Bool.or_eq_false_iff, Bool.not_eq_true', Bool.not_eq_false', Bool.not_eq_true, Bool.not_eq_false, Int.not_lt, Int.not_le] at hc3
    have h3 := hc3
    rw [if_neg (by omega)] at hX
    refine WC.skip (WC.sr (WL.call (vs := []) Tryz.call89 trivial (EW _ _) rfl ?_))
    rintro _ H0 ⟨rfl, h0⟩
    subst H0
    refine WL.store (cs := [_, _, _, _, _]) Tryz.sizeOf58 (OV.p rfl) (OV.p rfl) rfl rfl rfl (by repeat (first | exact aQ.here (cs' := [_, _, _, _, _]) rfl rfl | apply aQ.up)) ?_
    refine WL.sg rfl rfl (WL.nil (WC.ret ?_))
    subst hX
    refine aj.ret (H' := C.A bc :: bQ bd bc g :: T1.A bs bd g :: F) (aL.two rfl (R1.gF (vs := [_, _, _, _, _]) rfl ⟨Tryz.isAgg58, Tryz.sizeOf58⟩ rfl (by repeat (first | exact aT.gets ⟨rfl, rfl, rfl, rfl, rfl, trivial⟩ | apply aT.up))) (R1.tmp rfl)) (fun w h => h.sel 6 [2, 3, 4] rfl) ⟨T1, hT1, t1, rfl, rfl⟩
end
abbrev BK (e : Int) : Value := .agg #[.int .i64 0, .int .i64 0, .int .i64 0, .slice none 0 0, .int .i64 e]
theorem CB {s : bW} (ho : s.order = []) (K : World) (F : List au) : Does Tryz.prog 67 #[s.v] K F (fun v H' => ∃ A cap, v = .tuple #[.slice A 0 cap, .int .i64 s.GJ] ∧ H' = bC (.slice A 0 cap) 3 1 0 [] :: F) := by
  have h := EI s K F
  rw [ho] at h
  exact h
section
variable {bs bd bc : Nat} {g : Geo} {T : bI} {C : Cw} {K : World} {F : List au} {A : Option Addr} {m cap : Nat}
theorem zF (fuse : Int) : aG Tryz.prog 17 #[.pointer none, .slice A m cap, .int .i64 fuse] K F (BK 3) := by
  refine Does.enter Tryz.func17 rfl Tryz.ntmps17 rfl ?_
  simp only [aJ, Nat.reduceAdd]
  refine WC.sr ?_
  refine WL.alloc (cs := [(.int .i64 0), (.int .i64 0), (.int .i64 0), (.slice none 0 0), (.int .i64 0)]) Tryz.zeroValue37 rfl rfl (fun b6 => ?_)
  refine WL.nil ?_
  refine WC.scope (fun _ _ _ _ h => h) ?_
  refine WC.sr (WL.mv rfl rfl (WL.call (vs := [_]) Tryz.call24 ⟨OV.p rfl, trivial⟩ (vI) rfl ?_))
  rintro _ H0 ⟨rfl, h0⟩
  subst H0
  refine WL.mv rfl rfl (WL.xt rfl rfl rfl (WL.xt rfl rfl rfl ?_))
  refine WL.alloc (cs := [(.int .i64 0), (.int .i64 0), (.bool false), (.int .i64 0), (.bool false)]) Tryz.zeroValue58 rfl rfl (fun b7 => ?_)
  refine WL.store (cs := [_, _, _, _, _]) Tryz.sizeOf58 (OV.p rfl) (OV.p rfl) rfl rfl rfl (by repeat (first | exact aQ.here (cs' := [_, _, _, _, _]) rfl rfl | apply aQ.up)) ?_
  refine WL.sg rfl rfl (WL.nil (WC.seq (WC.sr (WL.mv rfl rfl (WL.val (V.neq (OV.p rfl) (OV.p rfl)) rfl (WL.nil ?_))))))
  refine WC.bU rfl (by first | rfl | (simp; done) | (simp; omega)) ?_
  refine WC.sr (WL.mv rfl rfl (WL.val (V.build (vs := [(4, _)]) ⟨OV.p rfl, trivial⟩ rfl (xH _)) rfl ?_))
  refine WL.store (cs := [_, _, _, _, _]) Tryz.sizeOf37 (OV.p rfl) (OV.p rfl) rfl rfl rfl (by repeat (first | exact aQ.here (cs' := [_, _, _, _, _]) rfl rfl | apply aQ.up)) ?_
  refine WL.nil (WC.ret ?_)
  exact aj.ret (H' := F) (aL.one rfl (R1.gF (vs := [_, _, _, _, _]) rfl ⟨Tryz.isAgg37, Tryz.sizeOf37⟩ rfl (by repeat (first | exact aT.gets ⟨rfl, rfl, rfl, rfl, rfl, trivial⟩ | apply aT.up)))) (fun w h => by repeat (first | exact h | replace h := h.tail)) ⟨rfl, rfl⟩
theorem Gu (hl : (T.stands.length : Int) < 11) (fuse : Int) : aG Tryz.prog 17 #[ptr bs 0, .slice A m cap, .int .i64 fuse] K (T.A bs bd g :: F) (BK 1) := by
  refine Does.enter Tryz.func17 rfl Tryz.ntmps17 rfl ?_
  simp only [aJ, Nat.reduceAdd]
  refine WC.sr ?_
  refine WL.alloc (cs := [(.int .i64 0), (.int .i64 0), (.int .i64 0), (.slice none 0 0), (.int .i64 0)]) Tryz.zeroValue37 rfl rfl (fun b6 => ?_)
  refine WL.nil ?_
  refine WC.scope (fun _ _ _ _ h => h) ?_
  refine WC.sr (WL.mv rfl rfl ?_)
  refine WL.sub (Sub.refl _) (fun w h => h.sel 2 [1, 0] rfl) ?_
  refine WL.call (vs := [_]) Tryz.call24 ⟨OV.p rfl, trivial⟩ (om hl) rfl ?_
  rintro _ _ ⟨rfl, rfl⟩
  refine WL.mv rfl rfl (WL.xt rfl rfl rfl (WL.xt rfl rfl rfl ?_))
  refine WL.alloc (cs := [(.int .i64 0), (.int .i64 0), (.bool false), (.int .i64 0), (.bool false)]) Tryz.zeroValue58 rfl rfl (fun b7 => ?_)
  refine WL.store (cs := [_, _, _, _, _]) Tryz.sizeOf58 (OV.p rfl) (OV.p rfl) rfl rfl rfl (by repeat (first | exact aQ.here (cs' := [_, _, _, _, _]) rfl rfl | apply aQ.up)) ?_
  refine WL.sg rfl rfl (WL.nil (WC.seq (WC.sr (WL.mv rfl rfl (WL.val (V.neq (OV.p rfl) (OV.p rfl)) rfl (WL.nil ?_))))))
  refine WC.bU rfl (by first | rfl | (simp; done) | (simp; omega)) ?_
  refine WC.sr (WL.mv rfl rfl (WL.val (V.build (vs := [(4, _)]) ⟨OV.p rfl, trivial⟩ rfl (xH _)) rfl ?_))
  refine WL.store (cs := [_, _, _, _, _]) Tryz.sizeOf37 (OV.p rfl) (OV.p rfl) rfl rfl rfl (by repeat (first | exact aQ.here (cs' := [_, _, _, _, _]) rfl rfl | apply aQ.up)) ?_
  refine WL.nil (WC.ret ?_)
  exact aj.ret (H' := T.A bs bd g :: F) (aL.one rfl (R1.gF (vs := [_, _, _, _, _]) rfl ⟨Tryz.isAgg37, Tryz.sizeOf37⟩ rfl (by repeat (first | exact aT.gets ⟨rfl, rfl, rfl, rfl, rfl, trivial⟩ | apply aT.up)))) (fun w h => h.sel 3 [1] rfl) ⟨rfl, rfl⟩
theorem xU (hC : C.Ok) (hg : C.g = g) (hT : T.Ok g) (hl : 11 ≤ (T.stands.length : Int)) (ho : (lQ C.sem T.sem).1.order = []) (fuse : Int) : Does Tryz.prog 17 #[ptr bs 0, .slice A m cap, .int .i64 fuse] K (C.A bc :: bQ bd bc g :: T.A bs bd g :: F)
    (fun v H' => ∃ T' : bI, T'.Ok g ∧ T'.sem = (lQ C.sem T.sem).2.2 ∧ v = BK (if (lQ C.sem T.sem).2.1 ≠ 0 then (lQ C.sem T.sem).2.1 else 240) ∧ H' = C.A bc :: bQ bd bc g :: T'.A bs bd g :: F) := by
  obtain ⟨X, hX⟩ : ∃ X, X = lQ C.sem T.sem := ⟨_, rfl⟩
  rw [← hX] at ho ⊢
  refine Does.enter Tryz.func17 rfl Tryz.ntmps17 rfl ?_
  simp only [aJ, Nat.reduceAdd]
  refine WC.sr ?_
  refine WL.alloc (cs := [(.int .i64 0), (.int .i64 0), (.int .i64 0), (.slice none 0 0), (.int .i64 0)]) Tryz.zeroValue37 rfl rfl (fun b6 => ?_)
  refine WL.nil ?_
  refine WC.scope (fun _ _ _ _ h => h) ?_
  refine WC.sr (WL.mv rfl rfl ?_)
  refine WL.sub (Sub.refl _) (fun w h => h.sel 4 [1, 2, 3, 0] rfl) ?_
  refine WL.call (vs := [_]) Tryz.call24 ⟨OV.p rfl, trivial⟩ (nE hC hg hT hl) rfl ?_
  rintro _ _ ⟨T1, hT1, t1, rfl, rfl⟩
  rw [← hX] at t1 ⊢
  refine WL.mv rfl rfl (WL.xt rfl rfl rfl (WL.xt rfl rfl rfl ?_))
  refine WL.alloc (cs := [(.int .i64 0), (.int .i64 0), (.bool false), (.int .i64 0), (.bool false)]) Tryz.zeroValue58 rfl rfl (fun b7 => ?_)
  refine WL.store (cs := [_, _, _, _, _]) Tryz.sizeOf58 (OV.p rfl) (OV.p rfl) rfl rfl rfl (by repeat (first | exact aQ.here (cs' := [_, _, _, _, _]) rfl rfl | apply aQ.up)) ?_
  refine WL.sg rfl rfl (WL.nil (WC.seq (WC.sr (WL.mv rfl rfl (WL.val (V.neq (OV.p rfl) (OV.p rfl)) rfl (WL.nil ?_))))))
  refine WC.cond rfl (fun hc0 => ?_) (fun hc0 => ?_)
  ·simp only [decide_eq_true_eq, decide_eq_false_iff_not, Bool.and_eq_true, Bool.or_eq_true, Bool.and_eq_false_iff, Bool.or_eq_false_iff, Bool.not_eq_true', Bool.not_eq_false', Bool.not_eq_true, Bool.not_eq_false, Int.not_lt, Int.not_le] at hc0
   have h0 := hc0
   refine WC.sr (WL.mv rfl rfl (WL.val (V.build (vs := [(4, _)]) ⟨OV.p rfl, trivial⟩ rfl (xH _)) rfl ?_))
   refine WL.store (cs := [_, _, _, _, _]) Tryz.sizeOf37 (OV.p rfl) (OV.p rfl) rfl rfl rfl (by repeat (first | exact aQ.here (cs' := [_, _, _, _, _]) rfl rfl | apply aQ.up)) ?_
   refine WL.nil (WC.ret ?_)
   exact aj.ret (H' := C.A bc :: bQ bd bc g :: T1.A bs bd g :: F) (aL.one rfl (R1.gF (vs := [_, _, _, _, _]) rfl ⟨Tryz.isAgg37, Tryz.sizeOf37⟩ rfl (by repeat (first | exact aT.gets ⟨rfl, rfl, rfl, rfl, rfl, trivial⟩ | apply aT.up)))) (fun w h => h.sel 5 [1, 2, 3] rfl) ⟨T1, hT1, t1, by rw [if_pos h0], rfl⟩
  ·simp only [decide_eq_true_eq, decide_eq_false_iff_not, Bool.and_eq_true, Bool.or_eq_true, Bool.and_eq_false_iff, Bool.or_eq_false_iff, Bool.not_eq_true', Bool.not_eq_false', Bool.not_eq_true, Bool.not_eq_false, Int.not_lt, Int.not_le] at hc0
   have h0 := hc0
   refine WC.skip (WC.sr ?_)
   refine WL.val (V.aU (vs := [_, _, _, _, _]) ⟨Tryz.isAgg58, Tryz.sizeOf58⟩ (OV.p rfl) rfl (fun _ => by repeat (first | exact aT.gets ⟨rfl, rfl, rfl, rfl, rfl, trivial⟩ | apply aT.up))) rfl ?_
   refine WL.call (vs := [_]) Tryz.call67 ⟨OV.p rfl, trivial⟩ (CB ho _ _) rfl ?_
   rintro _ _ ⟨A1, c1, rfl, rfl⟩
   refine WL.mv rfl rfl (WL.xt rfl rfl rfl (WL.xt rfl rfl rfl (WL.sg rfl rfl (WL.sg rfl rfl (WL.nil (WC.seq (WC.label (WC.seq (WC.sr (WL.mv rfl rfl (WL.val (V.len (t := 124) Tryz.runUnderlying124 (OV.p rfl)) rfl (WL.mv rfl rfl (WL.nil (WC.block (WC.rounds 1 (WC.sr (WL.val (V.lss (OV.p rfl) (OV.p rfl)) rfl (WL.nil (WC.seq ?_)))))))))))))))))))
   refine WC.aM rfl (by first | rfl | (simp; done) | (simp; omega)) ?_
   refine WC.exit (WC.sr (WL.val (V.build (vs := [(4, _)]) ⟨OV.p rfl, trivial⟩ rfl (xH _)) rfl ?_))
   refine WL.store (cs := [_, _, _, _, _]) Tryz.sizeOf37 (OV.p rfl) (OV.p rfl) rfl rfl rfl (by repeat (first | exact aQ.here (cs' := [_, _, _, _, _]) rfl rfl | apply aQ.up)) ?_
   refine WL.nil (WC.ret ?_)
   exact aj.ret (H' := C.A bc :: bQ bd bc g :: T1.A bs bd g :: F) (aL.one rfl (R1.gF (vs := [_, _, _, _, _]) rfl ⟨Tryz.isAgg37, Tryz.sizeOf37⟩ rfl (by repeat (first | exact aT.gets ⟨rfl, rfl, rfl, rfl, rfl, trivial⟩ | apply aT.up)))) (fun w h => h.sel 6 [2, 3, 4] rfl) ⟨T1, hT1, t1, by rw [if_neg (by omega)], rfl⟩
end
end Go.Proofs.YtcedojacbhnbiaaGreat
