import Derived.Test.YtohkefolnmcjnaaGreatP10
import Derived.Test.YtohkefolnmcjnaaGreatP8
import Derived.Test.YtohkefolnmcjnaaGreatP7
namespace Go.Proofs.YtohkefolnmcjnaaGreat
open Go.Sl Go.RowKit
set_option linter.unusedVariables false
set_option linter.unusedSimpArgs false
set_option maxRecDepth 20000
theorem clone_bytes {A : Option Addr} {m cap : Nat} {xs : List Int} {K : World} {F : List Assn} (hs : Seq K F A m 1 (ints .u8 xs)) (hm : m ≤ 1000000) :
    Does Tryz.prog 110 #[.slice A m cap] K F (fun v H' => ∃ A' cap', v = .slice A' m cap' ∧ H' = SlA (.slice A' m cap') 5 1 m (ints .u8 xs) :: F) := by
  have hl : xs.length = m := by simpa [ints] using hs.len
  refine Does.have_ (p := A = none → xs = []) (fun w hw hA => by subst hA; simpa [ints] using hs.none_nil hw) (fun hnil => ?_)
  refine Does.enter Tryz.func110 rfl Tryz.ntmps110 rfl ?_
  simp only [env0, Nat.reduceAdd]
  refine WC.sr ?_
  refine WL.sg rfl rfl ?_
  refine WL.nil ?_
  refine WC.seq ?_
  refine WC.sr ?_
  refine WL.mv rfl rfl ?_
  refine WL.val (V.eqlNil Tryz.underlying38 (OV.p rfl)) rfl ?_
  refine WL.nil ?_
  refine WC.cond rfl (fun hc0 => ?_) (fun hc0 => ?_)
  ·skip
   have hA : A = none := by cases A <;> simp at hc0 ⊢
   subst hA
   have hx := hnil rfl
   subst hx
   obtain rfl : m = 0 := hl.symm
   refine WC.sr ?_
   refine WL.sg rfl rfl ?_
   refine WL.nil ?_
   refine WC.ret ?_
   exact BodyQ.ret (H' := SlA (.slice none 0 0) _ 1 0 [] :: F) (Res.tmp rfl rfl) (fun w h => Sat.slNil h _ _) ⟨none, 0, rfl, rfl⟩
  ·skip
   refine WC.skip ?_
   refine WC.sr ?_
   refine WL.buildSlice (E := 5) (cs := []) (vs := []) trivial rfl (bsl38_0 ) rfl (fun b5 => ?_)
   refine WL.mv rfl rfl ?_
   refine WL.sub (Sub.refl _) (fun w h => Sat.toSl (m := 0) (cap := 0) (s := 1) h rfl (Nat.le_refl _) (Nat.zero_le _)) ?_
   refine WL.append (m := 0) (cs := []) Tryz.underlying38 el5 (OV.p rfl) (OV.p rfl) (by repeat (first | exact hs | apply Seq.up)) (ints_one _ _) (by omega) rfl rfl (fun A' c' hn' hc' => ?_)
   refine WL.sg rfl rfl ?_
   refine WL.nil ?_
   refine WC.ret ?_
   refine BodyQ.ret (H' := SlA (.slice A' m c') _ 1 m (ints .u8 xs) :: F) (Res.tmp rfl (look_eq rfl (by simp))) (fun w h => ?_) ⟨A', c', rfl, rfl⟩
   simpa using h
namespace Cw
end Cw
end Go.Proofs.YtohkefolnmcjnaaGreat
namespace Go.Proofs.YtohkefolnmcjnaaGreat
open Go.Sl Go.RowKit
set_option linter.unusedVariables false
set_option linter.unusedSimpArgs false
set_option maxRecDepth 20000
theorem nats_ints (k : IntKind) (xs : List Nat) : nats k xs = ints k (xs.map fun x : Nat => (x : Int)) := by simp [nats, ints]
section
variable {K : World} {F : List Assn}
theorem clone_nats {A : Option Addr} {m cap : Nat} {xs : List Nat} (hs : Seq K F A m 1 (nats .u8 xs)) (hm : m ≤ 1000000) :
    Does Tryz.prog 110 #[.slice A m cap] K F (fun v H' => ∃ A' cap', v = .slice A' m cap' ∧ H' = SlA (.slice A' m cap') 5 1 m (nats .u8 xs) :: F) := by
  rw [nats_ints] at hs ⊢
  exact clone_bytes hs hm
theorem slA_row {A : Option Addr} {m cap E : Nat} {cs : List Value} (hm : 0 < m) : ∀ w, Sat K w (SlA (.slice A m cap) E 1 m cs :: F) → ∃ x : Nat × List Value, (A = some ⟨x.1, 0, none⟩ ∧ (cs ++ x.2).length = cap ∧ cap ≤ maxLen) ∧ Sat K w (Cells x.1 E (cs ++ x.2) :: F) := fun w hw => by
  cases A with
  | none => have := (SlA.nilCs hw).1; omega
  | some a =>
    obtain ⟨g, rfl⟩ := SlA.addr hw
    obtain ⟨r, ⟨h1, h2, h3, h4⟩, h5⟩ := Sat.slCells hw
    exact ⟨(g, r), ⟨rfl, by show (cs ++ r).length = cap; omega, h4⟩, h5⟩
theorem bch_newWord {t : Nat} {A B : Option Addr} {m q cap cap' : Nat} {d mo : List Nat} (ht : 1 ≤ t ∧ t ≤ 8) (hd : Seq K F A m 1 (nats .u8 d)) (hm : Seq K F B q 1 (nats .u8 mo)) (hd8 : Small 256 d) (hm8 : Small 256 mo) (hdl : 1 ≤ m ∧ m ≤ 512) (hml : q = moreLen t) :
    Does Tryz.prog 164 #[.int .i64 (t : Int), .slice A m cap, .slice B q cap'] K F
      (fun v H' => ∃ bw, ∃ W : Wd, W.Ok ∧ W.t = t ∧ W.d = d ∧ W.m = maskM t mo ∧ (W.d.length ≤ W.c1 ∧ W.m.length ≤ W.c2) ∧ v = .tuple #[ptr bw 0, .int .i64 0] ∧ H' = W.parts bw ++ F) := by
  have hl : d.length = m := by simpa [nats] using hd.len
  have hql : mo.length = q := by simpa [nats] using hm.len
  have hq13 : q ≤ 13 := by rw [hml]; unfold moreLen; omega
  have hq0 : 0 < q := by rw [hml]; unfold moreLen; omega
  have hqt : 13 * t ≤ 8 * q := by rw [hml]; unfold moreLen; omega
  refine Does.enter Tryz.func164 rfl Tryz.ntmps164 rfl ?_
  simp only [env0, Nat.reduceAdd]
  refine WC.sr ?_
  refine WL.sg rfl rfl ?_
  refine WL.sg rfl rfl ?_
  refine WL.nil ?_
  refine WC.sr ?_
  refine WL.mv rfl rfl ?_
  refine WL.mv rfl rfl ?_
  refine WL.call (vs := [_, _]) Tryz.call148 ⟨OV.p rfl, OV.p rfl, trivial⟩ (bch_size ht hdl) rfl ?_
  rintro _ H0 ⟨rfl, h0⟩
  subst H0
  refine WL.mv rfl rfl ?_
  refine WL.xt rfl rfl rfl ?_
  refine WL.xt rfl rfl rfl ?_
  refine WL.sg rfl rfl ?_
  refine WL.sg rfl rfl ?_
  refine WL.nil ?_
  refine WC.seq ?_
  refine WC.sr ?_
  refine WL.mv rfl rfl ?_
  refine WL.val (V.neq (OV.p rfl) (OV.p rfl)) rfl ?_
  refine WL.mv rfl rfl ?_
  refine WL.valG (oj := _) rfl rfl rfl GC.f (V.move (OV.p rfl)) rfl ?_
  refine WL.valG (oj := _) rfl rfl rfl GC.f (V.len (t := 38) Tryz.runUnderlying38 (OV.g rfl id)) rfl ?_
  refine WL.valG (oj := _) rfl rfl rfl GC.f (V.move (OV.p rfl)) rfl ?_
  refine WL.valG (oj := _) rfl rfl rfl GC.f (V.neq (OV.g rfl id) (OV.g rfl id)) rfl ?_
  refine WL.val (V.pickOr (OV.p rfl) (OV.g rfl id)) rfl ?_
  refine WL.nil ?_
  refine WC.condF' rfl ((by simp; rw [hml])) ?_
  refine WC.skip ?_
  refine WC.sr ?_
  refine WL.mv rfl rfl ?_
  refine WL.mv rfl rfl ?_
  refine WL.call (vs := [_]) Tryz.call110 ⟨OV.p rfl, trivial⟩ (clone_nats hd (by omega)) rfl ?_
  rintro _ _ ⟨A1, c1, rfl, rfl⟩
  refine WL.ex (slA_row (by omega)) (fun ⟨g1, r1⟩ ⟨e1, hr1, hc1⟩ => ?_)
  dsimp only at e1 hr1 ⊢
  subst e1
  refine WL.mv rfl rfl ?_
  refine WL.call (vs := [_]) Tryz.call110 ⟨OV.p rfl, trivial⟩ (clone_nats hm.up (by omega)) rfl ?_
  rintro _ _ ⟨A2, c2, rfl, rfl⟩
  refine WL.ex (slA_row hq0) (fun ⟨g2, r2⟩ ⟨e2, hr2, hc2⟩ => ?_)
  dsimp only at e2 hr2 ⊢
  subst e2
  have hr1' : d.length ≤ c1 := by rw [← hr1, List.length_append, nats_length]; omega
  have hr2' : mo.length ≤ c2 := by rw [← hr2, List.length_append, nats_length]; omega
  refine WL.val (V.build (vs := [(0, _), (1, _), (2, _)]) ⟨OV.p rfl, OV.p rfl, OV.p rfl, trivial⟩ rfl (bld204_0_1_2 _ _ _ _ _ _ _)) rfl ?_
  refine WL.box (cs := [_, _, _]) (OV.p rfl) rfl rfl (fun b32 => ?_)
  refine WL.sg rfl rfl ?_
  refine WL.nil ?_
  refine WC.seq ?_
  refine WC.sr ?_
  refine WL.mv rfl rfl ?_
  refine WL.val (V.mulI (OV.p rfl) (OV.p rfl) (fun hc => by first | omega | (simp at hc; omega))) rfl ?_
  refine WL.sg rfl rfl ?_
  refine WL.nil ?_
  refine WC.block ?_
  refine WC.loop (σ := Nat) (fun k => [(10, ptr b32 0), (8, .int .i64 (q : Int)), (11, .int .i64 ((13 * t + k : Nat) : Int))]) (fun k => Cells g2 5 (nats .u8 (maskTo mo (13 * t) k) ++ r2) :: Cells b32 204 [.int .i64 (t : Int), .slice (some ⟨g1, 0, none⟩) m c1, .slice (some ⟨g2, 0, none⟩) q c2] :: Cells g1 5 (nats .u8 d ++ r1) :: F) (fun k => 13 * t + k ≤ 8 * q) (fun k => 8 * q - k) 0 (by simpa using hqt) (.cons rfl (.cons (look_eq rfl (by rw [hml])) (.cons (look_eq rfl (by simp)) (.nil _)))) (fun w h => h.p1) ?_
  rintro k hk
  refine WC.seq ?_
  refine WC.sr ?_
  refine WL.mv rfl rfl ?_
  refine WL.mv rfl rfl ?_
  refine WL.val (V.mulI (OV.p rfl) (OV.p rfl) (fun hc => by first | omega | (simp at hc; omega))) rfl ?_
  refine WL.val (V.lss (OV.p rfl) (OV.p rfl)) rfl ?_
  refine WL.nil ?_
  refine WC.cond rfl (fun hc1 => ?_) (fun hc1 => ?_)
  ·simp only [decide_eq_true_eq, decide_eq_false_iff_not] at hc1
   obtain ⟨o, ho⟩ : ∃ o, o = maskTo mo (13 * t) k := ⟨_, rfl⟩
   have hol : o.length = q := by rw [ho, maskTo_length, hql]
   have hos : Small 256 o := by rw [ho]; exact maskTo_small hm8 k
   rw [← ho]
   obtain ⟨i, hi⟩ : ∃ i, i = 13 * t + k := ⟨_, rfl⟩
   rw [← hi]
   have hg1 : (nats .u8 o ++ r2)[0 + ((i : Int) / 8).toNat * 1]? = some (.int .u8 (o.getD (i / 8) 0 : Nat)) := by rw [show 0 + ((i : Int) / 8).toNat * 1 = i / 8 by omega]; exact nats_getA _ _ _ (by omega)
   have hcl := clr8_code (hos.at_ (by decide) (i / 8)) (Nat.mod_lt i (show 0 < 8 by decide))
   refine WC.skip ?_
   refine WC.seq ?_
   refine WC.block ?_
   refine WC.regionA (Cells b32 204 [.int .i64 (t : Int), .slice (some ⟨g1, 0, none⟩) m c1, .slice (some ⟨g2, 0, none⟩) q c2] :: Cells g1 5 (nats .u8 d ++ r1) :: F) (by kernel_rfl) ?_
   refine WA.t 0 rfl (V.move (OV.p rfl)) ?_
   refine WA.t 1 rfl (V.nilCheck (OV.p rfl)) ?_
   refine WA.t 2 rfl (V.fieldAddr fo204_2 (OV.p rfl)) ?_
   refine WA.t 3 rfl (V.load Tryz.isAgg38 (OV.p rfl) (fun _ => by repeat (first | exact Rd.here rfl | apply Rd.up))) ?_
   refine WA.t 4 rfl (V.move (OV.p rfl)) ?_
   refine WA.t 5 rfl (V.quoI (OV.p rfl) (OV.p rfl) (fun hc => by first | omega | (simp at hc; omega))) ?_
   refine WA.t 6 rfl (V.idxB st38 (OV.p rfl) (OV.p rfl) (fun hc => by omega)) ?_
   refine WA.t 8 rfl (V.move (OV.p rfl)) ?_
   refine WA.t 9 rfl (V.val_eq (v' := .int .i64 ((i % 8 : Nat) : Int)) (V.remI (OV.p rfl) (OV.p rfl) (fun _ => by omega)) (fun _ => by simp)) ?_
   refine WA.t 10 rfl (V.shl (OV.p rfl) (OV.p rfl) (by omega)) ?_
   refine WA.o 7 rfl ?_
   refine WL.val (V.load Tryz.isAgg5 (OV.p rfl) (fun hc => Rd.here hg1)) rfl ?_
   refine WL.nil ?_
   refine WA.t 11 rfl (V.val_eq (v' := .int .u8 ((clr8 (o.getD (i / 8) 0) (i % 8) : Nat) : Int)) (V.andNot (OV.p rfl) (OV.p rfl)) (fun _ => by rw [hcl.1])) ?_
   refine WA.t 12 rfl (V.idxB st38 (OV.p rfl) (OV.p rfl) (fun hc => by omega)) ?_
   refine WA.o 13 rfl ?_
   refine WL.store (cs := [_]) Tryz.sizeOf5 (OV.p rfl) (OV.p rfl) rfl rfl rfl (Upd.at_ (by rw [List.length_append, nats_length]; omega)) ?_
   refine WL.nil ?_
   refine WA.fin ?_
   refine WC.region ?_
   refine WL.mv rfl rfl ?_
   refine WL.ad rfl rfl rfl ?_
   refine WL.sg rfl rfl ?_
   refine WL.nil ?_
   refine ⟨rfl, ?_⟩
   refine ⟨k + 1, (by show 13 * t + (k + 1) ≤ 8 * q; omega), (by show 8 * q - (k + 1) < 8 * q - k; omega), .cons rfl (.cons rfl (.cons (look_eq rfl (by rw [hi]; simp; omega)) (.nil _))), fun w h => Sat.cells_eq h ?_⟩
   rw [show 0 + ((i : Int) / 8).toNat * 1 = i / 8 by omega, nats_setA _ _ _ (by omega), maskTo, ← ho, ← hi]
  ·simp only [decide_eq_true_eq, decide_eq_false_iff_not] at hc1
   refine WC.exit ?_
   refine WC.seq ?_
   have hke : k = 8 * moreLen t - 13 * t := by omega
   have hmm : maskTo mo (13 * t) k = maskM t mo := by unfold maskM; rw [hke]
   rw [hmm]
   have hmml : (maskM t mo).length = q := by unfold maskM; rw [maskTo_length, hql]
   refine WC.region ?_
   refine WL.mv rfl rfl ?_
   refine WL.sg rfl rfl ?_
   refine WL.sg rfl rfl ?_
   refine WL.nil ?_
   refine WC.ret ?_
   refine BodyQ.ret (H' := Wd.parts b32 ⟨t, d, maskM t mo, g1, c1, g2, c2, r1, r2⟩ ++ F) (Res.tmp2 rfl rfl rfl) (fun w h => ?_) ⟨b32, ⟨t, d, maskM t mo, g1, c1, g2, c2, r1, r2⟩, ⟨ht, by show 1 ≤ d.length ∧ d.length ≤ 512; omega, by show (maskM t mo).length = moreLen t; omega, hd8, maskTo_small hm8 _⟩, rfl, rfl, rfl, ⟨hr1', by show (maskM t mo).length ≤ c2; omega⟩, rfl, rfl⟩
   have h' := h.sel 3 [1, 2, 0] rfl
   dsimp only [Wd.parts, Wd.cells, List.cons_append, List.nil_append]
   rw [hl, hmml]
   exact h'
end
end Go.Proofs.YtohkefolnmcjnaaGreat
namespace Go.Proofs.YtohkefolnmcjnaaGreat
open Go.Sl Go.RowKit
set_option linter.unusedVariables false
set_option linter.unusedSimpArgs false
set_option maxRecDepth 20000
theorem getD_set {xs : List Nat} {i j x : Nat} : (xs.set i x).getD j 0 = if i = j ∧ j < xs.length then x else xs.getD j 0 := by
  simp only [List.getD, List.getElem?_set]
  by_cases h : i = j
  · subst h
    by_cases hl : i < xs.length
    · simp [hl]
    · simp [hl, List.getElem?_eq_none (Nat.le_of_not_lt hl)]
  · simp [h]
theorem testBit_mul_pow {x s i : Nat} : (x * 2 ^ s).testBit i = (decide (s ≤ i) && x.testBit (i - s)) := by
  rw [← Nat.shiftLeft_eq, Nat.testBit_shiftLeft]
theorem testBit_mod256 {x i : Nat} (h : i < 8) : (x % 256).testBit i = x.testBit i := by
  rw [show (256 : Nat) = 2 ^ 8 from rfl, Nat.testBit_mod_two_pow]; simp [h]
theorem testBit_div256 {x i : Nat} : (x / 256).testBit i = x.testBit (8 + i) := by
  rw [show (256 : Nat) = 2 ^ 8 from rfl, Nat.testBit_div_two_pow, Nat.add_comm]
theorem testBit_byte {x i : Nat} (hx : x < 256) (hi : 8 ≤ i) : x.testBit i = false := Nat.testBit_lt_two_pow (Nat.lt_of_lt_of_le hx (Nat.pow_le_pow_right (n := 2) (by decide) hi))
theorem bitAt_none {xs : List Nat} {k : Nat} (h : 8 * xs.length ≤ k) : bitAt xs k = false := by
  unfold bitAt
  rw [show xs.getD (k / 8) 0 = 0 by rw [List.getD, List.getElem?_eq_none (by omega)]; rfl]
  exact Nat.zero_testBit _
theorem bitAt_addTo {out p : List Nat} {at_ : Nat} (ho : Small 256 out) (hp : Small 256 p) : ∀ (j : Nat), j + at_ / 8 < out.length → ∀ k, bitAt (addTo out p at_ j) k = (bitAt out k ^^ (decide (at_ ≤ k) && decide (k - at_ < 8 * j) && bitAt p (k - at_)))
  | 0, _, k => by simp [-List.getD_eq_getElem?_getD, addTo]
  | j + 1, hj, k => by
    have ih := bitAt_addTo (at_ := at_) ho hp j (by omega) k
    have hlen := addTo_length out p at_ j
    have hpj := hp.at_ (by decide) j
    have hw : ∀ i, (p.getD j 0 * 2 ^ (at_ % 8)).testBit i = (decide (at_ % 8 ≤ i) && (p.getD j 0).testBit (i - at_ % 8)) := fun i => testBit_mul_pow
    have hw255 : ¬ 255 < p.getD j 0 * 2 ^ (at_ % 8) → p.getD j 0 * 2 ^ (at_ % 8) / 256 = 0 := fun h => by omega
    have hbit : ∀ o : List Nat, o = addTo out p at_ j → bitAt (addTo out p at_ (j + 1)) k = (bitAt o k ^^ ((decide (k / 8 = j + at_ / 8) && (p.getD j 0 * 2 ^ (at_ % 8)).testBit (k % 8)) || (decide (k / 8 = j + at_ / 8 + 1) && (p.getD j 0 * 2 ^ (at_ % 8)).testBit (8 + k % 8)))) := by
      intro o hoe
      have hk8 : k % 8 < 8 := Nat.mod_lt _ (by decide)
      have hol : o.length = out.length := by rw [hoe]; exact hlen
      rw [addTo, ← hoe]
      split
      · unfold bitAt
        simp only [getD_set, List.length_set]
        by_cases h1 : j + at_ / 8 + 1 = k / 8
        · rw [if_pos ⟨h1, by omega⟩, if_neg (by omega), Nat.testBit_xor, testBit_div256]
          have e1 : ¬ k / 8 = j + at_ / 8 := by omega
          simp [-List.getD_eq_getElem?_getD, e1, ← h1]
        · rw [if_neg (by omega)]
          by_cases h2 : j + at_ / 8 = k / 8
          · rw [if_pos ⟨h2, by omega⟩, Nat.testBit_xor, testBit_mod256 hk8]
            have e1 : ¬ k / 8 = j + at_ / 8 + 1 := by omega
            simp [-List.getD_eq_getElem?_getD, e1, ← h2]
          · rw [if_neg (by omega)]
            have e1 : ¬ k / 8 = j + at_ / 8 + 1 := by omega
            have e2 : ¬ k / 8 = j + at_ / 8 := by omega
            simp [-List.getD_eq_getElem?_getD, e1, e2]
      · rename_i hs
        unfold bitAt
        rw [getD_set]
        have hz : (p.getD j 0 * 2 ^ (at_ % 8)).testBit (8 + k % 8) = false := by rw [← testBit_div256, hw255 hs]; exact Nat.zero_testBit _
        by_cases h2 : j + at_ / 8 = k / 8
        · rw [if_pos ⟨h2, by omega⟩, Nat.testBit_xor, testBit_mod256 hk8]
          simp [-List.getD_eq_getElem?_getD, hz, ← h2]
        · rw [if_neg (by omega)]
          have e2 : ¬ k / 8 = j + at_ / 8 := by omega
          simp [-List.getD_eq_getElem?_getD, hz, e2]
    rw [hbit _ rfl, ih, Bool.xor_assoc]
    congr 1
    rw [hw, hw]
    by_cases hka : at_ ≤ k
    · obtain ⟨r, hr⟩ : ∃ r, r = k - at_ := ⟨_, rfl⟩
      rw [← hr]
      by_cases h1 : k / 8 = j + at_ / 8
      · have e1 : ¬ k / 8 = j + at_ / 8 + 1 := by omega
        by_cases h2 : at_ % 8 ≤ k % 8
        · have hrj : r / 8 = j := by omega
          have hrm : r % 8 = k % 8 - at_ % 8 := by omega
          have hbp : bitAt p r = (p.getD j 0).testBit (k % 8 - at_ % 8) := by unfold bitAt; rw [hrj, hrm]
          have e3 : ¬ r < 8 * j := by omega
          have e4 : r < 8 * (j + 1) := by omega
          simp [-List.getD_eq_getElem?_getD, h1, e1, h2, hka, hbp, e3, e4]
        · have e3 : (r < 8 * j ↔ r < 8 * (j + 1)) := by omega
          have e5 : decide (r < 8 * (j + 1)) = decide (r < 8 * j) := decide_eq_decide.2 e3.symm
          simp [-List.getD_eq_getElem?_getD, h1, e1, h2, hka, e5]
      · by_cases h3 : k / 8 = j + at_ / 8 + 1
        · have h8 : at_ % 8 ≤ 8 + k % 8 := by omega
          by_cases h4 : 8 + k % 8 - at_ % 8 < 8
          · have hrj : r / 8 = j := by omega
            have hrm : r % 8 = 8 + k % 8 - at_ % 8 := by omega
            have hbp : bitAt p r = (p.getD j 0).testBit (8 + k % 8 - at_ % 8) := by unfold bitAt; rw [hrj, hrm]
            have e3 : ¬ r < 8 * j := by omega
            have e4 : r < 8 * (j + 1) := by omega
            simp [-List.getD_eq_getElem?_getD, h1, h3, h8, hka, hbp, e3, e4]
          · have hz := testBit_byte hpj (i := 8 + k % 8 - at_ % 8) (by omega)
            have e3 : ¬ r < 8 * j := by omega
            have e4 : ¬ r < 8 * (j + 1) := by omega
            simp [-List.getD_eq_getElem?_getD, h1, h3, hz, e3, e4]
        · have e5 : decide (r < 8 * (j + 1)) = decide (r < 8 * j) := decide_eq_decide.2 (by omega)
          simp [-List.getD_eq_getElem?_getD, h1, h3, e5]
    · have e1 : (decide (k / 8 = j + at_ / 8) && (decide (at_ % 8 ≤ k % 8) && (p.getD j 0).testBit (k % 8 - at_ % 8))) = false := by
        by_cases h1 : k / 8 = j + at_ / 8
        · have : ¬ at_ % 8 ≤ k % 8 := by omega
          simp [-List.getD_eq_getElem?_getD, this]
        · simp [-List.getD_eq_getElem?_getD, h1]
      have e2 : ¬ k / 8 = j + at_ / 8 + 1 := by omega
      simp [-List.getD_eq_getElem?_getD, hka, e1, e2]
def HasDeg (q : List Nat) (d : Nat) : Prop := bitAt q d = true ∧ ∀ k, d < k → bitAt q k = false
theorem bmod_high {p q : List Nat} {lq d : Nat} (hp : Small 256 p) (hq : Small 256 q) (hlq : q.length = lq) (hld : lq = d / 8 + 1) (hd : HasDeg q d) : ∀ k, k ≤ 8 * p.length - d → ∀ b, 8 * p.length - k ≤ b → bitAt (bmodTo p q lq d k) b = false
  | 0, _, b, hb => by
    rw [bmodTo]
    unfold bitAt
    by_cases h : b / 8 = p.length
    · have e : (p ++ [0]).getD (b / 8) 0 = (0 : Nat) := by rw [h]; simp [List.getD]
      rw [e]; exact Nat.zero_testBit _
    · have e : (p ++ [0]).getD (b / 8) 0 = (0 : Nat) := by rw [List.getD, List.getElem?_eq_none (by simp; omega)]; rfl
      rw [e]; exact Nat.zero_testBit _
  | k + 1, hk, b, hb => by
    have ih := bmod_high hp hq hlq hld hd k (by omega)
    subst hlq
    rw [bmodTo]
    split
    · rename_i hbit
      rw [bitAt_addTo (bmodTo_small hp hq k) hq _ (by rw [bmodTo_length]; omega)]
      obtain ⟨i, hi⟩ : ∃ i, i = 8 * p.length - 1 - k := ⟨_, rfl⟩
      rw [← hi] at hbit ⊢
      by_cases h1 : b = i
      · subst h1
        have e1 : b - (b - d) = d := by omega
        rw [hbit, e1, hd.1]
        have e2 : b - d ≤ b := by omega
        have e3 : d < 8 * q.length := by omega
        simp [e2, e3]
      · rw [ih b (by omega), hd.2 (b - (i - d)) (by omega)]
        simp
    · rename_i hbit
      by_cases h1 : b = 8 * p.length - 1 - k
      · subst h1; simpa using hbit
      · exact ih b (by omega)
theorem bmod_rest {p q : List Nat} {lq d : Nat} (hp : Small 256 p) (hq : Small 256 q) (hlq : q.length = lq) (hld : lq = d / 8 + 1) (hd : HasDeg q d) {b : Nat} (hb : d ≤ b) : bitAt (bmodTo p q lq d (8 * p.length - d)) b = false := by
  by_cases h : d ≤ 8 * p.length
  · exact bmod_high hp hq hlq hld hd _ (Nat.le_refl _) b (by omega)
  · have := bmod_high hp hq hlq hld hd 0 (Nat.zero_le _) b (by omega)
    rwa [show 8 * p.length - d = 0 by omega]
theorem normLen_bits {xs : List Nat} {b : Nat} (hx : Small 256 xs) (h : ∀ k, b ≤ k → bitAt xs k = false) : ∀ n, normLen xs n ≤ (b + 7) / 8
  | 0 => Nat.zero_le _
  | n + 1 => by
    rw [normLen]
    split
    · exact normLen_bits hx h n
    · rename_i hne
      rcases Nat.lt_or_ge n ((b + 7) / 8) with h1 | h1
      · omega
      · exfalso
        apply hne
        apply Nat.eq_of_testBit_eq
        intro i
        rw [Nat.zero_testBit]
        by_cases hi : i < 8
        · have := h (8 * n + i) (by omega)
          unfold bitAt at this
          rwa [show (8 * n + i) / 8 = n by omega, show (8 * n + i) % 8 = i by omega] at this
        · exact testBit_byte (hx.at_ (by decide) _) (by omega)
def genDegOk (t : Nat) : Bool := decide (degB (genB t) (genB t).length = ((13 * t : Nat) : Int)) && decide (normLen (genB t) (genB t).length = 13 * t / 8 + 1) && decide ((genB t).length = 13 * t / 8 + 1) && bitAt (genB t) (13 * t) && (List.range (8 * (genB t).length)).all (fun k => decide (k ≤ 13 * t) || !bitAt (genB t) k) && (genB t).all (fun x => decide (x < 256))
theorem gen_deg : [1, 2, 3, 4, 5, 6, 7, 8].all genDegOk = true := by kernel_rfl
theorem gen_facts {t : Nat} (ht : 1 ≤ t ∧ t ≤ 8) : degB (genB t) (genB t).length = ((13 * t : Nat) : Int) ∧ normLen (genB t) (genB t).length = 13 * t / 8 + 1 ∧ (genB t).length = 13 * t / 8 + 1 ∧ HasDeg (genB t) (13 * t) ∧ Small 256 (genB t) := by
  have h := List.all_eq_true.1 gen_deg t (by simp only [List.mem_cons, List.not_mem_nil, or_false]; omega)
  simp only [genDegOk, Bool.and_eq_true, decide_eq_true_eq, List.all_eq_true, List.mem_range, Bool.or_eq_true, Bool.not_eq_true'] at h
  obtain ⟨⟨⟨⟨⟨h1, h2⟩, h3⟩, h4⟩, h5⟩, h6⟩ := h
  refine ⟨h1, h2, h3, ⟨h4, fun k hk => ?_⟩, h6⟩
  rcases Nat.lt_or_ge k (8 * (genB t).length) with h | h
  · rcases h5 k h with h' | h'
    · omega
    · exact h'
  · exact bitAt_none h
end Go.Proofs.YtohkefolnmcjnaaGreat
