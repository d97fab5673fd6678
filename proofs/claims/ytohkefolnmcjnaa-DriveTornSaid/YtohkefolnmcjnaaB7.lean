/- bch: a word is made. -/
import Derived.Test.YtohkefolnmcjnaaB6
import Derived.Test.YtohkefolnmcjnaaC8
namespace Go.Proofs.Ytohkefolnmcjnaa
open Go.Sl Go.RowKit
set_option linter.unusedVariables false
set_option linter.unusedSimpArgs false
set_option maxRecDepth 20000

theorem nats_ints (k : IntKind) (xs : List Nat) : nats k xs = ints k (xs.map fun x : Nat => (x : Int)) := by simp [nats, ints]
section
variable {K : World} {F : List Assn}
theorem clone_nats {A : Option Addr} {m cap : Nat} {xs : List Nat} (hs : Seq K F A m 1 (nats .u8 xs)) (hm : m ≤ 1000000) :
    Does Try.prog 75 #[.slice A m cap] K F (fun v H' => ∃ A' cap', v = .slice A' m cap' ∧ H' = SlA (.slice A' m cap') 5 1 m (nats .u8 xs) :: F) := by
  rw [nats_ints] at hs ⊢
  exact clone_bytes hs hm
/-- An own slice that is not empty is a row from its head on. -/
theorem slA_row {A : Option Addr} {m cap E : Nat} {cs : List Value} (hm : 0 < m) : ∀ w, Sat K w (SlA (.slice A m cap) E 1 m cs :: F) → ∃ x : Nat × List Value, (A = some ⟨x.1, 0, none⟩ ∧ (cs ++ x.2).length = cap ∧ cap ≤ maxLen) ∧ Sat K w (Cells x.1 E (cs ++ x.2) :: F) := fun w hw => by
  cases A with
  | none => have := (SlA.nilCs hw).1; omega
  | some a =>
    obtain ⟨g, rfl⟩ := SlA.addr hw
    obtain ⟨r, ⟨h1, h2, h3, h4⟩, h5⟩ := Sat.slCells hw
    exact ⟨(g, r), ⟨rfl, by show (cs ++ r).length = cap; omega, h4⟩, h5⟩
theorem bch_newWord {t : Nat} {A B : Option Addr} {m q cap cap' : Nat} {d mo : List Nat} (ht : 1 ≤ t ∧ t ≤ 8) (hd : Seq K F A m 1 (nats .u8 d)) (hm : Seq K F B q 1 (nats .u8 mo)) (hd8 : Small 256 d) (hm8 : Small 256 mo) (hdl : 1 ≤ m ∧ m ≤ 512) (hml : q = moreLen t) :
    Does Try.prog 62 #[.int .i64 (t : Int), .slice A m cap, .slice B q cap'] K F
      (fun v H' => ∃ bw, ∃ W : Wd, W.Ok ∧ W.t = t ∧ W.d = d ∧ W.m = maskM t mo ∧ (W.d.length ≤ W.c1 ∧ W.m.length ≤ W.c2) ∧ v = .tuple #[ptr bw 0, .int .i64 0] ∧ H' = W.parts bw ++ F) := by
  have hl : d.length = m := by simpa [nats] using hd.len
  have hql : mo.length = q := by simpa [nats] using hm.len
  have hq13 : q ≤ 13 := by rw [hml]; unfold moreLen; omega
  have hq0 : 0 < q := by rw [hml]; unfold moreLen; omega
  have hqt : 13 * t ≤ 8 * q := by rw [hml]; unfold moreLen; omega
  refine Does.enter Try.func62 rfl Try.ntmps62 rfl ?_
  simp only [env0, Nat.reduceAdd]
  refine WC.seq ?_
  refine WC.region ?_
  refine WL.val (V.assign (OV.p rfl)) rfl ?_
  refine WL.val (V.assign (OV.p rfl)) rfl ?_
  refine WL.nil ?_
  refine WC.seq ?_
  refine WC.region ?_
  refine WL.val (V.move (OV.p rfl)) rfl ?_
  refine WL.val (V.move (OV.p rfl)) rfl ?_
  refine WL.call (vs := [_, _]) Try.call57 ⟨OV.p rfl, OV.p rfl, trivial⟩ (bch_size ht hdl) rfl ?_
  rintro _ H0 ⟨rfl, h0⟩
  subst H0
  refine WL.val (V.move (OV.p rfl)) rfl ?_
  refine WL.val (V.extract (OV.p rfl) rfl) rfl ?_
  refine WL.val (V.extract (OV.p rfl) rfl) rfl ?_
  refine WL.val (V.assign (OV.p rfl)) rfl ?_
  refine WL.val (V.assign (OV.p rfl)) rfl ?_
  refine WL.nil ?_
  refine WC.seq ?_
  refine WC.seq ?_
  refine WC.region ?_
  refine WL.val (V.move (OV.p rfl)) rfl ?_
  refine WL.val (V.neq (OV.p rfl) (OV.p rfl)) rfl ?_
  refine WL.val (V.move (OV.p rfl)) rfl ?_
  refine WL.valG (oj := _) rfl rfl rfl GC.f (V.move (OV.p rfl)) rfl ?_
  refine WL.valG (oj := _) rfl rfl rfl GC.f (V.len (t := 24) Try.runUnderlying24 (OV.g rfl id)) rfl ?_
  refine WL.valG (oj := _) rfl rfl rfl GC.f (V.move (OV.p rfl)) rfl ?_
  refine WL.valG (oj := _) rfl rfl rfl GC.f (V.neq (OV.g rfl id) (OV.g rfl id)) rfl ?_
  refine WL.val (V.pickOr (OV.p rfl) (OV.g rfl id)) rfl ?_
  refine WL.nil ?_
  refine WC.condF' rfl ((by simp; rw [hml])) ?_
  refine WC.skip ?_
  refine WC.seq ?_
  refine WC.region ?_
  refine WL.val (V.move (OV.p rfl)) rfl ?_
  refine WL.val (V.move (OV.p rfl)) rfl ?_
  refine WL.call (vs := [_]) Try.call75 ⟨OV.p rfl, trivial⟩ (clone_nats hd (by omega)) rfl ?_
  rintro _ _ ⟨A1, c1, rfl, rfl⟩
  refine WL.ex (slA_row (by omega)) (fun ⟨g1, r1⟩ ⟨e1, hr1, hc1⟩ => ?_)
  dsimp only at e1 hr1 ⊢
  subst e1
  refine WL.val (V.move (OV.p rfl)) rfl ?_
  refine WL.call (vs := [_]) Try.call75 ⟨OV.p rfl, trivial⟩ (clone_nats hm.up (by omega)) rfl ?_
  rintro _ _ ⟨A2, c2, rfl, rfl⟩
  refine WL.ex (slA_row hq0) (fun ⟨g2, r2⟩ ⟨e2, hr2, hc2⟩ => ?_)
  dsimp only at e2 hr2 ⊢
  subst e2
  have hr1' : d.length ≤ c1 := by rw [← hr1, List.length_append, nats_length]; omega
  have hr2' : mo.length ≤ c2 := by rw [← hr2, List.length_append, nats_length]; omega
  refine WL.val (V.build (vs := [(0, _), (1, _), (2, _)]) ⟨OV.p rfl, OV.p rfl, OV.p rfl, trivial⟩ rfl (bld102_0_1_2 _ _ _ _ _ _ _)) rfl ?_
  refine WL.box (cs := [_, _, _]) (OV.p rfl) rfl rfl (fun b32 => ?_)
  refine WL.val (V.assign (OV.p rfl)) rfl ?_
  refine WL.nil ?_
  refine WC.seq ?_
  refine WC.seq ?_
  refine WC.region ?_
  refine WL.val (V.move (OV.p rfl)) rfl ?_
  refine WL.val (V.mulI (OV.p rfl) (OV.p rfl) (fun hc => by first | omega | (simp at hc; omega))) rfl ?_
  refine WL.val (V.assign (OV.p rfl)) rfl ?_
  refine WL.nil ?_
  refine WC.block ?_
  refine WC.loop (σ := Nat) (fun k => [(10, ptr b32 0), (8, .int .i64 (q : Int)), (11, .int .i64 ((13 * t + k : Nat) : Int))]) (fun k => Cells g2 5 (nats .u8 (maskTo mo (13 * t) k) ++ r2) :: Cells b32 102 [.int .i64 (t : Int), .slice (some ⟨g1, 0, none⟩) m c1, .slice (some ⟨g2, 0, none⟩) q c2] :: Cells g1 5 (nats .u8 d ++ r1) :: F) (fun k => 13 * t + k ≤ 8 * q) (fun k => 8 * q - k) 0 (by simpa using hqt) (.cons rfl (.cons (look_eq rfl (by rw [hml])) (.cons (look_eq rfl (by simp)) (.nil _)))) (fun w h => h.p1) ?_
  rintro k hk
  refine WC.seq ?_
  refine WC.seq ?_
  refine WC.region ?_
  refine WL.val (V.move (OV.p rfl)) rfl ?_
  refine WL.val (V.move (OV.p rfl)) rfl ?_
  refine WL.val (V.mulI (OV.p rfl) (OV.p rfl) (fun hc => by first | omega | (simp at hc; omega))) rfl ?_
  refine WL.val (V.lss (OV.p rfl) (OV.p rfl)) rfl ?_
  refine WL.nil ?_
  refine WC.cond rfl (fun hc1 => ?_) (fun hc1 => ?_)
  · simp only [decide_eq_true_eq, decide_eq_false_iff_not] at hc1
    obtain ⟨o, ho⟩ : ∃ o, o = maskTo mo (13 * t) k := ⟨_, rfl⟩
    have hol : o.length = q := by rw [ho, maskTo_length, hql]
    have hos : Small 256 o := by rw [ho]; exact maskTo_small hm8 k
    rw [← ho]
    obtain ⟨i, hi⟩ : ∃ i, i = 13 * t + k := ⟨_, rfl⟩
    rw [← hi]
    have hg1 : (nats .u8 o ++ r2)[0 + ((i : Int) / 8).toNat * 1]? = some (.int .u8 (o.getD (i / 8) 0 : Nat)) := by rw [show 0 + ((i : Int) / 8).toNat * 1 = i / 8 by omega]; exact nats_getA _ _ _ (by omega)
    have hcl := clr8_code (hos.at_ (by decide) (i / 8)) (Nat.mod_lt i (show 0 < 8 by decide))
    refine WC.skip ?_
    refine WC.seq ?_
    refine WC.block ?_
    refine WC.regionA (Cells b32 102 [.int .i64 (t : Int), .slice (some ⟨g1, 0, none⟩) m c1, .slice (some ⟨g2, 0, none⟩) q c2] :: Cells g1 5 (nats .u8 d ++ r1) :: F) (by kernel_rfl) ?_
    refine WA.take 0 (fun w h => by repeat (first | exact h | replace h := h.tail)) rfl (by kernel_rfl) (by kernel_rfl) (by kernel_rfl) (fun _ _ _ h => h) (V.move (OV.p rfl)) rfl ?_
    refine WA.take 1 (fun w h => by repeat (first | exact h | replace h := h.tail)) rfl (by kernel_rfl) (by kernel_rfl) (by kernel_rfl) (fun _ _ _ h => h) (V.nilCheck (OV.p rfl)) rfl ?_
    refine WA.take 2 (fun w h => by repeat (first | exact h | replace h := h.tail)) rfl (by kernel_rfl) (by kernel_rfl) (by kernel_rfl) (fun _ _ _ h => h) (V.fieldAddr fo102_2 (OV.p rfl)) rfl ?_
    refine WA.take 3 (fun w h => by repeat (first | exact h | replace h := h.tail)) rfl (by kernel_rfl) (by kernel_rfl) (by kernel_rfl) (fun _ _ _ h => h) (V.load Try.isAgg24 (OV.p rfl) (fun _ => by repeat (first | exact Rd.here rfl | apply Rd.up))) rfl ?_
    refine WA.take 4 (fun w h => by repeat (first | exact h | replace h := h.tail)) rfl (by kernel_rfl) (by kernel_rfl) (by kernel_rfl) (fun _ _ _ h => h) (V.move (OV.p rfl)) rfl ?_
    refine WA.take 5 (fun w h => by repeat (first | exact h | replace h := h.tail)) rfl (by kernel_rfl) (by kernel_rfl) (by kernel_rfl) (fun _ _ _ h => h) (V.quoI (OV.p rfl) (OV.p rfl) (fun hc => by first | omega | (simp at hc; omega))) rfl ?_
    refine WA.take 6 (fun w h => by repeat (first | exact h | replace h := h.tail)) rfl (by kernel_rfl) (by kernel_rfl) (by kernel_rfl) (fun _ _ _ h => h) (V.idxB st24 (OV.p rfl) (OV.p rfl) (fun hc => by omega)) rfl ?_
    refine WA.take 8 (fun w h => by repeat (first | exact h | replace h := h.tail)) rfl (by kernel_rfl) (by kernel_rfl) (by kernel_rfl) (fun _ _ _ h => h) (V.move (OV.p rfl)) rfl ?_
    refine WA.take 9 (fun w h => by repeat (first | exact h | replace h := h.tail)) rfl (by kernel_rfl) (by kernel_rfl) (by kernel_rfl) (fun _ _ _ h => h) (V.val_eq (v' := .int .i64 ((i % 8 : Nat) : Int)) (V.remI (OV.p rfl) (OV.p rfl) (fun _ => by omega)) (fun _ => by simp)) rfl ?_
    refine WA.take 10 (fun w h => by repeat (first | exact h | replace h := h.tail)) rfl (by kernel_rfl) (by kernel_rfl) (by kernel_rfl) (fun _ _ _ h => h) (V.shl (OV.p rfl) (OV.p rfl) (by omega)) rfl ?_
    refine WA.one (i := 7) (fun w h => by repeat (first | exact h | replace h := h.tail)) (by kernel_rfl) rfl ?_
    refine WL.val (V.load Try.isAgg5 (OV.p rfl) (fun hc => Rd.here hg1)) rfl ?_
    refine WL.nil ?_
    refine WA.take 11 (fun w h => by repeat (first | exact h | replace h := h.tail)) rfl (by kernel_rfl) (by kernel_rfl) (by kernel_rfl) (fun _ _ _ h => h) (V.val_eq (v' := .int .u8 ((clr8 (o.getD (i / 8) 0) (i % 8) : Nat) : Int)) (V.andNot (OV.p rfl) (OV.p rfl)) (fun _ => by rw [hcl.1])) rfl ?_
    refine WA.take 12 (fun w h => by repeat (first | exact h | replace h := h.tail)) rfl (by kernel_rfl) (by kernel_rfl) (by kernel_rfl) (fun _ _ _ h => h) (V.idxB st24 (OV.p rfl) (OV.p rfl) (fun hc => by omega)) rfl ?_
    refine WA.one (i := 13) (fun w h => by repeat (first | exact h | replace h := h.tail)) (by kernel_rfl) rfl ?_
    refine WL.store (cs := [_]) Try.sizeOf5 (OV.p rfl) (OV.p rfl) rfl rfl rfl (Upd.at_ (by rw [List.length_append, nats_length]; omega)) ?_
    refine WL.nil ?_
    refine WA.done (by kernel_rfl) (fun w h => by repeat (first | exact h | replace h := h.tail)) ?_
    refine WC.region ?_
    refine WL.val (V.move (OV.p rfl)) rfl ?_
    refine WL.val (V.addI (OV.p rfl) (OV.p rfl) (fun hc => by first | omega | (simp at hc; omega))) rfl ?_
    refine WL.val (V.assign (OV.p rfl)) rfl ?_
    refine WL.nil ?_
    refine ⟨rfl, ?_⟩
    refine ⟨k + 1, (by show 13 * t + (k + 1) ≤ 8 * q; omega), (by show 8 * q - (k + 1) < 8 * q - k; omega), .cons rfl (.cons rfl (.cons (look_eq rfl (by rw [hi]; simp; omega)) (.nil _))), fun w h => Sat.cells_eq h ?_⟩
    rw [show 0 + ((i : Int) / 8).toNat * 1 = i / 8 by omega, nats_setA _ _ _ (by omega), maskTo, ← ho, ← hi]
  · simp only [decide_eq_true_eq, decide_eq_false_iff_not] at hc1
    refine WC.exit ?_
    refine WC.seq ?_
    have hke : k = 8 * moreLen t - 13 * t := by omega
    have hmm : maskTo mo (13 * t) k = maskM t mo := by unfold maskM; rw [hke]
    rw [hmm]
    have hmml : (maskM t mo).length = q := by unfold maskM; rw [maskTo_length, hql]
    refine WC.region ?_
    refine WL.val (V.move (OV.p rfl)) rfl ?_
    refine WL.val (V.assign (OV.p rfl)) rfl ?_
    refine WL.val (V.assign (OV.p rfl)) rfl ?_
    refine WL.nil ?_
    refine WC.ret ?_
    refine BodyQ.ret (H' := Wd.parts b32 ⟨t, d, maskM t mo, g1, c1, g2, c2, r1, r2⟩ ++ F) (Res.tmp2 rfl rfl rfl) (fun w h => ?_) ⟨b32, ⟨t, d, maskM t mo, g1, c1, g2, c2, r1, r2⟩, ⟨ht, by show 1 ≤ d.length ∧ d.length ≤ 512; omega, by show (maskM t mo).length = moreLen t; omega, hd8, maskTo_small hm8 _⟩, rfl, rfl, rfl, ⟨hr1', by show (maskM t mo).length ≤ c2; omega⟩, rfl, rfl⟩
    have h' := h.sel 3 [1, 2, 0] rfl
    dsimp only [Wd.parts, Wd.cells, List.cons_append, List.nil_append]
    rw [hl, hmml]
    exact h'
end
end Go.Proofs.Ytohkefolnmcjnaa
