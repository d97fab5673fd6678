import Derived.Test.YtcedojacbhnbiaaGreatP31
import Derived.Test.YtcedojacbhnbiaaGreatP6
namespace Go.Proofs.YtcedojacbhnbiaaGreat
open Go.Sl Go.RowKit
set_option linter.unusedVariables false
set_option linter.unusedSimpArgs false
set_option maxRecDepth 20000
structure F3 (av L B : Nat) (N : Int) (S : ak) (T : St) (m : Lm) : Prop where
  si : ∃ st, ak.SI av L B S st T m
  up : S.up = true
  left : S.left = 0
  weak : ∀ b, S.weak b = false
  un : ∀ b, S.marked b = false
  wrong : ∀ k, S.wrong k = none
  next : T.next ≤ N
theorem F3.mono {av L B : Nat} {N N' : Int} {S : ak} {T : St} {m : Lm} (h : F3 av L B N S T m) (hn : N ≤ N') : F3 av L B N' S T m := ⟨h.si, h.up, h.left, h.weak, h.un, h.wrong, by have := h.next; omega⟩
theorem F3.new {g : Geo} (hg : g.aF) (av : Nat) : F3 av av 256 1 (ak.new g []) (iQ (ak.new g []) av) (fun _ => none) :=
  ⟨⟨_, ak.G8 (ak.CM.new hg av av) rfl⟩, rfl, rfl, fun _ => rfl, fun _ => rfl, fun _ => rfl, by rw [Jh hg]; exact Int.le_refl _⟩
theorem vL (g : Geo) (K : World) (F : List au) : aG Tryz.prog 13 #[g.v] K F (.bool (g.may && decide (g.room ≤ 128) && decide (12 ≤ g.bl) && decide (g.bl ≤ 16) && decide (g.pg ≤ 6))) := by
  refine Does.enter Tryz.func13 rfl Tryz.ntmps13 rfl ?_
  simp only [aJ, Nat.reduceAdd]
  refine WC.sr ?_
  refine WL.box (cs := [_, _, _, _, _]) (OV.p rfl) rfl rfl (fun b1 => ?_)
  refine WL.sg rfl rfl (WL.nil (WC.sr ?_))
  refine WL.val (V.aU (vs := [_, _, _, _, _]) ⟨Tryz.isAgg23, Tryz.sizeOf23⟩ (OV.p rfl) rfl (fun _ => by repeat (first | exact aT.gets ⟨rfl, rfl, rfl, rfl, rfl, trivial⟩ | apply aT.up))) rfl ?_
  refine WL.call (vs := [_]) Tryz.call59 ⟨OV.p rfl, trivial⟩ (IC g _ _) rfl ?_
  rintro _ H0 ⟨rfl, h0⟩
  subst H0
  refine WL.mv rfl rfl ?_
  refine WL.ah (oj := _) rfl rfl rfl GC.t (V.aU (vs := [_, _, _, _, _]) ⟨Tryz.isAgg23, Tryz.sizeOf23⟩ (OV.p rfl) rfl (fun _ => by repeat (first | exact aT.gets ⟨rfl, rfl, rfl, rfl, rfl, trivial⟩ | apply aT.up))) rfl ?_
  refine WL.kN (oj := _) (vs := [_]) rfl rfl rfl GC.t Tryz.call60 ⟨OV.g rfl id, trivial⟩ (fun hg => Gf g (Geo.lH (by simpa using hg)) _ _) rfl ?_
  refine WL.ah (oj := _) rfl rfl rfl GC.t (V.leq (OV.g rfl id) (OV.p rfl)) rfl (WL.val (V.aD (OV.p rfl) (OV.g rfl id)) rfl (WL.mv rfl rfl (WL.ah (oj := _) rfl rfl rfl GC.t (V.fieldAddr jk (OV.p rfl)) rfl ?_)))
  refine WL.ah (oj := _) rfl rfl rfl GC.t (V.load Tryz.isAgg3 (OV.g rfl id) (fun _ => by repeat (first | exact Rd.here rfl | apply Rd.up))) rfl ?_
  refine WL.ah (oj := _) rfl rfl rfl GC.t (V.geq (OV.g rfl id) (OV.p rfl)) rfl (WL.val (V.aD (OV.p rfl) (OV.g rfl id)) rfl (WL.mv rfl rfl (WL.ah (oj := _) rfl rfl rfl GC.t (V.fieldAddr jk (OV.p rfl)) rfl ?_)))
  refine WL.ah (oj := _) rfl rfl rfl GC.t (V.load Tryz.isAgg3 (OV.g rfl id) (fun _ => by repeat (first | exact Rd.here rfl | apply Rd.up))) rfl ?_
  refine WL.ah (oj := _) rfl rfl rfl GC.t (V.leq (OV.g rfl id) (OV.p rfl)) rfl (WL.val (V.aD (OV.p rfl) (OV.g rfl id)) rfl (WL.mv rfl rfl (WL.ah (oj := _) rfl rfl rfl GC.t (V.fieldAddr pJ (OV.p rfl)) rfl ?_)))
  refine WL.ah (oj := _) rfl rfl rfl GC.t (V.load Tryz.isAgg3 (OV.g rfl id) (fun _ => by repeat (first | exact Rd.here rfl | apply Rd.up))) rfl ?_
  refine WL.ah (oj := _) rfl rfl rfl GC.t (V.leq (OV.g rfl id) (OV.p rfl)) rfl (WL.val (V.aD (OV.p rfl) (OV.g rfl id)) rfl (WL.sg rfl rfl (WL.nil (WC.ret ?_))))
  exact aj.ret (H' := F) (aL.tmp rfl rfl) (fun w h => by repeat (first | exact h | replace h := h.tail)) ⟨rfl, rfl⟩
theorem J3 {g : Geo} (hg : g.aF) (hb : 12 ≤ g.bl ∧ g.bl ≤ 20) {av : Nat} (hl : 1 ≤ av ∧ av ≤ 64) (slot sec err : Int) :
    (uj (ak.new g []) (iQ (ak.new g []) av) slot sec err).2.2 = (if xM slot sec err then 0 else 1) ∧ (uj (ak.new g []) (iQ (ak.new g []) av) slot sec err).2.1.stands.length = av := by
  have hF := F3.new hg av
  obtain ⟨st, hI⟩ := hF.si
  cases hk : xM slot sec err with
  | false =>
    unfold uj
    rw [if_pos hk]
    exact ⟨rfl, hI.len⟩
  | true =>
    have hsl : (slot = 0 ∨ slot = 1) ∧ 0 ≤ sec ∧ sec ≤ 64 := by unfold xM at hk; simp at hk; omega
    have hx := y5 (s := bW.zero) rfl hsl.1
    obtain ⟨x, hxe⟩ : ∃ x, x = (bW.zero.confirm slot).1 := ⟨_, rfl⟩
    have hxl : (dX x).length = 9 := by unfold dX; rw [jB, bW.jZ (by rw [hxe]; exact hx)]
    have h8 : Small 256 (dX x) := mV (bW.qd (by rw [hxe]; exact hx))
    have hcap := Geo.rC hg
    obtain ⟨S, hS⟩ : ∃ S, S = ak.new g [] := ⟨_, rfl⟩
    obtain ⟨T, hT⟩ : ∃ T, T = iQ S av := ⟨_, rfl⟩
    have PY : S.g = g := by rw [hS]; rfl
    have hst : lQ S T = (bW.zero, 0, T) := by rw [hT, hS]; exact BN hg (by omega)
    rw [← hS, ← hT] at hF hI
    have hnx := hF.next
    obtain ⟨r1, r2, r3, r4, r5, r6, r7⟩ := ak.EA hI hF.up (i0 := 0) (by omega) (by omega) (by omega) h8 (by rw [hxl, PY]; omega) (by rw [PY]; omega)
    obtain ⟨X, hX⟩ : ∃ X, X = aX S T 0 (dX x) := ⟨_, rfl⟩
    have e0 : aX S T ((0 : Nat) : Int) (dX x) = X := hX.symm
    rw [e0] at r1 r2 r3 r4 r5 r6 r7
    obtain ⟨l1, l2⟩ := r4 hF.left
    have key : X.2.2 = 0 ∧ X.1.up = true ∧ X.2.1.stands.length = av := by
      rcases r7 with ⟨_, _, _, q4⟩ | ⟨q1, q2, st', q3⟩ | ⟨q1, _⟩
      · exfalso
        have h1 := ak.Gt hI q4
        have h2 : ((List.range S.g.bl.toNat).filter fun (b : Nat) => !S.marked (b : Int) && !S.weak (b : Int)).length = S.g.bl.toNat := by
          rw [List.filter_eq_self.2 (fun b _ => by rw [hF.un, hF.weak]; rfl), List.length_range]
        have h3 : ((List.range av).filter fun i => (none : Option (List Nat)).isSome).length = 0 := by simp
        have h4 : S.g.bl = g.bl := by rw [PY]
        omega
      · exact ⟨q1, q2, q3.len⟩
      · exact absurd q1 l2
    unfold uj
    rw [← hS, ← hT, if_neg (by rw [hk]; decide), hst, if_neg (fun h => h rfl)]
    dsimp only
    rw [← hxe, ← hX, if_neg (fun h => h key.1), if_pos rfl]
    split
    · rename_i hf
      refine ⟨?_, key.2.2⟩
      dsimp only
      unfold ak.fused at hf
      rw [if_pos key.2.1] at hf
      unfold ak.jY
      rw [if_neg (by rw [key.2.1]; decide), if_neg (by omega), if_neg (by omega)]
      unfold ak.all ak.after ak.cut
      rw [l1]; rfl
    · exact ⟨rfl, key.2.2⟩
theorem MF {S : ak} (hu : S.up = false) (T : St) : (decide ((lQ S T).2.2.ready 0 = 0) && decide (0 ≤ (lQ S T).2.2.at' 0)) = false := by
  have e : (lQ S T).2.2 = (fC S T 0).2 := by unfold lQ; repeat (first | rfl | split)
  rw [e]
  unfold fC
  split
  · rename_i h; rw [decide_eq_false h]; rfl
  · split
    · rename_i h; rw [decide_eq_false (show ¬ 0 ≤ T.at' 0 by omega), Bool.and_false]
    · have hd : (S.bB (T.at' 0) 0).err = 70 := by
        have ha : S.ahead (T.at' 0) 0 true = 70 := by unfold ak.ahead; exact if_pos hu
        unfold ak.bB
        rw [ha]; rfl
      rw [hd, if_pos (by decide)]
      have hr : (T.told 70).ready 0 = 70 := by
        unfold St.told St.ready
        dsimp only
        rw [if_pos (by simp)]
      rw [hr]; rfl
theorem rQ (g : Geo) (av slot en sec err : Int) (h11 : av < 11) {A : Option Addr} {m cap : Nat} {lw : Value} {K : World} {F : List au} :
    aG Tryz.prog 7 #[g.v, .int .i64 av, .slice A m cap, .agg #[.int .i64 slot, .int .i64 en, .int .i64 sec, lw, .int .i64 err]] K F (.bool true) := by
  refine Does.enter Tryz.func7 rfl Tryz.ntmps7 rfl ?_
  simp only [aJ, Nat.reduceAdd]
  refine WC.sr ?_
  refine WL.box (cs := [_, _, _, _, _]) (OV.p rfl) rfl rfl (fun b4 => ?_)
  refine WL.box (cs := [_, _, _, _, _]) (OV.p rfl) rfl rfl (fun b7 => ?_)
  refine WL.sg rfl rfl (WL.nil (WC.seq (WC.sr ?_)))
  refine WL.val (V.aU (vs := [_, _, _, _, _]) ⟨Tryz.isAgg23, Tryz.sizeOf23⟩ (OV.p rfl) rfl (fun _ => by repeat (first | exact aT.gets ⟨rfl, rfl, rfl, rfl, rfl, trivial⟩ | apply aT.up))) rfl ?_
  refine WL.call (vs := [_]) Tryz.call13 ⟨OV.p rfl, trivial⟩ (vL g _ _) rfl ?_
  rintro _ H0 ⟨rfl, h0⟩
  subst H0
  refine WL.val (V.not (OV.p rfl)) rfl (WL.mv rfl rfl (WL.ah (oj := _) rfl rfl rfl GC.f (V.move (OV.p rfl)) rfl (WL.ah (oj := _) rfl rfl rfl GC.f (V.lss (OV.g rfl id) (OV.p rfl)) rfl (WL.val (V.aS (OV.p rfl) (OV.g rfl id)) rfl (WL.mv rfl rfl (WL.ah (oj := _) rfl rfl rfl GC.f (V.move (OV.p rfl)) rfl (WL.ah (oj := _) rfl rfl rfl GC.f (V.gtr (OV.g rfl id) (OV.p rfl)) rfl (WL.val (V.aS (OV.p rfl) (OV.g rfl id)) rfl (WL.mv rfl rfl (WL.ah (oj := _) rfl rfl rfl GC.f (V.move (OV.p rfl)) rfl (WL.ah (oj := _) rfl rfl rfl GC.f (V.len (t := 24) Tryz.runUnderlying24 (OV.g rfl id)) rfl (WL.ah (oj := _) rfl rfl rfl GC.f (V.gtr (OV.g rfl id) (OV.p rfl)) rfl (WL.val (V.aS (OV.p rfl) (OV.g rfl id)) rfl (WL.nil ?_))))))))))))))
  refine WC.cond rfl (fun hc0 => ?_) (fun hc0 => ?_)
  ·simp only [Bool.or_eq_true, Bool.or_eq_false_iff, Bool.and_eq_true, decide_eq_true_eq, decide_eq_false_iff_not, Bool.not_eq_true', Bool.not_eq_false'] at hc0
   refine WC.sr (WL.sg rfl rfl (WL.nil (WC.ret ?_)))
   exact aj.ret (H' := F) (aL.tmp rfl rfl) (fun w h => by repeat (first | exact h | replace h := h.tail)) ⟨rfl, rfl⟩
  ·simp only [Bool.or_eq_true, Bool.or_eq_false_iff, Bool.and_eq_true, decide_eq_true_eq, decide_eq_false_iff_not, Bool.not_eq_true', Bool.not_eq_false'] at hc0
   obtain ⟨⟨⟨⟨⟨⟨⟨hmay, hr⟩, Qq⟩, PK⟩, RF⟩, hl1⟩, PV⟩, PX⟩ := hc0
   have hg := Geo.lH hmay
   obtain ⟨n, rfl⟩ : ∃ n : Nat, av = (n : Int) := ⟨av.toNat, by omega⟩
   refine WC.skip (WC.sr ?_)
   refine WL.val (V.aU (vs := [_, _, _, _, _]) ⟨Tryz.isAgg23, Tryz.sizeOf23⟩ (OV.p rfl) rfl (fun _ => by repeat (first | exact aT.gets ⟨rfl, rfl, rfl, rfl, rfl, trivial⟩ | apply aT.up))) rfl ?_
   refine WL.call (vs := [_, _]) Tryz.call29 ⟨OV.p rfl, OV.p rfl, trivial⟩ (yt g (l := []) Seq.nil (by decide)) rfl ?_
   rintro _ _ (⟨_, hin, bc, C0, hC0, s0, rfl, rfl⟩ | ⟨hno, rfl, rfl⟩)
   rotate_left
   · exact (hno ⟨hmay, fun x hx => by simp at hx⟩).elim
   have g0 : C0.g = g := by rw [show C0.g = C0.sem.g from rfl, s0]; rfl
   have u0 : C0.sem.up = true := by rw [s0]; rfl
   refine WL.mv rfl rfl (WL.xt rfl rfl rfl (WL.xt rfl rfl rfl (WL.sg rfl rfl (WL.sg rfl rfl (WL.nil (WC.sr (WL.mv rfl rfl (WL.call (vs := [_]) Tryz.call30 ⟨OV.p rfl, trivial⟩ (rX hC0 g0) rfl ?_))))))))
   rintro _ _ ⟨bd, rfl, rfl⟩
   refine WL.mv rfl rfl (WL.xt rfl rfl rfl (WL.xt rfl rfl rfl (WL.sg rfl rfl (WL.sg rfl rfl (WL.nil (WC.sr (WL.mv rfl rfl (WL.mv rfl rfl ?_))))))))
   refine WL.call (vs := [_, _]) Tryz.call31 ⟨OV.p rfl, OV.p rfl, trivial⟩ (rA hC0 g0 (av := n) (by omega) (by omega) (tL hC0.aF u0)) rfl ?_
   rintro _ _ ⟨bs, T0, hT0, t0, rfl, rfl⟩
   have hlb : T0.stands.length = n := by
     have e1 : T0.stands = fT n C0.sem.bN := congrArg St.stands t0
     rw [e1, fF]
   refine WL.mv rfl rfl (WL.xt rfl rfl rfl (WL.xt rfl rfl rfl (WL.sg rfl rfl (WL.sg rfl rfl (WL.nil (WC.seq (WC.sr (WL.mv rfl rfl (WL.val (V.neq (OV.p rfl) (OV.p rfl)) rfl (WL.mv rfl rfl (WL.ah (oj := _) rfl rfl rfl GC.f (V.move (OV.p rfl)) rfl (WL.ah (oj := _) rfl rfl rfl GC.f (V.ku Tryz.underlying28 (OV.g rfl id) (OV.p rfl)) rfl (WL.val (V.aS (OV.p rfl) (OV.g rfl id)) rfl (WL.nil ?_))))))))))))))
   refine WC.aM rfl (by first | rfl | (simp; done) | (simp; omega)) ?_
   refine WC.skip (WC.sr (WL.mv rfl rfl (WL.call (vs := [_, _, _]) Tryz.call17 ⟨OV.p rfl, OV.p rfl, OV.p rfl, trivial⟩ (zF 0) rfl ?_)))
   rintro _ H0 ⟨rfl, h0⟩
   subst H0
   refine WL.alloc (cs := [(.int .i64 0), (.int .i64 0), (.int .i64 0), (.slice none 0 0), (.int .i64 0)]) Tryz.zeroValue37 rfl rfl (fun b15 => ?_)
   refine WL.store (cs := [_, _, _, _, _]) Tryz.sizeOf37 (OV.p rfl) (OV.p rfl) rfl rfl rfl (by repeat (first | exact aQ.here (cs' := [_, _, _, _, _]) rfl rfl | apply aQ.up)) ?_
   refine WL.nil (WC.seq (WC.sr (WL.val (V.fieldAddr mM (OV.p rfl)) rfl (WL.ld Tryz.isAgg32 rfl rfl ?_))))
   refine WL.val (V.neq (OV.p rfl) (OV.p rfl)) rfl (WL.mv rfl rfl (WL.ah (oj := _) rfl rfl rfl GC.f (V.move (OV.p rfl)) rfl ?_))
   refine WL.ah (oj := _) rfl rfl rfl GC.f (V.aU (vs := [_, _, _, _, _]) ⟨Tryz.isAgg37, Tryz.sizeOf37⟩ (OV.p rfl) rfl (fun _ => by repeat (first | exact aT.gets ⟨rfl, rfl, rfl, rfl, rfl, trivial⟩ | apply aT.up))) rfl ?_
   refine WL.kN (oj := _) (vs := [_, _, _]) rfl rfl rfl GC.f Tryz.call28 ⟨OV.p rfl, OV.g rfl id, OV.g rfl id, trivial⟩ (fun hg => qU slot en sec err) rfl ?_
   refine WL.ah (oj := _) rfl rfl rfl GC.f (V.neq (OV.g rfl id) (OV.p rfl)) rfl (WL.val (V.aS (OV.p rfl) (OV.g rfl id)) rfl (WL.mv rfl rfl (WL.ah (oj := _) rfl rfl rfl GC.f (V.move (OV.p rfl)) rfl ?_)))
   refine WL.ah (oj := _) rfl rfl rfl GC.f (V.aU (vs := [_, _, _, _, _]) ⟨Tryz.isAgg37, Tryz.sizeOf37⟩ (OV.p rfl) rfl (fun _ => by repeat (first | exact aT.gets ⟨rfl, rfl, rfl, rfl, rfl, trivial⟩ | apply aT.up))) rfl ?_
   refine WL.kN (oj := _) (vs := [_, _, _]) rfl rfl rfl GC.f Tryz.call28 ⟨OV.g rfl id, OV.p rfl, OV.g rfl id, trivial⟩ (fun hg => qQ slot en sec err) rfl ?_
   refine WL.ah (oj := _) rfl rfl rfl GC.f (V.neq (OV.g rfl id) (OV.p rfl)) rfl (WL.val (V.aS (OV.p rfl) (OV.g rfl id)) rfl (WL.nil ?_))
   refine WC.aM rfl (by first | rfl | (simp; done) | (simp; omega)) ?_
   refine WC.skip (WC.sr (WL.mv rfl rfl ?_))
   have hll : (T0.stands.length : Int) < 11 := by omega
   refine WL.sub (Sub.refl _) (fun w h => h.sel 4 [3, 1, 2, 0] rfl) ?_
   refine WL.call (vs := [_]) Tryz.call24 ⟨OV.p rfl, trivial⟩ (om hll) rfl ?_
   rintro _ _ ⟨rfl, rfl⟩
   refine WL.mv rfl rfl (WL.xt rfl rfl rfl (WL.xt rfl rfl rfl ?_))
   refine WL.alloc (cs := [(.int .i64 0), (.int .i64 0), (.bool false), (.int .i64 0), (.bool false)]) Tryz.zeroValue58 rfl rfl (fun b16 => ?_)
   refine WL.store (cs := [_, _, _, _, _]) Tryz.sizeOf58 (OV.p rfl) (OV.p rfl) rfl rfl rfl (by repeat (first | exact aQ.here (cs' := [_, _, _, _, _]) rfl rfl | apply aQ.up)) ?_
   refine WL.sg rfl rfl (WL.nil (WC.sr (WL.mv rfl rfl (WL.mv rfl rfl ?_))))
   refine WL.sub (Sub.refl _) (fun w h => h.sel 2 [1, 0] rfl) ?_
   refine WL.call (vs := [_, _, _]) Tryz.call17 ⟨OV.p rfl, OV.p rfl, OV.p rfl, trivial⟩ (Gu hll 0) rfl ?_
   rintro _ _ ⟨rfl, rfl⟩
   refine WL.alloc (cs := [(.int .i64 0), (.int .i64 0), (.int .i64 0), (.slice none 0 0), (.int .i64 0)]) Tryz.zeroValue37 rfl rfl (fun b18 => ?_)
   refine WL.store (cs := [_, _, _, _, _]) Tryz.sizeOf37 (OV.p rfl) (OV.p rfl) rfl rfl rfl (by repeat (first | exact aQ.here (cs' := [_, _, _, _, _]) rfl rfl | apply aQ.up)) ?_
   refine WL.nil (WC.sr (WL.val (V.fieldAddr mM (OV.p rfl)) rfl (WL.ld Tryz.isAgg32 rfl rfl ?_)))
   refine WL.val (V.eql (OV.p rfl) (OV.p rfl)) rfl (WL.mv rfl rfl (WL.ah (oj := _) rfl rfl rfl GC.t (V.fieldAddr mU (OV.p rfl)) rfl ?_))
   refine WL.ah (oj := _) rfl rfl rfl GC.t (V.load Tryz.isAgg3 (OV.g rfl id) (fun _ => by repeat (first | exact Rd.here rfl | apply Rd.up))) rfl ?_
   refine WL.ah (oj := _) rfl rfl rfl GC.t (V.eql (OV.g rfl id) (OV.p rfl)) rfl (WL.ah (oj := _) rfl rfl rfl GC.t (V.move (OV.g rfl id)) rfl (WL.ah (oj := _) rfl rfl rfl GC.cf (V.fieldAddr mU (OV.p rfl)) rfl ?_))
   refine WL.ah (oj := _) rfl rfl rfl GC.cf (V.load Tryz.isAgg3 (OV.g rfl id) (fun _ => by repeat (first | exact Rd.here rfl | apply Rd.up))) rfl ?_
   refine WL.ah (oj := _) rfl rfl rfl GC.cf (V.eql (OV.g rfl id) (OV.p rfl)) rfl (WL.ah (oj := _) rfl rfl rfl GC.t (V.aS (OV.g rfl id) (OV.g rfl id)) rfl (WL.val (V.aD (OV.p rfl) (OV.g rfl id)) rfl (WL.mv rfl rfl (WL.ah (oj := _) rfl rfl rfl GC.t (V.fieldAddr lT (OV.p rfl)) rfl ?_))))
   refine WL.ah (oj := _) rfl rfl rfl GC.t (V.load Tryz.isAgg3 (OV.g rfl id) (fun _ => by repeat (first | exact Rd.here rfl | apply Rd.up))) rfl ?_
   refine WL.ah (oj := _) rfl rfl rfl GC.t (V.geq (OV.g rfl id) (OV.p rfl)) rfl (WL.val (V.aD (OV.p rfl) (OV.g rfl id)) rfl (WL.mv rfl rfl (WL.ah (oj := _) rfl rfl rfl GC.t (V.fieldAddr lT (OV.p rfl)) rfl ?_)))
   refine WL.ah (oj := _) rfl rfl rfl GC.t (V.load Tryz.isAgg3 (OV.g rfl id) (fun _ => by repeat (first | exact Rd.here rfl | apply Rd.up))) rfl ?_
   refine WL.ah (oj := _) rfl rfl rfl GC.t (V.leq (OV.g rfl id) (OV.p rfl)) rfl (WL.val (V.aD (OV.p rfl) (OV.g rfl id)) rfl (WL.sg rfl rfl (WL.nil (WC.seq (WC.sr (WL.mv rfl rfl (WL.val (V.lss (OV.p rfl) (OV.p rfl)) rfl (WL.nil ?_))))))))
   refine WC.bU rfl ((by simp; omega)) ?_
   refine WC.seq ?_
   refine WC.sub (Sub.refl _) (fun w h => h.sel 2 [1, 0] rfl) ?_
   refine WC.region (WL.call (vs := []) Tryz.call18 trivial (lF _ _) rfl ?_)
   rintro _ H0 ⟨rfl, h0⟩
   subst H0
   refine WL.mv rfl rfl (WL.ah (oj := _) rfl rfl rfl GC.t (V.move (OV.p rfl)) rfl (WL.ah (oj := _) rfl rfl rfl GC.t (V.eql (OV.g rfl id) (OV.p rfl)) rfl (WL.val (V.aD (OV.p rfl) (OV.g rfl id)) rfl (WL.mv rfl rfl (WL.ah (oj := _) rfl rfl rfl GC.t (V.fieldAddr mM (OV.p rfl)) rfl ?_)))))
   refine WL.ah (oj := _) rfl rfl rfl GC.t (V.load Tryz.isAgg32 (OV.g rfl id) (fun _ => by repeat (first | exact Rd.here rfl | apply Rd.up))) rfl ?_
   refine WL.ah (oj := _) rfl rfl rfl GC.t (V.eql (OV.g rfl id) (OV.p rfl)) rfl (WL.val (V.aD (OV.p rfl) (OV.g rfl id)) rfl (WL.mv rfl rfl (WL.ah (oj := _) rfl rfl rfl GC.t (V.move (OV.p rfl)) rfl (WL.ah (oj := _) rfl rfl rfl GC.t (V.move (OV.p rfl)) rfl ?_))))
   refine WL.ah (oj := _) rfl rfl rfl GC.t (V.aU (vs := [_, _, _, _, _]) ⟨Tryz.isAgg37, Tryz.sizeOf37⟩ (OV.p rfl) rfl (fun _ => by repeat (first | exact aT.gets ⟨rfl, rfl, rfl, rfl, rfl, trivial⟩ | apply aT.up))) rfl ?_
   refine WL.kN (oj := _) (vs := [_, _, _]) rfl rfl rfl GC.t Tryz.call28 ⟨OV.g rfl id, OV.g rfl id, OV.g rfl id, trivial⟩ (fun hg => zT hll slot en sec err) rfl ?_
   refine WL.ah (oj := _) rfl rfl rfl GC.t (V.eql (OV.g rfl id) (OV.p rfl)) rfl (WL.val (V.aD (OV.p rfl) (OV.g rfl id)) rfl (WL.sg rfl rfl (WL.nil (WC.ret ?_))))
   exact aj.ret (H' := F) (aL.tmp rfl rfl) (fun w h => by repeat (first | exact h | replace h := h.tail)) ⟨rfl, rfl⟩
theorem qZ (g : Geo) (av slot en sec err : Int) (h11 : 11 ≤ av) {A : Option Addr} {m cap : Nat} {lw : Value} {K : World} {F : List au} :
    aG Tryz.prog 7 #[g.v, .int .i64 av, .slice A m cap, .agg #[.int .i64 slot, .int .i64 en, .int .i64 sec, lw, .int .i64 err]] K F (.bool true) := by
  refine Does.enter Tryz.func7 rfl Tryz.ntmps7 rfl ?_
  simp only [aJ, Nat.reduceAdd]
  refine WC.sr ?_
  refine WL.box (cs := [_, _, _, _, _]) (OV.p rfl) rfl rfl (fun b4 => ?_)
  refine WL.box (cs := [_, _, _, _, _]) (OV.p rfl) rfl rfl (fun b7 => ?_)
  refine WL.sg rfl rfl (WL.nil (WC.seq (WC.sr ?_)))
  refine WL.val (V.aU (vs := [_, _, _, _, _]) ⟨Tryz.isAgg23, Tryz.sizeOf23⟩ (OV.p rfl) rfl (fun _ => by repeat (first | exact aT.gets ⟨rfl, rfl, rfl, rfl, rfl, trivial⟩ | apply aT.up))) rfl ?_
  refine WL.call (vs := [_]) Tryz.call13 ⟨OV.p rfl, trivial⟩ (vL g _ _) rfl ?_
  rintro _ H0 ⟨rfl, h0⟩
  subst H0
  refine WL.val (V.not (OV.p rfl)) rfl (WL.mv rfl rfl (WL.ah (oj := _) rfl rfl rfl GC.f (V.move (OV.p rfl)) rfl (WL.ah (oj := _) rfl rfl rfl GC.f (V.lss (OV.g rfl id) (OV.p rfl)) rfl (WL.val (V.aS (OV.p rfl) (OV.g rfl id)) rfl (WL.mv rfl rfl (WL.ah (oj := _) rfl rfl rfl GC.f (V.move (OV.p rfl)) rfl (WL.ah (oj := _) rfl rfl rfl GC.f (V.gtr (OV.g rfl id) (OV.p rfl)) rfl (WL.val (V.aS (OV.p rfl) (OV.g rfl id)) rfl (WL.mv rfl rfl (WL.ah (oj := _) rfl rfl rfl GC.f (V.move (OV.p rfl)) rfl (WL.ah (oj := _) rfl rfl rfl GC.f (V.len (t := 24) Tryz.runUnderlying24 (OV.g rfl id)) rfl (WL.ah (oj := _) rfl rfl rfl GC.f (V.gtr (OV.g rfl id) (OV.p rfl)) rfl (WL.val (V.aS (OV.p rfl) (OV.g rfl id)) rfl (WL.nil ?_))))))))))))))
  refine WC.cond rfl (fun hc0 => ?_) (fun hc0 => ?_)
  ·simp only [Bool.or_eq_true, Bool.or_eq_false_iff, Bool.and_eq_true, decide_eq_true_eq, decide_eq_false_iff_not, Bool.not_eq_true', Bool.not_eq_false'] at hc0
   refine WC.sr (WL.sg rfl rfl (WL.nil (WC.ret ?_)))
   exact aj.ret (H' := F) (aL.tmp rfl rfl) (fun w h => by repeat (first | exact h | replace h := h.tail)) ⟨rfl, rfl⟩
  ·simp only [Bool.or_eq_true, Bool.or_eq_false_iff, Bool.and_eq_true, decide_eq_true_eq, decide_eq_false_iff_not, Bool.not_eq_true', Bool.not_eq_false'] at hc0
   obtain ⟨⟨⟨⟨⟨⟨⟨hmay, hr⟩, Qq⟩, PK⟩, RF⟩, hl1⟩, PV⟩, PX⟩ := hc0
   have hg := Geo.lH hmay
   obtain ⟨n, rfl⟩ : ∃ n : Nat, av = (n : Int) := ⟨av.toNat, by omega⟩
   refine WC.skip (WC.sr ?_)
   refine WL.val (V.aU (vs := [_, _, _, _, _]) ⟨Tryz.isAgg23, Tryz.sizeOf23⟩ (OV.p rfl) rfl (fun _ => by repeat (first | exact aT.gets ⟨rfl, rfl, rfl, rfl, rfl, trivial⟩ | apply aT.up))) rfl ?_
   refine WL.call (vs := [_, _]) Tryz.call29 ⟨OV.p rfl, OV.p rfl, trivial⟩ (yt g (l := []) Seq.nil (by decide)) rfl ?_
   rintro _ _ (⟨_, hin, bc, C0, hC0, s0, rfl, rfl⟩ | ⟨hno, rfl, rfl⟩)
   rotate_left
   · exact (hno ⟨hmay, fun x hx => by simp at hx⟩).elim
   have g0 : C0.g = g := by rw [show C0.g = C0.sem.g from rfl, s0]; rfl
   have u0 : C0.sem.up = true := by rw [s0]; rfl
   refine WL.mv rfl rfl (WL.xt rfl rfl rfl (WL.xt rfl rfl rfl (WL.sg rfl rfl (WL.sg rfl rfl (WL.nil (WC.sr (WL.mv rfl rfl (WL.call (vs := [_]) Tryz.call30 ⟨OV.p rfl, trivial⟩ (rX hC0 g0) rfl ?_))))))))
   rintro _ _ ⟨bd, rfl, rfl⟩
   refine WL.mv rfl rfl (WL.xt rfl rfl rfl (WL.xt rfl rfl rfl (WL.sg rfl rfl (WL.sg rfl rfl (WL.nil (WC.sr (WL.mv rfl rfl (WL.mv rfl rfl ?_))))))))
   refine WL.call (vs := [_, _]) Tryz.call31 ⟨OV.p rfl, OV.p rfl, trivial⟩ (rA hC0 g0 (av := n) (by omega) (by omega) (tL hC0.aF u0)) rfl ?_
   rintro _ _ ⟨bs, T0, hT0, t0, rfl, rfl⟩
   have hlb : T0.stands.length = n := by
     have e1 : T0.stands = fT n C0.sem.bN := congrArg St.stands t0
     rw [e1, fF]
   refine WL.mv rfl rfl (WL.xt rfl rfl rfl (WL.xt rfl rfl rfl (WL.sg rfl rfl (WL.sg rfl rfl (WL.nil (WC.seq (WC.sr (WL.mv rfl rfl (WL.val (V.neq (OV.p rfl) (OV.p rfl)) rfl (WL.mv rfl rfl (WL.ah (oj := _) rfl rfl rfl GC.f (V.move (OV.p rfl)) rfl (WL.ah (oj := _) rfl rfl rfl GC.f (V.ku Tryz.underlying28 (OV.g rfl id) (OV.p rfl)) rfl (WL.val (V.aS (OV.p rfl) (OV.g rfl id)) rfl (WL.nil ?_))))))))))))))
   refine WC.aM rfl (by first | rfl | (simp; done) | (simp; omega)) ?_
   refine WC.skip (WC.sr (WL.mv rfl rfl (WL.call (vs := [_, _, _]) Tryz.call17 ⟨OV.p rfl, OV.p rfl, OV.p rfl, trivial⟩ (zF 0) rfl ?_)))
   rintro _ H0 ⟨rfl, h0⟩
   subst H0
   refine WL.alloc (cs := [(.int .i64 0), (.int .i64 0), (.int .i64 0), (.slice none 0 0), (.int .i64 0)]) Tryz.zeroValue37 rfl rfl (fun b15 => ?_)
   refine WL.store (cs := [_, _, _, _, _]) Tryz.sizeOf37 (OV.p rfl) (OV.p rfl) rfl rfl rfl (by repeat (first | exact aQ.here (cs' := [_, _, _, _, _]) rfl rfl | apply aQ.up)) ?_
   refine WL.nil (WC.seq (WC.sr (WL.val (V.fieldAddr mM (OV.p rfl)) rfl (WL.ld Tryz.isAgg32 rfl rfl ?_))))
   refine WL.val (V.neq (OV.p rfl) (OV.p rfl)) rfl (WL.mv rfl rfl (WL.ah (oj := _) rfl rfl rfl GC.f (V.move (OV.p rfl)) rfl ?_))
   refine WL.ah (oj := _) rfl rfl rfl GC.f (V.aU (vs := [_, _, _, _, _]) ⟨Tryz.isAgg37, Tryz.sizeOf37⟩ (OV.p rfl) rfl (fun _ => by repeat (first | exact aT.gets ⟨rfl, rfl, rfl, rfl, rfl, trivial⟩ | apply aT.up))) rfl ?_
   refine WL.kN (oj := _) (vs := [_, _, _]) rfl rfl rfl GC.f Tryz.call28 ⟨OV.p rfl, OV.g rfl id, OV.g rfl id, trivial⟩ (fun hg => qU slot en sec err) rfl ?_
   refine WL.ah (oj := _) rfl rfl rfl GC.f (V.neq (OV.g rfl id) (OV.p rfl)) rfl (WL.val (V.aS (OV.p rfl) (OV.g rfl id)) rfl (WL.mv rfl rfl (WL.ah (oj := _) rfl rfl rfl GC.f (V.move (OV.p rfl)) rfl ?_)))
   refine WL.ah (oj := _) rfl rfl rfl GC.f (V.aU (vs := [_, _, _, _, _]) ⟨Tryz.isAgg37, Tryz.sizeOf37⟩ (OV.p rfl) rfl (fun _ => by repeat (first | exact aT.gets ⟨rfl, rfl, rfl, rfl, rfl, trivial⟩ | apply aT.up))) rfl ?_
   refine WL.kN (oj := _) (vs := [_, _, _]) rfl rfl rfl GC.f Tryz.call28 ⟨OV.g rfl id, OV.p rfl, OV.g rfl id, trivial⟩ (fun hg => qQ slot en sec err) rfl ?_
   refine WL.ah (oj := _) rfl rfl rfl GC.f (V.neq (OV.g rfl id) (OV.p rfl)) rfl (WL.val (V.aS (OV.p rfl) (OV.g rfl id)) rfl (WL.nil ?_))
   refine WC.aM rfl (by first | rfl | (simp; done) | (simp; omega)) ?_
   refine WC.skip (WC.sr (WL.mv rfl rfl ?_))
   have e0 : lQ C0.sem T0.sem = (bW.zero, 0, T0.sem) := by rw [t0, s0]; exact BN hg (by omega)
   refine WL.sub (Sub.refl _) (fun w h => h.sel 4 [1, 2, 3, 0] rfl) ?_
   refine WL.call (vs := [_]) Tryz.call24 ⟨OV.p rfl, trivial⟩ (nE hC0 g0 hT0 (by omega)) rfl ?_
   rintro _ _ ⟨T1, hT1, t1, rfl, rfl⟩
   rw [e0] at t1 ⊢
   have l1 : T1.stands = T0.stands := congrArg St.stands t1
   refine WL.mv rfl rfl (WL.xt rfl rfl rfl (WL.xt rfl rfl rfl ?_))
   refine WL.alloc (cs := [(.int .i64 0), (.int .i64 0), (.bool false), (.int .i64 0), (.bool false)]) Tryz.zeroValue58 rfl rfl (fun b16 => ?_)
   refine WL.store (cs := [_, _, _, _, _]) Tryz.sizeOf58 (OV.p rfl) (OV.p rfl) rfl rfl rfl (by repeat (first | exact aQ.here (cs' := [_, _, _, _, _]) rfl rfl | apply aQ.up)) ?_
   refine WL.sg rfl rfl (WL.nil (WC.sr (WL.mv rfl rfl (WL.mv rfl rfl ?_))))
   refine WL.sub (Sub.refl _) (fun w h => h.sel 4 [1, 2, 3, 0] rfl) ?_
   refine WL.call (vs := [_, _, _]) Tryz.call17 ⟨OV.p rfl, OV.p rfl, OV.p rfl, trivial⟩ (xU hC0 g0 hT1 (by rw [l1]; omega) (by rw [t1, e0]; rfl) 0) rfl ?_
   rintro _ _ ⟨T2, Fg, t2, rfl, rfl⟩
   rw [t1, e0] at t2 ⊢
   have l2 : T2.stands = T0.stands := congrArg St.stands t2
   refine WL.alloc (cs := [(.int .i64 0), (.int .i64 0), (.int .i64 0), (.slice none 0 0), (.int .i64 0)]) Tryz.zeroValue37 rfl rfl (fun b18 => ?_)
   refine WL.store (cs := [_, _, _, _, _]) Tryz.sizeOf37 (OV.p rfl) (OV.p rfl) rfl rfl rfl (by repeat (first | exact aQ.here (cs' := [_, _, _, _, _]) rfl rfl | apply aQ.up)) ?_
   refine WL.nil (WC.sr (WL.val (V.fieldAddr mM (OV.p rfl)) rfl (WL.ld Tryz.isAgg32 rfl rfl ?_)))
   refine WL.val (V.eql (OV.p rfl) (OV.p rfl)) rfl (WL.mv rfl rfl (WL.ah (oj := _) rfl rfl rfl GC.t (V.fieldAddr mU (OV.p rfl)) rfl ?_))
   refine WL.ah (oj := _) rfl rfl rfl GC.t (V.load Tryz.isAgg3 (OV.g rfl id) (fun _ => by repeat (first | exact Rd.here rfl | apply Rd.up))) rfl ?_
   refine WL.ah (oj := _) rfl rfl rfl GC.t (V.eql (OV.g rfl id) (OV.p rfl)) rfl (WL.ah (oj := _) rfl rfl rfl GC.t (V.move (OV.g rfl id)) rfl (WL.ah (oj := _) rfl rfl rfl GC.cf (V.fieldAddr mU (OV.p rfl)) rfl ?_))
   refine WL.ah (oj := _) rfl rfl rfl GC.cf (V.load Tryz.isAgg3 (OV.g rfl id) (fun _ => by repeat (first | exact Rd.here rfl | apply Rd.up))) rfl ?_
   refine WL.ah (oj := _) rfl rfl rfl GC.cf (V.eql (OV.g rfl id) (OV.p rfl)) rfl (WL.ah (oj := _) rfl rfl rfl GC.t (V.aS (OV.g rfl id) (OV.g rfl id)) rfl (WL.val (V.aD (OV.p rfl) (OV.g rfl id)) rfl (WL.mv rfl rfl (WL.ah (oj := _) rfl rfl rfl GC.t (V.fieldAddr lT (OV.p rfl)) rfl ?_))))
   refine WL.ah (oj := _) rfl rfl rfl GC.t (V.load Tryz.isAgg3 (OV.g rfl id) (fun _ => by repeat (first | exact Rd.here rfl | apply Rd.up))) rfl ?_
   refine WL.ah (oj := _) rfl rfl rfl GC.t (V.geq (OV.g rfl id) (OV.p rfl)) rfl (WL.val (V.aD (OV.p rfl) (OV.g rfl id)) rfl (WL.mv rfl rfl (WL.ah (oj := _) rfl rfl rfl GC.t (V.fieldAddr lT (OV.p rfl)) rfl ?_)))
   refine WL.ah (oj := _) rfl rfl rfl GC.t (V.load Tryz.isAgg3 (OV.g rfl id) (fun _ => by repeat (first | exact Rd.here rfl | apply Rd.up))) rfl ?_
   refine WL.ah (oj := _) rfl rfl rfl GC.t (V.leq (OV.g rfl id) (OV.p rfl)) rfl (WL.val (V.aD (OV.p rfl) (OV.g rfl id)) rfl (WL.sg rfl rfl (WL.nil (WC.seq (WC.sr (WL.mv rfl rfl (WL.val (V.lss (OV.p rfl) (OV.p rfl)) rfl (WL.nil ?_))))))))
   refine WC.aM rfl ((by simp; omega)) ?_
   refine WC.skip (WC.sr (WL.mv rfl rfl (WL.mv rfl rfl ?_)))
   refine WL.val (V.aU (vs := [_, _, _, _, _]) ⟨Tryz.isAgg37, Tryz.sizeOf37⟩ (OV.p rfl) rfl (fun _ => by repeat (first | exact aT.gets ⟨rfl, rfl, rfl, rfl, rfl, trivial⟩ | apply aT.up))) rfl ?_
   have c0 := J3 hg (by omega) (av := n) (by omega) slot sec err
   have ht2 : T2.sem = iQ (ak.new g []) n := by rw [t2, t0, s0]
   refine WL.sub (Sub.refl _) (fun w h => h.sel 4 [1, 2, 3, 0] rfl) ?_
   refine WL.call (vs := [_, _, _]) Tryz.call28 ⟨OV.p rfl, OV.p rfl, OV.p rfl, trivial⟩ (Cx hC0 g0 Fg (by rw [l2]; omega) (by
     obtain ⟨st, hI⟩ := (F3.new hg n).si
     rw [ht2]
     exact fun l hl => Nat.le_trans (hI.long l hl) (by decide)) slot en sec err) rfl ?_
   rintro _ _ ⟨C3, T3, Oa, g3, rE, s3, t3, rfl, rfl⟩
   rw [s0, ht2] at s3 t3 ⊢
   rw [c0.1]
   have l3 : T3.stands.length = n := by rw [show T3.stands = T3.sem.stands from rfl, t3]; exact c0.2
   refine WL.sg rfl rfl (WL.nil (WC.seq (WC.sr (WL.mv rfl rfl (WL.val (V.neq (OV.p rfl) (OV.p rfl)) rfl (WL.mv rfl rfl (WL.ah (oj := _) rfl rfl rfl GC.f (V.fieldAddr mM (OV.p rfl)) rfl ?_)))))))
   refine WL.ah (oj := _) rfl rfl rfl GC.f (V.load Tryz.isAgg32 (OV.g rfl id) (fun _ => by repeat (first | exact Rd.here rfl | apply Rd.up))) rfl ?_
   refine WL.ah (oj := _) rfl rfl rfl GC.f (V.neq (OV.g rfl id) (OV.p rfl)) rfl (WL.val (V.aS (OV.p rfl) (OV.g rfl id)) rfl (WL.mv rfl rfl (WL.ah (oj := _) rfl rfl rfl GC.f (V.move (OV.p rfl)) rfl (WL.ah (oj := _) rfl rfl rfl GC.f (V.move (OV.p rfl)) rfl (WL.ah (oj := _) rfl rfl rfl GC.f (V.eql (OV.g rfl id) (OV.p rfl)) rfl (WL.ah (oj := _) rfl rfl rfl GC.f (V.PL Tryz.underlying4 (OV.g rfl id) (OV.g rfl id)) rfl (WL.val (V.aS (OV.p rfl) (OV.g rfl id)) rfl (WL.mv rfl rfl (WL.ah (oj := _) rfl rfl rfl GC.f (V.move (OV.p rfl)) rfl (WL.ah (oj := _) rfl rfl rfl GC.f (V.not (OV.g rfl id)) rfl (WL.ah (oj := _) rfl rfl rfl GC.f (V.move (OV.g rfl id)) rfl (WL.ah (oj := _) rfl rfl rfl GC.ct (V.move (OV.p rfl)) rfl (WL.ah (oj := _) rfl rfl rfl GC.ct (V.neq (OV.g rfl id) (OV.p rfl)) rfl (WL.ah (oj := _) rfl rfl rfl GC.f (V.aD (OV.g rfl id) (OV.g rfl id)) rfl (WL.val (V.aS (OV.p rfl) (OV.g rfl id)) rfl (WL.nil ?_))))))))))))))))
   refine WC.aM rfl ((by have e : (decide (err = 0) && (decide (slot = 0) || decide (slot = 1)) && decide (0 ≤ sec) && decide (sec ≤ 64)) = xM slot sec err := rfl; rw [e]; cases xM slot sec err <;> rfl)) ?_
   refine WC.skip (WC.sr (WL.mv rfl rfl (WL.call (vs := [_]) Tryz.call32 ⟨OV.p rfl, trivial⟩ (JH (C := C3)) rfl ?_)))
   rintro _ _ rfl
   refine WL.nil (WC.sr (WL.mv rfl rfl ?_))
   refine WL.call (vs := [_]) Tryz.call24 ⟨OV.p rfl, trivial⟩ (nE Oa.off g3 rE (by omega)) rfl ?_
   rintro _ _ ⟨T4, SY, t4, rfl, rfl⟩
   have hh := MF (S := C3.off.sem) rfl T3.sem
   rw [← t4] at hh
   refine WL.mv rfl rfl (WL.xt rfl rfl rfl (WL.xt rfl rfl rfl ?_))
   refine WL.alloc (cs := [(.int .i64 0), (.int .i64 0), (.bool false), (.int .i64 0), (.bool false)]) Tryz.zeroValue58 rfl rfl (fun NT => ?_)
   refine WL.store (cs := [_, _, _, _, _]) Tryz.sizeOf58 (OV.p rfl) (OV.p rfl) rfl rfl rfl (by repeat (first | exact aQ.here (cs' := [_, _, _, _, _]) rfl rfl | apply aQ.up)) ?_
   refine WL.sg rfl rfl (WL.nil (WC.seq (WC.sr (WL.mv rfl rfl ?_))))
   refine WL.sub (Sub.refl _) (fun w h => h.sel 4 [3, 0, 1, 2] rfl) ?_
   refine WL.call (vs := [_, _]) Tryz.call33 ⟨OV.p rfl, OV.p rfl, trivial⟩ (H9 (T := T4) (aI := 0)) rfl ?_
   rintro _ _ ⟨rfl, rfl⟩
   rw [hh]
   refine WL.val (V.not (OV.p rfl)) rfl (WL.nil ?_)
   refine WC.bU rfl (by first | rfl | (simp; done) | (simp; omega)) ?_
   refine WC.sr (WL.call (vs := []) Tryz.call18 trivial (lF _ _) rfl ?_)
   rintro _ H0 ⟨rfl, h0⟩
   subst H0
   refine WL.sg rfl rfl (WL.nil (WC.ret ?_))
   exact aj.ret (H' := F) (aL.tmp rfl rfl) (fun w h => by repeat (first | exact h | replace h := h.tail)) ⟨rfl, rfl⟩
theorem uz (g : Geo) (av slot en sec err : Int) {A : Option Addr} {m cap : Nat} {lw : Value} {K : World} {F : List au} :
    aG Tryz.prog 7 #[g.v, .int .i64 av, .slice A m cap, .agg #[.int .i64 slot, .int .i64 en, .int .i64 sec, lw, .int .i64 err]] K F (.bool true) :=
  if h : av < 11 then rQ g av slot en sec err h else qZ g av slot en sec err (by omega)
open Go.Sl Go.ChangeShapes Go.WideShapes Go.ChangeAt Go.RowKit
set_option maxRecDepth 100000
theorem Ep {W : World} {r : Reach} {base : Nat} {v : Value} (h : Value.okWide Tryz.prog W r base 37 v) : ∃ (s n c : Int) (w : Value) (e : Int), v = .agg #[.int .i64 s, .int .i64 n, .int .i64 c, w, .int .i64 e] := by
  obtain ⟨cs, rfl, hsz, hc⟩ := C9 (ts := [3, 3, 3, 35, 32]) ⟨_, Tryz.underlying37, .inl ⟨_, rfl⟩⟩ (by kernel_rfl) (by kernel_rfl) h
  obtain ⟨l⟩ := cs
  match l, hsz with
  | [c0, c1, c2, c3, c4], _ =>
    obtain ⟨x0, rfl, _⟩ := (hc 0 _ c0 rfl rfl).int Tryz.underlying3
    obtain ⟨x1, rfl, _⟩ := (hc 1 _ c1 rfl rfl).int Tryz.underlying3
    obtain ⟨x2, rfl, _⟩ := (hc 2 _ c2 rfl rfl).int Tryz.underlying3
    obtain ⟨x4, rfl, _⟩ := (hc 4 _ c4 rfl rfl).int Tryz.underlying32
    exact ⟨x0, x1, x2, c3, x4, rfl⟩
end Go.Proofs.YtcedojacbhnbiaaGreat
