import Derived.Test.YtcmojpiokjhmhaaGreatP33
import Derived.OpenShut
namespace Go.Sl
open Go.RowKit
set_option linter.unusedSimpArgs false
theorem V.OG {Mo : Mode} {P : Program} {K : World} {n : Nat} {c : Bool} {e : Env} {H : List ak} {dst : Option Tmp} {ty : TypeId} {pos : String} {af : Array Edge} {gd : Option (Nat × Bool)} {x y : Operand} {T E s m k k' : Nat} {A : Option Addr} {kd : IntKind} {j : Int} {v : Value} (hT : KT P T m E s) (hx : OV c e x (sp A k)) (hy : OV c e y (.int kd j)) (hb : c = true → 0 ≤ j ∧ j < m) (hr : c = true → Rd K H (A.map (·.add k')) v) :
    Val Mo P K n c e H ⟨dst, .indexAddr T x y, ty, pos, af, gd⟩ (sp A (k + j.toNat * s)) := fun hc a w ha hw => by
  show ((do pure (Next.value (← Instr.indexAt T (a.eval x) (a.eval y)))) : Sem Next).run P w = _
  rw [hx.ev hc ha, hy.ev hc ha]
  obtain ⟨p, h1, h2⟩ := hr hc w hw
  cases A with
  | none => simp at h1
  | some a' => simp [sp, Instr.indexAt, Instr.sureAddr, asIntOf, hT.1 w, hT.2 w, hb hc, add_add]
end Go.Sl
namespace Go.Proofs.YtcmojpiokjhmhaaGreat
open Go.Sl Go.RowKit
set_option linter.unusedVariables false
set_option linter.unusedSimpArgs false
set_option maxRecDepth 20000
section
variable {K : World} {F : List ak} {g : Geo} {A B : Option Addr} {m cap q cap' : Nat} {ss : List ByteArray} {ws : List Wg}
set_option maxHeartbeats 1000000 in
theorem yA (limit : Int) (hs : Seq K F A m 1 (strs ss)) (hl : ss.length = m) (hw : Seq K F B q 4 (ws.map Wg.cells).flatten) (hwl : ws.length = q) :
    aL Tryz.prog 5 #[g.v, .slice A m cap, .slice B q cap', .int .i64 limit] K F (.bool true) := by
  refine Does.enter Tryz.func5 rfl Tryz.ntmps5 rfl ?_
  simp only [aI, Nat.reduceAdd]
  refine WC.sr ?_
  refine WL.box (cs := [_, _, _, _, _]) (OV.p rfl) rfl rfl (fun b4 => ?_)
  refine WL.sg rfl rfl (WL.nil (WC.seq (WC.sr ?_)))
  refine WL.val (V.bB (vs := [_, _, _, _, _]) ⟨Tryz.isAgg23, Tryz.sizeOf23⟩ (OV.p rfl) rfl (fun _ => by repeat (first | exact bD.gets ⟨rfl, rfl, rfl, rfl, rfl, trivial⟩ | apply bD.up))) rfl ?_
  refine WL.mv rfl rfl (WL.mv rfl rfl (WL.call (vs := [_, _, _]) Tryz.call29 ⟨OV.p rfl, OV.p rfl, OV.p rfl, trivial⟩ (nA g hs.up hl) rfl ?_))
  rintro _ H0 ⟨rfl, h0⟩
  subst H0
  refine WL.val (V.not (OV.p rfl)) rfl (WL.nil ?_)
  refine WC.cond rfl (fun hc0 => ?_) (fun hc0 => ?_)
  ·simp only [Bool.not_eq_true', Bool.not_eq_false'] at hc0
   refine WC.sr (WL.sg rfl rfl (WL.nil (WC.ret ?_)))
   exact au.ret (H' := F) (aO.tmp rfl rfl) (fun w h => h.drop 1) ⟨rfl, rfl⟩
  ·simp only [Bool.not_eq_true', Bool.not_eq_false'] at hc0
   have hmay := hc0
   obtain ⟨DF, Iw, hcp, NU⟩ := vw hmay
   rw [hl] at DF
   refine WC.skip (WC.sr ?_)
   refine WL.val (V.bB (vs := [_, _, _, _, _]) ⟨Tryz.isAgg23, Tryz.sizeOf23⟩ (OV.p rfl) rfl (fun _ => by repeat (first | exact bD.gets ⟨rfl, rfl, rfl, rfl, rfl, trivial⟩ | apply bD.up))) rfl ?_
   refine WL.mv rfl rfl (WL.mv rfl rfl (WL.call (vs := [_, _, _]) Tryz.call30 ⟨OV.p rfl, OV.p rfl, OV.p rfl, trivial⟩ (lH (ss := ss) (ws := ws) hs.up hl hw.up hwl hmay) rfl ?_))
   rintro _ _ ⟨bc, bd, bs, C, T, hC, hg, hT, hH, hl0, rfl, rfl⟩
   have hlen : T.sem.stands.length = m := hH.len
   have hF := qA ss m
   obtain ⟨fl, hfl⟩ : ∃ fl : Nat → List Int, fl = fun k => (List.range k).map fun j => (G8 C.sem T.sem j : Int) := ⟨_, rfl⟩
   have Qd : ∀ k, (fl k).length = k := fun k => by rw [hfl]; simp
   have Rq : ∀ k, fl (k + 1) = fl k ++ [(G8 C.sem T.sem k : Int)] := fun k => by rw [hfl]; simp [List.range_succ]
   have Sj : ∀ j, j < m → (fl m).getD j 0 = (G8 C.sem T.sem j : Int) := fun j hj => by rw [hfl]; simp [List.getD, hj]
   refine WL.mv rfl rfl (WL.xt rfl rfl rfl (WL.xt rfl rfl rfl (WL.xt rfl rfl rfl (WL.sg rfl rfl (WL.sg rfl rfl (WL.sg rfl rfl (WL.nil (WC.seq (WC.sr (WL.mv rfl rfl (WL.val (V.lQ Tryz.underlying33 (OV.p rfl) (OV.p rfl)) rfl (WL.nil ?_))))))))))))
   refine WC.aQ rfl (by first | rfl | (simp; done) | (simp; omega)) ?_
   refine WC.skip (WC.sr (WL.sg rfl rfl (WL.nil (WC.seq (WC.sr (WL.sg rfl rfl (WL.nil (WC.block ?_))))))))
   refine WC.loop (σ := Nat × bC × Option Addr × Nat) (fun s => [(1, .slice A m cap), (3, .int .i64 limit), (9, ptr bc 0), (11, ptr bs 0), (12, .slice s.2.2.1 s.1 s.2.2.2), (13, .int .i64 (s.1 : Int))]) (fun s => aU (.slice s.2.2.1 s.1 s.2.2.2) 3 1 s.1 (ints .i64 (fl s.1)) :: C.A bc :: bK bd bc g :: s.2.1.A bs bd g :: F) (fun s => s.1 ≤ m ∧ s.2.1.Ok g ∧ s.2.1.sem = T.sem) (fun s => m - s.1) (0, T, none, 0) ⟨Nat.zero_le _, hT, rfl⟩ (.cons rfl (.cons rfl (.cons rfl (.cons rfl (.cons rfl (.cons rfl (.nil _))))))) (fun w h => by
     have h2 := Sat.fO (h.sel 4 [0, 1, 2] rfl) 3 1
     dsimp only
     rw [show fl 0 = [] by rw [hfl]; rfl]
     exact h2) ?_
   rintro ⟨k, T2, A2, c2⟩ ⟨hk, nM, e2⟩
   dsimp only at hk nM e2 ⊢
   refine WC.seq (WC.sr (WL.mv rfl rfl (WL.mv rfl rfl (WL.val (V.len (t := 38) Tryz.runUnderlying38 (OV.p rfl)) rfl (WL.val (V.lss (OV.p rfl) (OV.p rfl)) rfl (WL.nil ?_))))))
   refine WC.cond rfl (fun hc2 => ?_) (fun hc2 => ?_)
   ·simp only [decide_eq_true_eq, decide_eq_false_iff_not] at hc2
    have hkm : k < m := by omega
    have hG := hH.rd hF hkm
    rw [← e2] at hG
    obtain ⟨N, hN⟩ : ∃ N, N = G8 C.sem T.sem k := ⟨_, rfl⟩
    have hst := Rq k
    rw [e2, ← hN] at hG
    rw [← hN] at hst
    refine WC.skip (WC.seq (WC.block (WC.sr (WL.mv rfl rfl (WL.mv rfl rfl ?_)))))
    refine WL.sub (H' := C.A bc :: bK bd bc g :: T2.A bs bd g :: aU (.slice A2 k c2) 3 1 k (ints .i64 (fl k)) :: F) (Sub.refl _) (fun w h => h.sel 4 [1, 2, 3, 0] rfl) ?_
    refine WL.call (vs := [_, _]) Tryz.call36 ⟨OV.p rfl, OV.p rfl, trivial⟩ (oD hC hg nM (k : Int)) rfl ?_
    rintro _ _ ⟨A9, c9, T3, jO, t3, rfl, rfl⟩
    rw [e2, hG] at t3 ⊢
    dsimp only at t3 ⊢
    refine WL.mv rfl rfl (WL.xt rfl rfl rfl (WL.xt rfl rfl rfl (WL.xt rfl rfl rfl (WL.sg rfl rfl (WL.sg rfl rfl (WL.sg rfl rfl (WL.nil (WC.seq (WC.sr (WL.mv rfl rfl (WL.val (V.neq (OV.p rfl) (OV.p rfl)) rfl (WL.nil ?_))))))))))))
    refine WC.aQ rfl (by first | rfl | (simp; done) | (simp; omega)) ?_
    refine WC.skip (WC.region (WL.mv rfl rfl (WL.mv rfl rfl ?_)))
    refine WL.buildSlice (E := 3) (cs := [_]) (vs := [(0, _)]) ⟨OV.p rfl, trivial⟩ rfl (bT _) rfl (fun TN => ?_)
    refine WL.sub (H' := aU (.slice A2 k c2) 3 1 k (ints .i64 (fl k)) :: Cells TN 3 [.int .i64 (N : Int)] :: C.A bc :: bK bd bc g :: T3.A bs bd g :: F) (Sub.refl _) (fun w h => h.sel 6 [5, 0, 2, 3, 4] rfl) ?_
    refine WL.append (m := k) (q := 1) (news := [.int .i64 (N : Int)]) Tryz.underlying24 el3 (OV.p rfl) (OV.p rfl) (Seq.all rfl) (by intro u hu; rw [List.mem_singleton.1 hu]; rfl) (by omega) rfl rfl (fun A5 c5 EJ ny => ?_)
    refine WL.sg rfl rfl (WL.nil (WC.region (WL.mv rfl rfl (WL.ad rfl rfl rfl ?_))))
    refine WL.sg rfl rfl (WL.nil ?_)
    refine ⟨rfl, ?_⟩
    exact ⟨(k + 1, T3, A5, c5), ⟨hkm, jO, t3⟩, (by show m - (k + 1) < m - k; omega), .cons rfl (.cons rfl (.cons rfl (.cons rfl (.cons rfl (.cons (look_eq rfl (by simp)) (.nil _)))))), fun w h => by
      dsimp only
      rw [hst, bf]
      exact h.sel 5 [0, 2, 3, 4] rfl⟩
   ·simp only [decide_eq_true_eq, decide_eq_false_iff_not] at hc2
    obtain rfl : k = m := by omega
    refine WC.exit (WC.sr (WL.mv rfl rfl (WL.mv rfl rfl ?_)))
    refine WL.sub (Sub.refl _) (fun w h => h.sel 4 [1, 2, 3, 0] rfl) ?_
    refine WL.call (vs := [_, _]) Tryz.call31 ⟨OV.p rfl, OV.p rfl, trivial⟩ (iW hC hg nM (by show T2.sem.stands.length ≤ 1000; rw [e2]; omega) limit) rfl ?_
    rintro _ _ ⟨A5, c5, T5, PZ, t5, rfl, rfl⟩
    rw [e2] at t5 ⊢
    refine WL.mv rfl rfl (WL.xt rfl rfl rfl (WL.xt rfl rfl rfl (WL.sg rfl rfl (WL.sg rfl rfl (WL.nil (WC.seq (WC.sr (WL.mv rfl rfl (WL.val (V.lss (OV.p rfl) (OV.p rfl)) rfl (WL.nil ?_))))))))))
    refine WC.cond rfl (fun hc4 => ?_) (fun hc4 => ?_)
    ·simp only [decide_eq_true_eq, decide_eq_false_iff_not] at hc4
     have h4 := hc4
     have hwn : gX C.sem T.sem limit = (T.sem, [], 1) := by unfold Go.Proofs.YtcmojpiokjhmhaaGreat.gX; rw [if_pos h4]
     rw [hwn]
     refine WC.sr (WL.call (vs := []) Tryz.call33 trivial (jf _ _) rfl ?_)
     rintro _ H0 ⟨rfl, h0⟩
     subst H0
     refine WL.mv rfl rfl (WL.av (oj := _) rfl rfl rfl GC.t (V.move (OV.p rfl)) rfl (WL.av (oj := _) rfl rfl rfl GC.t (V.eql (OV.g rfl id) (OV.p rfl)) rfl (WL.val (V.aJ (OV.p rfl) (OV.g rfl id)) rfl (WL.mv rfl rfl (WL.av (oj := _) rfl rfl rfl GC.t (V.move (OV.p rfl)) rfl (WL.av (oj := _) rfl rfl rfl GC.t (V.len (t := 24) Tryz.runUnderlying24 (OV.g rfl id)) rfl (WL.av (oj := _) rfl rfl rfl GC.t (V.eql (OV.g rfl id) (OV.p rfl)) rfl (WL.val (V.aJ (OV.p rfl) (OV.g rfl id)) rfl (WL.sg rfl rfl (WL.nil (WC.ret ?_)))))))))))
     exact au.ret (H' := F) (aO.tmp rfl rfl) (fun w h => h.sel 5 [] rfl) ⟨rfl, rfl⟩
    ·simp only [decide_eq_true_eq, decide_eq_false_iff_not] at hc4
     have h4 := hc4
     have hwn := hH.gX hF (show 1 ≤ limit by omega)
     rw [hwn] at t5 ⊢
     dsimp only at t5 ⊢
     have hwr := zD C.sem T.sem limit (fl k) k Sj k (Nat.le_refl _)
     have hlr := wI (fl k) limit k
     rw [hwr]
     refine WC.skip (WC.seq (WC.sr (WL.mv rfl rfl (WL.val (V.neq (OV.p rfl) (OV.p rfl)) rfl (WL.mv rfl rfl (WL.known (oj := _) rfl rfl rfl rfl (WL.mv rfl rfl (WL.known (oj := _) rfl rfl rfl rfl (WL.mv rfl rfl (WL.known (oj := _) rfl rfl rfl rfl (WL.mv rfl rfl (WL.known (oj := _) rfl rfl rfl rfl ?_))))))))))))
     refine WL.call (vs := [_, _]) Tryz.call37 ⟨OV.p rfl, OV.p rfl, trivial⟩ (GA (l := fl k) limit (by repeat (first | exact aU.seq (by rw [aG, Qd, Nat.mul_one]) | apply Seq.up)) (Qd k) (by omega)) rfl ?_
     rintro _ _ ⟨A6, c6, rfl, rfl⟩
     refine WL.known (oj := _) rfl rfl rfl rfl ?_
     refine WL.call (vs := [_, _]) Tryz.call34 ⟨OV.p rfl, OV.p rfl, trivial⟩ (aL.eq (oF (xs := fP (fl k) limit k) (ys := fP (fl k) limit k) _ _ (by repeat (first | exact aU.seq (by rw [aG, Nat.mul_one]) | apply Seq.up)) (aU.seq (by rw [aG, Nat.mul_one])) (by omega)) (v' := .bool true) (by simp)) rfl ?_
     rintro _ H0 ⟨rfl, h0⟩
     subst H0
     refine WL.known (oj := _) rfl rfl rfl rfl (WL.val (V.not (OV.p rfl)) rfl (WL.val (V.bH (OV.p rfl) (OV.p rfl)) rfl (WL.nil ?_)))
     refine WC.aQ rfl (by first | rfl | (simp; done) | (simp; omega)) ?_
     refine WC.skip (WC.sr (WL.mv rfl rfl ?_))
     refine WL.sub (H' := C.A bc :: bK bd bc g :: T5.A bs bd g :: F) (Sub.refl _) (fun w h => h.sel 6 [2, 3, 4] rfl) ?_
     refine WL.call (vs := [_]) Tryz.call38 ⟨OV.p rfl, trivial⟩ (ME) rfl ?_
     rintro _ _ rfl
     refine WL.nil (WC.sr (WL.mv rfl rfl (WL.mv rfl rfl ?_)))
     refine WL.call (vs := [_, _]) Tryz.call31 ⟨OV.p rfl, OV.p rfl, trivial⟩ (iW hC.off hg PZ (by show T5.sem.stands.length ≤ 1000; rw [t5]; omega) limit) rfl ?_
     rintro _ _ ⟨A7, c7, T7, Rz, t7, rfl, rfl⟩
     rw [t5, show C.off.sem = C.sem.off from rfl, hH.Nv hF (show 1 ≤ limit by omega) (by omega)]
     refine WL.mv rfl rfl (WL.xt rfl rfl rfl (WL.xt rfl rfl rfl (WL.sg rfl rfl (WL.sg rfl rfl (WL.nil (WC.sr (WL.call (vs := []) Tryz.call33 trivial (jf _ _) rfl ?_)))))))
     rintro _ H0 ⟨rfl, h0⟩
     subst H0
     refine WL.mv rfl rfl (WL.av (oj := _) rfl rfl rfl GC.t (V.move (OV.p rfl)) rfl (WL.av (oj := _) rfl rfl rfl GC.t (V.eql (OV.g rfl id) (OV.p rfl)) rfl (WL.val (V.aJ (OV.p rfl) (OV.g rfl id)) rfl (WL.mv rfl rfl (WL.av (oj := _) rfl rfl rfl GC.t (V.move (OV.p rfl)) rfl (WL.av (oj := _) rfl rfl rfl GC.t (V.len (t := 24) Tryz.runUnderlying24 (OV.g rfl id)) rfl (WL.av (oj := _) rfl rfl rfl GC.t (V.eql (OV.g rfl id) (OV.p rfl)) rfl (WL.val (V.aJ (OV.p rfl) (OV.g rfl id)) rfl (WL.sg rfl rfl (WL.nil (WC.ret ?_)))))))))))
     exact au.ret (H' := F) (aO.tmp rfl rfl) (fun w h => h.sel 4 [] rfl) ⟨rfl, rfl⟩
abbrev EM (c : Int × Int) : List Value := [.int .i64 c.1, .int .i64 c.2]
theorem MI {n : Nat} {cs : List (Int × Int)} (h : Seq K F B n 2 (cs.map EM).flatten) {i : Nat} {o : Int × Int} (hi : cs[i]? = some o) {j : Nat} {v : Value} (hj : (EM o)[j]? = some v) : Rd K F (B.map (·.add (i * 2 + j))) v :=
  h.rd _ _ (kQ (fun x hx => by obtain ⟨o, _, rfl⟩ := List.mem_map.1 hx; rfl) (by rw [List.getElem?_map, hi]; rfl) hj)
set_option maxHeartbeats 1000000 in
theorem yB {D : Option Addr} {r QN : Nat} {cs : List (Int × Int)} (hs : Seq K F A m 1 (strs ss)) (hl : ss.length = m) (hw : Seq K F B q 4 (ws.map Wg.cells).flatten) (hwl : ws.length = q) (hcs : Seq K F D r 2 (cs.map EM).flatten) (hcl : cs.length = r) (hcb : ∀ c ∈ cs, c.1 ≤ 9223372036854775807) :
    aL Tryz.prog 6 #[g.v, .slice A m cap, .slice B q cap', .slice D r QN] K F (.bool true) := by
  refine Does.enter Tryz.func6 rfl Tryz.ntmps6 rfl ?_
  simp only [aI, Nat.reduceAdd]
  refine WC.sr ?_
  refine WL.box (cs := [_, _, _, _, _]) (OV.p rfl) rfl rfl (fun b4 => ?_)
  refine WL.sg rfl rfl (WL.nil (WC.seq (WC.sr ?_)))
  refine WL.val (V.bB (vs := [_, _, _, _, _]) ⟨Tryz.isAgg23, Tryz.sizeOf23⟩ (OV.p rfl) rfl (fun _ => by repeat (first | exact bD.gets ⟨rfl, rfl, rfl, rfl, rfl, trivial⟩ | apply bD.up))) rfl ?_
  refine WL.mv rfl rfl (WL.mv rfl rfl (WL.call (vs := [_, _, _]) Tryz.call29 ⟨OV.p rfl, OV.p rfl, OV.p rfl, trivial⟩ (nA g hs.up hl) rfl ?_))
  rintro _ H0 ⟨rfl, h0⟩
  subst H0
  refine WL.val (V.not (OV.p rfl)) rfl (WL.mv rfl rfl (WL.av (oj := _) rfl rfl rfl GC.f (V.move (OV.p rfl)) rfl (WL.av (oj := _) rfl rfl rfl GC.f (V.len (t := 69) Tryz.runUnderlying69 (OV.g rfl id)) rfl (WL.av (oj := _) rfl rfl rfl GC.f (V.gtr (OV.g rfl id) (OV.p rfl)) rfl (WL.val (V.bH (OV.p rfl) (OV.g rfl id)) rfl (WL.nil ?_))))))
  refine WC.cond rfl (fun hc0 => ?_) (fun hc0 => ?_)
  ·simp only [Bool.or_eq_true, Bool.or_eq_false_iff, decide_eq_true_eq, decide_eq_false_iff_not, Bool.not_eq_true', Bool.not_eq_false'] at hc0
   refine WC.sr (WL.sg rfl rfl (WL.nil (WC.ret ?_)))
   exact au.ret (H' := F) (aO.tmp rfl rfl) (fun w h => h.drop 1) ⟨rfl, rfl⟩
  ·simp only [Bool.or_eq_true, Bool.or_eq_false_iff, decide_eq_true_eq, decide_eq_false_iff_not, Bool.not_eq_true', Bool.not_eq_false'] at hc0
   obtain ⟨hmay, U1⟩ := hc0
   obtain ⟨DF, Iw, hcp, NU⟩ := vw hmay
   rw [hl] at DF
   have h12 : g.bl ≤ 12 := by unfold xV at hmay; simp only [Bool.and_eq_true, decide_eq_true_eq] at hmay; omega
   refine WC.skip (WC.sr ?_)
   refine WL.val (V.bB (vs := [_, _, _, _, _]) ⟨Tryz.isAgg23, Tryz.sizeOf23⟩ (OV.p rfl) rfl (fun _ => by repeat (first | exact bD.gets ⟨rfl, rfl, rfl, rfl, rfl, trivial⟩ | apply bD.up))) rfl ?_
   refine WL.mv rfl rfl (WL.mv rfl rfl (WL.call (vs := [_, _, _]) Tryz.call30 ⟨OV.p rfl, OV.p rfl, OV.p rfl, trivial⟩ (lH (ss := ss) (ws := ws) hs.up hl hw.up hwl hmay) rfl ?_))
   rintro _ _ ⟨bc, bd, UU, C0, T0, hC0, hg0, hT0, hH0, hl0, rfl, rfl⟩
   have hF := qA ss m
   refine WL.mv rfl rfl (WL.xt rfl rfl rfl (WL.xt rfl rfl rfl (WL.xt rfl rfl rfl (WL.sg rfl rfl (WL.sg rfl rfl (WL.sg rfl rfl (WL.nil (WC.seq (WC.sr (WL.mv rfl rfl (WL.val (V.lQ Tryz.underlying33 (OV.p rfl) (OV.p rfl)) rfl (WL.nil ?_))))))))))))
   refine WC.aQ rfl (by first | rfl | (simp; done) | (simp; omega)) ?_
   refine WC.skip (WC.seq (WC.sr (WL.sg rfl rfl (WL.nil (WC.block ?_)))))
   refine WC.loop (σ := Nat × Cw × bC × Nat) (fun s => [(1, .slice A m cap), (3, .slice D r QN), (9, ptr bc 0), (10, ptr bd 0), (11, ptr s.2.2.2 0), (12, .int .i64 (s.1 : Int))]) (fun s => s.2.1.A bc :: bK bd bc g :: s.2.2.1.A s.2.2.2 bd g :: F) (fun s => s.1 ≤ r ∧ s.2.1.Ok ∧ s.2.1.g = g ∧ s.2.2.1.Ok g ∧ ∃ n, n ≤ 12 * (s.1 + 1) ∧ bS m n s.2.1.sem s.2.2.1.sem (su ss m)) (fun s => r - s.1) (0, C0, T0, UU) ⟨Nat.zero_le _, hC0, hg0, hT0, m, by show m ≤ 12 * (0 + 1); omega, hH0⟩ (.cons rfl (.cons rfl (.cons rfl (.cons rfl (.cons rfl (.cons rfl (.nil _))))))) (fun w h => h.sel 4 [0, 1, 2] rfl) ?_
   rintro ⟨i, C, T, bs⟩ ⟨hi, hC, hg, hT, n, hn, hH⟩
   dsimp only at hi hC hg hT hn hH ⊢
   refine WC.seq (WC.sr (WL.mv rfl rfl (WL.mv rfl rfl (WL.val (V.len (t := 69) Tryz.runUnderlying69 (OV.p rfl)) rfl (WL.val (V.lss (OV.p rfl) (OV.p rfl)) rfl (WL.nil ?_))))))
   refine WC.cond rfl (fun hc2 => ?_) (fun hc2 => ?_)
   ·simp only [decide_eq_true_eq, decide_eq_false_iff_not] at hc2
    have hir : i < r := by omega
    have hti : (i : Int).toNat = i := by omega
    obtain ⟨o, ho'⟩ : ∃ o, cs[i]? = some o := ⟨_, List.getElem?_eq_getElem (by omega)⟩
    have Qc := hcb o (List.mem_of_getElem? ho')
    have hel : ∀ (j : Nat) v, (EM o)[j]? = some v → Rd K F (D.map (·.add (i * 2 + j))) v := fun j v hj => MI hcs ho' hj
    obtain ⟨C1, Ir⟩ : ∃ C1, C1 = C.arm o.1 o.2 := ⟨_, rfl⟩
    have RF : C1.Ok := by rw [Ir]; exact hC.arm Qc
    have hg1 : C1.g = g := by rw [Ir]; exact hg
    have hH1 : bS m n C1.sem T.sem (su ss m) := by
      rw [Ir]
      exact hH.turn (ah.sj.arm C.sem o.1 o.2) hH.up rfl hH.inp
    have hlen : T.sem.stands.length = m := hH.len
    have hwn := hH1.gX hF (limit := 1) (by decide)
    obtain ⟨ls, hls⟩ : ∃ ls, ls = lZ C1.sem T.sem 1 m := ⟨_, rfl⟩
    rw [← hls] at hwn
    have hlm : ∀ i ∈ ls, i < m := fun i hi => by
      rw [hls] at hi
      exact List.mem_range.1 (List.mem_filter.1 hi).1
    have hll : (cK ls).length = ls.length := List.length_map _
    have O7 : ls.length ≤ m := by
      rw [hls]; unfold lZ
      exact Nat.le_trans (List.length_filter_le _ _) (by rw [List.length_range]; exact Nat.le_refl _)
    have hac := hH1.Mj hF (by omega) hlm O7
    have hcan : ∀ k, k < (cK ls).length → (bW (cK ls) C1.sem T.sem k).2.2 = 0 → qH (bW (cK ls) C1.sem T.sem k).1 (bW (cK ls) C1.sem T.sem k).2.1 ((cK ls).getD k 0) := fun k hk h0 => by
      rw [hll] at hk
      rcases hac k (by omega) with ⟨_, e3, e4⟩ | ⟨e1, _⟩
      · obtain ⟨i0, hi0⟩ : ∃ i0, ls[k]? = some i0 := ⟨_, List.getElem?_eq_getElem (by omega)⟩
        rw [show (cK ls).getD k 0 = (i0 : Int) by simp [cK, List.getD, hi0]]
        exact e4.K7 hF (by omega) (by rw [e3, show C1.sem.g = g from hg1]; exact hcp) (hlm i0 (List.mem_of_getElem? hi0))
      · rw [e1] at h0; exact absurd h0 (by decide)
    obtain ⟨e, he⟩ : ∃ e, e = (bW (cK ls) C1.sem T.sem ls.length).2.2 := ⟨_, rfl⟩
    have he2 : e = 0 ∨ e = 70 := by
      rcases hac ls.length (Nat.le_refl _) with ⟨e1, _⟩ | ⟨e1, _⟩
      · exact .inl (he.trans e1)
      · exact .inr (he.trans e1)
    refine WC.skip (WC.seq (WC.block (WC.seq ?_)))
    skip
    refine WC.dR (bK bd bc g :: T.A bs bd g :: F) (by kernel_rfl) ?_
    refine WA.t 0 rfl (V.move (OV.p rfl)) (WA.t 1 rfl (V.move (OV.p rfl)) (WA.t 2 rfl (V.move (OV.p rfl)) ?_))
    refine WA.t 3 rfl (V.aC (v' := sp D (i * 2)) (V.dS Qj (OV.p rfl) (OV.p rfl) (fun hc => by omega) (fun hc => by rw [hti]; repeat (first | exact hel 0 _ rfl | apply Rd.up))) (fun _ => by rw [hti])) ?_
    refine WA.t 4 rfl (V.OG (k' := i * 2) QZ (OV.p rfl) (OV.p rfl) (fun _ => by decide) (fun _ => by repeat (first | exact hel 0 _ rfl | apply Rd.up))) ?_
    refine WA.t 5 rfl (V.load Tryz.isAgg3 (OV.p rfl) (fun _ => by repeat (first | exact hel 0 _ rfl | apply Rd.up))) ?_
    refine WA.t 6 rfl (V.move (OV.p rfl)) (WA.t 7 rfl (V.move (OV.p rfl)) ?_)
    refine WA.t 8 rfl (V.aC (v' := sp D (i * 2)) (V.dS Qj (OV.p rfl) (OV.p rfl) (fun hc => by omega) (fun hc => by rw [hti]; repeat (first | exact hel 0 _ rfl | apply Rd.up))) (fun _ => by rw [hti])) ?_
    refine WA.t 9 rfl (V.OG (k' := i * 2) QZ (OV.p rfl) (OV.p rfl) (fun _ => by decide) (fun _ => by repeat (first | exact hel 0 _ rfl | apply Rd.up))) ?_
    refine WA.t 10 rfl (V.load Tryz.isAgg3 (OV.p rfl) (fun _ => by repeat (first | exact hel 1 _ rfl | apply Rd.up))) ?_
    refine WA.o 11 rfl (WL.call (vs := [_, _, _]) Tryz.call39 ⟨OV.p rfl, OV.p rfl, OV.p rfl, trivial⟩ (F6 o.1 o.2) rfl ?_)
    rintro _ _ rfl
    rw [← Ir]
    refine WL.nil (WA.fin (WC.sr (WL.mv rfl rfl ?_)))
    refine WL.call (vs := [_, _]) Tryz.call32 ⟨OV.p rfl, OV.p rfl, trivial⟩ (xk RF hg1 hT (by show T.sem.stands.length ≤ 1000; omega) 1 (T1 := T.sem) (l := cK ls) hwn hcan) rfl ?_
    rintro _ _ ⟨A6, c6, n6, C2, T2, hC2, g2, nM, s2, t2, SN, Ii, rfl, rfl⟩
    rw [hll] at s2 t2 Ii ⊢
    rw [← he]
    have Rw : (C2.arm 0 0).on.Ok := (hC2.arm (by decide)).on
    have hH3 : bS m (n + m) (C2.arm 0 0).on.sem (gY (C2.arm 0 0).on.sem m) (su ss m) := by
      have hE : ah.sj C2.sem (C2.arm 0 0).on.sem := (ah.sj.arm C2.sem 0 0).trans (ah.sj.on _)
      rcases hac ls.length (Nat.le_refl _) with ⟨_, _, e4⟩ | ⟨_, e4⟩
      · rw [← s2, ← t2] at e4
        exact (e4.opened hE rfl rfl rfl).wider (by omega)
      · rw [← s2] at e4
        exact e4 _ hE rfl rfl rfl
    refine WL.mv rfl rfl (WL.xt rfl rfl rfl (WL.xt rfl rfl rfl (WL.sg rfl rfl (WL.sg rfl rfl (WL.nil (WC.seq (WC.sr (WL.mv rfl rfl (WL.val (V.neq (OV.p rfl) (OV.p rfl)) rfl (WL.mv rfl rfl (WL.av (oj := _) rfl rfl rfl GC.t (V.move (OV.p rfl)) rfl (WL.av (oj := _) rfl rfl rfl GC.t (V.neq (OV.g rfl id) (OV.p rfl)) rfl (WL.val (V.aJ (OV.p rfl) (OV.g rfl id)) rfl (WL.nil ?_))))))))))))))
    refine WC.aQ rfl ((by rcases he2 with h | h <;> rw [h] <;> rfl)) ?_
    refine WC.skip (WC.sr (WL.mv rfl rfl ?_))
    refine WL.sub (H' := C2.A bc :: bK bd bc g :: F) (Sub.refl _) (fun w h => h.sel 4 [1, 2] rfl) ?_
    refine WL.call (vs := [_, _, _]) Tryz.call39 ⟨OV.p rfl, OV.p rfl, OV.p rfl, trivial⟩ (F6 0 0) rfl ?_
    rintro _ _ rfl
    refine WL.nil (WC.sr (WL.mv rfl rfl (WL.call (vs := [_]) Tryz.call40 ⟨OV.p rfl, trivial⟩ (NR) rfl ?_)))
    rintro _ _ rfl
    refine WL.nil (WC.sr (WL.mv rfl rfl (WL.mv rfl rfl (WL.val (V.len (t := 38) Tryz.runUnderlying38 (OV.p rfl)) rfl ?_))))
    refine WL.call (vs := [_, _]) Tryz.call41 ⟨OV.p rfl, OV.p rfl, trivial⟩ (y9 Rw g2 (aj := m) (by omega) (by omega) hH3.gV) rfl ?_
    rintro _ _ ⟨Ur, T3, jO, t3, rfl, rfl⟩
    rw [← t3] at hH3
    refine WL.mv rfl rfl (WL.xt rfl rfl rfl (WL.xt rfl rfl rfl (WL.sg rfl rfl (WL.sg rfl rfl (WL.nil (WC.seq (WC.sr (WL.mv rfl rfl (WL.val (V.neq (OV.p rfl) (OV.p rfl)) rfl (WL.mv rfl rfl (WL.known (oj := _) rfl rfl rfl rfl (WL.mv rfl rfl (WL.known (oj := _) rfl rfl rfl rfl (WL.val (V.lQ Tryz.underlying33 (OV.p rfl) (OV.p rfl)) rfl (WL.val (V.bH (OV.p rfl) (OV.p rfl)) rfl (WL.mv rfl rfl (WL.known (oj := _) rfl rfl rfl rfl (WL.mv rfl rfl (WL.known (oj := _) rfl rfl rfl rfl (WL.mv rfl rfl (WL.known (oj := _) rfl rfl rfl rfl ?_)))))))))))))))))))))
    refine WL.call (vs := [_, _]) Tryz.call35 ⟨OV.p rfl, OV.p rfl, trivial⟩ (wN (ss := ss) (n := n + m) Rw g2 jO (by repeat (first | exact hs | apply Seq.up)) hl hH3) rfl ?_
    rintro _ _ ⟨rfl, T4, PY, t4, rfl⟩
    refine WL.known (oj := _) rfl rfl rfl rfl (WL.val (V.not (OV.p rfl)) rfl (WL.val (V.bH (OV.p rfl) (OV.p rfl)) rfl (WL.nil ?_)))
    refine WC.aQ rfl (by first | rfl | (simp; done) | (simp; omega)) ?_
    refine WC.skip (WC.region (WL.mv rfl rfl (WL.sg rfl rfl (WL.nil (WC.region (WL.mv rfl rfl (WL.ad rfl rfl rfl ?_)))))))
    refine WL.sg rfl rfl (WL.nil ?_)
    refine ⟨rfl, ?_⟩
    exact ⟨(i + 1, (C2.arm 0 0).on, T4, Ur), ⟨hir, Rw, g2, PY, n + m, by show n + m ≤ 12 * (i + 1 + 1); omega, by rw [t4]; exact hH3⟩, (by show r - (i + 1) < r - i; omega), .cons rfl (.cons rfl (.cons rfl (.cons rfl (.cons rfl (.cons (look_eq rfl (by simp)) (.nil _)))))), fun w h => h⟩
   ·simp only [decide_eq_true_eq, decide_eq_false_iff_not] at hc2
    refine WC.exit (WC.sr (WL.call (vs := []) Tryz.call33 trivial (jf _ _) rfl ?_))
    rintro _ H0 ⟨rfl, h0⟩
    subst H0
    refine WL.sg rfl rfl (WL.nil (WC.ret ?_))
    exact au.ret (H' := F) (aO.tmp rfl rfl) (fun w h => h.sel 3 [] rfl) ⟨rfl, rfl⟩
end
open Go.Sl Go.ChangeShapes Go.WideShapes Go.ChangeAt Go.RowKit
set_option maxRecDepth 100000
theorem CB : Tryz.prog.cellsOf 3 = 1 := by kernel_rfl
theorem Ij {H : Type} {enc : TypeId × Value → H} {W : World} {n : Nat} {cs : List Value} {y : DataW H × List MemPlace} (hl : cs.length = 4) (h : DataW.trod enc Tryz.prog W 0 (fun _ => true) true n 103 cs = some y) : ∃ o : Wg, cs = o.cells := by
  obtain ⟨xs, k, _, _, _, hxl, hf⟩ := DataW.trod_struct Tryz.underlying103 h
  match cs, hl, xs, hxl with
  | [v0, v1, v2, v3], _, [x0, x1, x2, x3], _ =>
    have h0 : DataW.trod enc Tryz.prog W 0 (fun _ => true) true k 3 (List.take (Tryz.prog.cellsOf 3) (List.drop 0 [v0, v1, v2, v3])) = some x0 := hf 0 _ rfl
    have h1 : DataW.trod enc Tryz.prog W 0 (fun _ => true) true k 3 (List.take (Tryz.prog.cellsOf 3) (List.drop 1 [v0, v1, v2, v3])) = some x1 := hf 1 _ rfl
    have h2 : DataW.trod enc Tryz.prog W 0 (fun _ => true) true k 3 (List.take (Tryz.prog.cellsOf 3) (List.drop 2 [v0, v1, v2, v3])) = some x2 := hf 2 _ rfl
    have h3 : DataW.trod enc Tryz.prog W 0 (fun _ => true) true k 3 (List.take (Tryz.prog.cellsOf 3) (List.drop 3 [v0, v1, v2, v3])) = some x3 := hf 3 _ rfl
    rw [CB] at h0 h1 h2 h3
    obtain ⟨i0, e0, _⟩ := iF Tryz.underlying3 h0
    obtain ⟨i1, e1, _⟩ := iF Tryz.underlying3 h1
    obtain ⟨i2, e2, _⟩ := iF Tryz.underlying3 h2
    obtain ⟨i3, e3, _⟩ := iF Tryz.underlying3 h3
    simp at e0 e1 e2 e3
    subst e0 e1 e2 e3
    exact ⟨⟨i0, i1, i2, i3⟩, rfl⟩
theorem Cc : ∀ {css : List (List Value)}, (∀ cs ∈ css, ∃ o : Wg, cs = o.cells) → ∃ ws : List Wg, css = ws.map Wg.cells
  | [], _ => ⟨[], rfl⟩
  | cs :: css, h => by
    obtain ⟨o, rfl⟩ := h cs (.head _)
    obtain ⟨ws, rfl⟩ := Cc fun x hx => h x (.tail _ hx)
    exact ⟨o :: ws, rfl⟩
theorem qj {H : Type} {enc : TypeId × Value → H} {W : World} {r : Reach} {base : Nat} {v : Value} {d : DataW H} {p : List MemPlace} (hval : Value.okWide Tryz.prog W r base 56 v)
    (h : DataW.Trod enc Tryz.prog W 0 (fun _ => true) true 56 v d p) : ∃ (A : Option Addr) (m cap : Nat) (ws : List Wg), v = .slice A m cap ∧ Seq W [Old W] A m 4 (ws.map Wg.cells).flatten ∧ ws.length = m := by
  obtain ⟨A, m, cap, css, rfl, hl, _, hcs, hs⟩ := Bp (s := 4) Tryz.underlying56 (by kernel_rfl) hval h
  obtain ⟨ws, rfl⟩ := Cc fun cs hc => by
    obtain ⟨h1, n, y, h2⟩ := hcs cs hc
    exact Ij h1 h2
  exact ⟨A, m, cap, ws, rfl, hs, by simpa using hl⟩
theorem open_pair {H : Type} {enc : TypeId × Value → H} {W : World} {n : Nat} {cs : List Value} {y : DataW H × List MemPlace} (hl : cs.length = 2) (h : DataW.trod enc Tryz.prog W 0 (fun _ => true) true n 71 cs = some y) : ∃ c : Int × Int, cs = EM c ∧ c.1 ≤ 9223372036854775807 := by
  obtain ⟨xs, k, _, _, _, hxl, hf⟩ := DataW.trod_array Tryz.underlying71 h
  match cs, hl, xs, hxl with
  | [v0, v1], _, [x0, x1], _ =>
    have h0 := hf 0 (by decide)
    have h1 := hf 1 (by decide)
    rw [CB] at h0 h1
    obtain ⟨i0, e0, _, b0⟩ := iF Tryz.underlying3 h0
    obtain ⟨i1, e1, _⟩ := iF Tryz.underlying3 h1
    simp at e0 e1
    subst e0 e1
    exact ⟨(i0, i1), rfl, b0⟩
theorem ED : ∀ {css : List (List Value)}, (∀ cs ∈ css, ∃ c : Int × Int, cs = EM c ∧ c.1 ≤ 9223372036854775807) → ∃ ws : List (Int × Int), css = ws.map EM ∧ ∀ c ∈ ws, c.1 ≤ 9223372036854775807
  | [], _ => ⟨[], rfl, fun c hc => (by cases hc)⟩
  | cs :: css, h => by
    obtain ⟨o, rfl, ho⟩ := h cs (.head _)
    obtain ⟨ws, rfl, hw⟩ := ED fun x hx => h x (.tail _ hx)
    exact ⟨o :: ws, rfl, fun c hc => (List.mem_cons.1 hc).elim (fun e => e ▸ ho) (hw c)⟩
theorem Gv {H : Type} {enc : TypeId × Value → H} {W : World} {r : Reach} {base : Nat} {v : Value} {d : DataW H} {p : List MemPlace} (hval : Value.okWide Tryz.prog W r base 69 v)
    (h : DataW.Trod enc Tryz.prog W 0 (fun _ => true) true 69 v d p) : ∃ (A : Option Addr) (m cap : Nat) (ws : List (Int × Int)), v = .slice A m cap ∧ Seq W [Old W] A m 2 (ws.map EM).flatten ∧ ws.length = m ∧ ∀ c ∈ ws, c.1 ≤ 9223372036854775807 := by
  obtain ⟨A, m, cap, css, rfl, hl, _, hcs, hs⟩ := Bp (s := 2) Tryz.underlying69 (by kernel_rfl) hval h
  obtain ⟨ws, rfl, hb⟩ := ED fun cs hc => by
    obtain ⟨h1, n, y, h2⟩ := hcs cs hc
    exact open_pair h1 h2
  exact ⟨A, m, cap, ws, rfl, hs, by simpa using hl, hb⟩
end Go.Proofs.YtcmojpiokjhmhaaGreat
