import Derived.Test.YtcmojpiokjhmhaaGreatP22
import Derived.Defers
import Derived.Test.YtcmojpiokjhmhaaGreatP28
import Derived.Test.YtcmojpiokjhmhaaGreatProg
import Derived.Shelf.Sort.Plain
namespace Go.Sl
open Go.RowKit
set_option linter.unusedVariables false
set_option linter.unusedSimpArgs false
def AO (P : Program) (f : FuncId) (args : Array Value) (K : World) (H : List ak) (post : List ak → Prop) : Prop :=
  ∀ w, Sat K w H → CallsD P f args .returning w fun e u' w' => u' = .returning ∧ ∃ v H', e = .returned v ∧ Sat K w' H' ∧ post H'
section
variable {P : Program} {K : World} {n : Nat} {Q : Post} {e : Env} {H : List ak}
theorem AO.sat {f : FuncId} {args : Array Value} {post : List ak → Prop} {H' : List ak} (h : AO P f args K H' post) (hH : ∀ w, Sat K w H → Sat K w H') : AO P f args K H post := fun w hw => h w (hH w hw)
theorem Does.Pj {f : FuncId} {fn : Func} {c : Code} {vs : List Value} {post : List ak → Prop} (hf : P.funcs[f]? = some fn) (hb : fn.body = some c) (hn : fn.ntmps = n) (hl : Nat.ble vs.length n = true)
    (h : WC ⟨none, []⟩ P K n c (au P K n fn fun v H' => post H') (aI 0 vs) H) : AO P f vs.toArray K H post := by
  intro w hw
  refine (callsD_of_wp (R := fun e w' => ∃ v H', e = .returned v ∧ Sat K w' H' ∧ post H') hf hb (wp_mono (h _ w ?_ hw) ?_)).mono fun e u' w' h => h
  · have hl' : vs.length ≤ n := by simpa using hl
    refine ⟨rfl, by simp [hn]; omega, fun t v hv => ?_⟩
    obtain ⟨_, h2⟩ := kX vs 0 t v hv
    simp only [Nat.sub_zero] at h2
    have ht : t < vs.length := by
      rcases Nat.lt_or_ge t vs.length with h | h
      · exact h
      · simp [List.getElem?_eq_none h] at h2
    rw [Array.getD_eq_getD_getElem?, Array.getElem?_append_left (by simpa using ht)]
    simp [h2]
  · rintro x a w ⟨ds, e', H', h1, h2, h3⟩
    cases x <;> first
      | (obtain ⟨k0, v, uG, k1, k2, k3⟩ := h3; exact ⟨h1.defers.trans k0, v, k1 a w h1 h2, v, uG, rfl, k2 w h2, k3⟩)
      | exact h3.elim
def Qv (P : Program) (K : World) (n : Nat) (fn : Func) (post : Value → List ak → Prop) : Post
  | Mo, .normal, e, H | Mo, .ret, e, H => ∃ f cap, Mo.ds = [⟨.fn (.func f) cap, #[]⟩] ∧ dY P f ∧ ∃ pd, AO P f cap K H pd ∧ ∀ H', pd H' → ∃ v uG, aO Mo P K n fn e H' v ∧ (∀ w, Sat K w H' → Sat K w uG) ∧ post v uG
  | _, _, _, _ => False
theorem Does.OY {f : FuncId} {fn : Func} {c : Code} {vs : List Value} {post : Value → List ak → Prop} (hf : P.funcs[f]? = some fn) (hb : fn.body = some c) (hn : fn.ntmps = n) (hl : Nat.ble vs.length n = true)
    (h : WC ⟨none, []⟩ P K n c (Qv P K n fn post) (aI 0 vs) H) : Does P f vs.toArray K H post := by
  intro w hw
  refine calls_of_wp_defers hf hb (wp_mono (h _ w ?_ hw) ?_)
  · have hl' : vs.length ≤ n := by simpa using hl
    refine ⟨rfl, by simp [hn]; omega, fun t v hv => ?_⟩
    obtain ⟨_, h2⟩ := kX vs 0 t v hv
    simp only [Nat.sub_zero] at h2
    have ht : t < vs.length := by
      rcases Nat.lt_or_ge t vs.length with h | h
      · exact h
      · simp [List.getElem?_eq_none h] at h2
    rw [Array.getD_eq_getD_getElem?, Array.getElem?_append_left (by simpa using ht)]
    simp [h2]
  · rintro x a w ⟨ds, e', H', h1, h2, h3⟩
    have key : (∃ f cap, ds = [⟨.fn (.func f) cap, #[]⟩] ∧ dY P f ∧ ∃ pd, AO P f cap K H' pd ∧ ∀ H2, pd H2 → ∃ v uG, aO ⟨none, ds⟩ P K n fn e' H2 v ∧ (∀ w, Sat K w H2 → Sat K w uG) ∧ post v uG) →
        Leaves P fn a.tmps (fun e w' => ∃ v H', e = .returned v ∧ Sat K w' H' ∧ post v H') a.defers .returning w := by
      rintro ⟨g, cap, k0, k1, pd, k2, k3⟩
      rw [h1.defers.trans k0]
      refine leaves_cons (f := g) (args := cap) (by simp) (by show (callFunc g (#[] ++ cap)).run P w = _; rw [k1]; simp) ?_
      refine (k2 w h2).mono ?_
      rintro e2 u' w' ⟨rfl, v, H2, rfl, k4, k5⟩
      obtain ⟨v2, H3, k6, k7, k8⟩ := k3 H2 k5
      exact ⟨v2, k6 a w' h1 k4, v2, H3, rfl, k7 w' k4, k8⟩
    cases x <;> first
      | exact key h3
      | exact h3.elim
theorem WL.defer {ds : List Deferred} {ops : Array Oper} {rest : List Oper} {ty : TypeId} {pos : String} {af : Array Edge} {y : Operand} {f : FuncId} {cap : Array Value} (hy : OV true e y (.func (.func f) #[] cap))
    (h : WL ⟨none, ⟨.fn (.func f) cap, #[]⟩ :: ds⟩ P K n ops rest Q e H) : WL ⟨none, ds⟩ P K n ops (⟨none, .defer ⟨.value y, #[], #[]⟩, ty, pos, af, none⟩ :: rest) Q e H := fun a w ha hw => by
  refine kW rfl fun R hR => ?_
  show Oper.wp P _ a w R _
  unfold Oper.wp
  have h1 : (execOp a.eval ⟨none, .defer ⟨.value y, #[], #[]⟩, ty, pos, af, none⟩).run P w = .ok (.defer ⟨.fn (.func f) cap, #[]⟩) w := by
    show ((do pure (Next.defer (← resolve a.eval ⟨.value y, #[], #[]⟩ ty))) : Sem Next).run P w = _
    have h1 : resolve a.eval ⟨.value y, #[], #[]⟩ ty = pure { target := .fn (.func f) cap, args := #[] } := by
      simp [resolve, hy.ev rfl ha, Deferred.ofValue]
    rw [h1]; rfl
  rw [h1, Oper.upon_defer]
  refine hR _ _ (h _ w ⟨?_, ha.size, ha.at_⟩ hw)
  show _ :: a.defers = _ :: ds
  rw [ha.defers]
end
end Go.Sl
namespace Go.Proofs.YtcmojpiokjhmhaaGreat
open Go.Sl Go.RowKit
set_option linter.unusedVariables false
set_option linter.unusedSimpArgs false
set_option maxRecDepth 20000
def rY (S : ah) (T : St) (limit : Int) : Nat → St × List Int × Bool
  | 0 => (T, [], false)
  | k + 1 =>
    if (rY S T limit k).2.2 = true then rY S T limit k
    else if (bN S (rY S T limit k).1 (k : Int)).1.err = 70 then ((bN S (rY S T limit k).1 (k : Int)).2, [], true)
    else ((bN S (rY S T limit k).1 (k : Int)).2, if (bN S (rY S T limit k).1 (k : Int)).1.err = 0 ∧ limit ≤ ((bN S (rY S T limit k).1 (k : Int)).1.n : Int) then (rY S T limit k).2.1 ++ [(k : Int)] else (rY S T limit k).2.1, false)
theorem vV {S : ah} {T : St} {limit : Int} {k : Nat} (h : (rY S T limit k).2.2 = true) : ∀ m, rY S T limit (k + m) = rY S T limit k
  | 0 => rfl
  | m + 1 => by rw [← Nat.add_assoc, rY, vV h m, if_pos h]
theorem D9 (S : ah) (T : St) (limit : Int) : ∀ k, (rY S T limit k).2.1.length ≤ k
  | 0 => Nat.le_refl _
  | k + 1 => by
    have := D9 S T limit k
    rw [rY]
    split
    · omega
    · split
      · exact Nat.zero_le _
      · dsimp only
        split
        · rw [List.length_append]; exact Nat.succ_le_succ this
        · omega
def gX (S : ah) (T : St) (limit : Int) : St × List Int × Int :=
  if limit < 1 then (T, [], 1) else ((rY S T limit T.stands.length).1, (rY S T limit T.stands.length).2.1, if (rY S T limit T.stands.length).2.2 = true then 70 else 0)
def kE (S : ah) (T : St) (aB : Int) : ah × St × Int :=
  if (bN S T aB).1.err ≠ 0 then (S, (bN S T aB).2, (bN S T aB).1.err) else aK S (bN S T aB).2 aB (bN S T aB).1.d
def bW (l : List Int) (S : ah) (T : St) : Nat → ah × St × Int
  | 0 => (S, T, 0)
  | k + 1 => if (bW l S T k).2.2 ≠ 0 then bW l S T k else kE (bW l S T k).1 (bW l S T k).2.1 (l.getD k 0)
theorem zL {l : List Int} {S : ah} {T : St} {k : Nat} (h : (bW l S T k).2.2 ≠ 0) : ∀ m, bW l S T (k + m) = bW l S T k
  | 0 => rfl
  | m + 1 => by rw [← Nat.add_assoc, bW, zL h m, if_pos h]
def qH (S : ah) (T : St) (aB : Int) : Prop := (bN S T aB).1.err = 0 → Small 256 (bN S T aB).1.d ∧ (bN S T aB).1.d.length ≤ 1000000 ∧ ∀ l ∈ (bN S T aB).2.stale, l.length ≤ 1000000
theorem aU.Mq {K : World} {F : List ak} {w : World} {A : Option Addr} {E s m cap : Nat} {cs : List Value} (h : Sat K w (aU (.slice A m cap) E s m cs :: F)) : m ≤ cap := by
  obtain ⟨_, cap', hv, hle, _⟩ := aU.shape h.head
  injection hv with _ _ e3
  rw [e3]; exact hle
section
variable {bs bd bc : Nat} {g : Geo} {T : bC} {C : Cw} {K : World} {F : List ak}
theorem BF (limit : Int) : aL Tryz.prog 31 #[.pointer none, .int .i64 limit] K F (.tuple #[.slice none 0 0, .int .i64 3]) := by
  refine Does.enter Tryz.func31 rfl Tryz.ntmps31 rfl ?_
  simp only [aI, Nat.reduceAdd]
  refine WC.sr (WL.sg rfl rfl (WL.sg rfl rfl (WL.nil (WC.seq (WC.block (WC.sr (WL.mv rfl rfl (WL.val (V.lQ Tryz.underlying33 (OV.p rfl) (OV.p rfl)) rfl (WL.sg rfl rfl (WL.nil ?_))))))))))
  refine WC.dV rfl (by first | rfl | (simp; done) | (simp; omega)) ?_
  refine WC.sr (WL.sg rfl rfl (WL.sg rfl rfl (WL.nil (WC.ret ?_))))
  exact au.ret (H' := F) (aO.fD rfl rfl rfl) (fun w h => h) ⟨rfl, rfl⟩
theorem iW (hC : C.Ok) (hg : C.g = g) (hT : T.Ok g) (h64 : T.stands.length ≤ 1000) (limit : Int) : Does Tryz.prog 31 #[ptr bs 0, .int .i64 limit] K (C.A bc :: bK bd bc g :: T.A bs bd g :: F)
    (fun v H' => ∃ (A' : Option Addr) (c' : Nat) (T' : bC), T'.Ok g ∧ T'.sem = (gX C.sem T.sem limit).1 ∧ v = .tuple #[.slice A' (gX C.sem T.sem limit).2.1.length c', .int .i64 (gX C.sem T.sem limit).2.2] ∧
      H' = aU (.slice A' (gX C.sem T.sem limit).2.1.length c') 3 1 (gX C.sem T.sem limit).2.1.length (ints .i64 (gX C.sem T.sem limit).2.1) :: C.A bc :: bK bd bc g :: T'.A bs bd g :: F) := by
  obtain ⟨N, hN⟩ : ∃ N, N = T.stands.length := ⟨_, rfl⟩
  have hNs : T.sem.stands.length = N := hN.symm
  obtain ⟨R, hR⟩ : ∃ R, R = gX C.sem T.sem limit := ⟨_, rfl⟩
  rw [← hR]
  unfold gX at hR
  rw [hNs] at hR
  refine Does.enter Tryz.func31 rfl Tryz.ntmps31 rfl ?_
  simp only [aI, Nat.reduceAdd]
  refine WC.sr (WL.sg rfl rfl (WL.sg rfl rfl (WL.nil (WC.seq (WC.block (WC.sr (WL.mv rfl rfl (WL.val (V.lQ Tryz.underlying33 (OV.p rfl) (OV.p rfl)) rfl (WL.sg rfl rfl (WL.nil ?_))))))))))
  refine WC.aQ rfl (by first | rfl | (simp; done) | (simp; omega)) ?_
  refine WC.sr (WL.mv rfl rfl (WL.val (V.lss (OV.p rfl) (OV.p rfl)) rfl (WL.sg rfl rfl (WL.nil ?_))))
  refine WC.cond rfl (fun hc1 => ?_) (fun hc1 => ?_)
  ·simp only [decide_eq_true_eq, decide_eq_false_iff_not] at hc1
   rw [if_pos hc1] at hR
   subst hR
   refine WC.sr (WL.sg rfl rfl (WL.sg rfl rfl (WL.nil (WC.ret ?_))))
   exact au.ret (H' := aU (.slice none 0 0) 3 1 0 [] :: C.A bc :: bK bd bc g :: T.A bs bd g :: F) (aO.fD rfl rfl rfl) (fun w h => Sat.fO h _ _) ⟨none, 0, T, hT, rfl, rfl, rfl⟩
  ·simp only [decide_eq_true_eq, decide_eq_false_iff_not] at hc1
   rw [if_neg hc1] at hR
   refine WC.skip (WC.sr (WL.sg rfl rfl (WL.nil (WC.seq (WC.sr (WL.mv rfl rfl ?_))))))
   refine WL.sub (Sub.refl _) (fun w h => h.sel 3 [2, 0, 1] rfl) ?_
   refine WL.call (vs := [_]) Tryz.call13 ⟨OV.p rfl, trivial⟩ (aL.eq Ia (by rw [← hN])) rfl ?_
   rintro _ H0 ⟨rfl, h0⟩
   subst H0
   refine WL.mv rfl rfl (WL.nil (WC.block ?_))
   refine WC.loop (σ := Nat × bC × Option Addr × Nat) (fun s => [(0, ptr bs 0), (1, .int .i64 limit), (6, .slice s.2.2.1 (rY C.sem T.sem limit s.1).2.1.length s.2.2.2), (18, .int .i64 (N : Int)), (19, .int .i64 (s.1 : Int))]) (fun s => aU (.slice s.2.2.1 (rY C.sem T.sem limit s.1).2.1.length s.2.2.2) 3 1 (rY C.sem T.sem limit s.1).2.1.length (ints .i64 (rY C.sem T.sem limit s.1).2.1) :: C.A bc :: bK bd bc g :: s.2.1.A bs bd g :: F) (fun s => s.1 ≤ N ∧ s.2.1.Ok g ∧ s.2.1.sem = (rY C.sem T.sem limit s.1).1 ∧ (rY C.sem T.sem limit s.1).2.2 = false) (fun s => N - s.1) (0, T, none, 0) ⟨Nat.zero_le _, hT, rfl, rfl⟩ (.cons rfl (.cons rfl (.cons rfl (.cons rfl (.cons rfl (.nil _)))))) (fun w h => Sat.fO (h.sel 3 [1, 2, 0] rfl) _ _) ?_
   rintro ⟨k, T2, A2, c2⟩ ⟨hk, nM, e2, hdn⟩
   dsimp only at hk nM e2 hdn ⊢
   obtain ⟨W, hW⟩ : ∃ W, W = rY C.sem T.sem limit k := ⟨_, rfl⟩
   have hWs : rY C.sem T.sem limit (k + 1) = if (bN C.sem T2.sem (k : Int)).1.err = 70 then ((bN C.sem T2.sem (k : Int)).2, [], true) else ((bN C.sem T2.sem (k : Int)).2, if (bN C.sem T2.sem (k : Int)).1.err = 0 ∧ limit ≤ ((bN C.sem T2.sem (k : Int)).1.n : Int) then W.2.1 ++ [(k : Int)] else W.2.1, false) := by
     rw [rY, if_neg (by rw [hdn]; decide), e2, hW]
   have hwl := D9 C.sem T.sem limit k
   rw [← hW] at hdn e2 hwl ⊢
   obtain ⟨G, hG⟩ : ∃ G, G = bN C.sem T2.sem (k : Int) := ⟨_, rfl⟩
   rw [← hG] at hWs
   refine WC.sr (WL.val (V.lss (OV.p rfl) (OV.p rfl)) rfl (WL.nil (WC.seq ?_)))
   refine WC.cond rfl (fun hc2 => ?_) (fun hc2 => ?_)
   ·simp only [decide_eq_true_eq, decide_eq_false_iff_not] at hc2
    have hkN : k < N := by omega
    refine WC.skip (WC.seq (WC.block (WC.sr (WL.mv rfl rfl (WL.sg rfl rfl (WL.nil (WC.sr (WL.mv rfl rfl (WL.mv rfl rfl ?_)))))))))
    refine WL.sub (H' := C.A bc :: bK bd bc g :: T2.A bs bd g :: aU (.slice A2 W.2.1.length c2) 3 1 W.2.1.length (ints .i64 W.2.1) :: F) (Sub.refl _) (fun w h => h.sel 4 [1, 2, 3, 0] rfl) ?_
    refine WL.call (vs := [_, _]) Tryz.call36 ⟨OV.p rfl, OV.p rfl, trivial⟩ (oD hC hg nM (k : Int)) rfl ?_
    rintro _ _ ⟨A9, c9, T3, jO, t3, rfl, rfl⟩
    rw [← hG] at t3 ⊢
    refine WL.mv rfl rfl (WL.xt rfl rfl rfl (WL.xt rfl rfl rfl (WL.xt rfl rfl rfl (WL.sg rfl rfl (WL.sg rfl rfl (WL.sg rfl rfl (WL.nil (WC.block (WC.sr (WL.mv rfl rfl (WL.val (V.eql (OV.p rfl) (OV.p rfl)) rfl (WL.sg rfl rfl (WL.nil ?_)))))))))))))
    refine WC.cond rfl (fun hc3 => ?_) (fun hc3 => ?_)
    ·simp only [decide_eq_true_eq, decide_eq_false_iff_not] at hc3
     have h3 := hc3
     rw [if_pos h3] at hWs
     have hst : rY C.sem T.sem limit N = (G.2, [], true) := by
       have := vV (S := C.sem) (T := T.sem) (limit := limit) (k := k + 1) (by rw [hWs]) (N - (k + 1))
       rw [show k + 1 + (N - (k + 1)) = N by omega] at this
       rw [this, hWs]
     rw [hst, if_pos rfl] at hR
     subst hR
     refine WC.sr (WL.mv rfl rfl (WL.sg rfl rfl (WL.sg rfl rfl (WL.nil (WC.ret ?_)))))
     exact au.ret (H' := aU (.slice none 0 0) 3 1 0 [] :: C.A bc :: bK bd bc g :: T3.A bs bd g :: F) (aO.fD rfl rfl rfl) (fun w h => Sat.fO (h.sel 5 [1, 2, 3] rfl) _ _) ⟨none, 0, T3, jO, t3, by rw [h3]; rfl, rfl⟩
    ·simp only [decide_eq_true_eq, decide_eq_false_iff_not] at hc3
     have h3 := hc3
     rw [if_neg h3] at hWs
     refine WC.sr (WL.mv rfl rfl (WL.val (V.eql (OV.p rfl) (OV.p rfl)) rfl (WL.mv rfl rfl (WL.av (oj := _) rfl rfl rfl GC.t (V.move (OV.p rfl)) rfl (WL.av (oj := _) rfl rfl rfl GC.t (V.move (OV.p rfl)) rfl (WL.av (oj := _) rfl rfl rfl GC.t (V.geq (OV.g rfl id) (OV.g rfl id)) rfl (WL.val (V.aJ (OV.p rfl) (OV.g rfl id)) rfl (WL.sg rfl rfl (WL.nil ?_)))))))))
     refine WC.cond rfl (fun hc4 => ?_) (fun hc4 => ?_)
     ·simp only [Bool.and_eq_true, Bool.and_eq_false_iff, decide_eq_true_eq, decide_eq_false_iff_not] at hc4
      have h4 := hc4
      rw [if_pos ⟨h4.1, by omega⟩] at hWs
      refine WC.region (WL.mv rfl rfl (WL.mv rfl rfl ?_))
      refine WL.buildSlice (E := 3) (cs := [_]) (vs := [(0, _)]) ⟨OV.p rfl, trivial⟩ rfl (bT _) rfl (fun Ud => ?_)
      refine WL.sub (H' := aU (.slice A2 W.2.1.length c2) 3 1 W.2.1.length (ints .i64 W.2.1) :: Cells Ud 3 [.int .i64 (k : Int)] :: C.A bc :: bK bd bc g :: T3.A bs bd g :: F) (Sub.refl _) (fun w h => h.sel 6 [5, 0, 2, 3, 4] rfl) ?_
      refine WL.append (m := W.2.1.length) (q := 1) (news := [.int .i64 (k : Int)]) Tryz.underlying24 el3 (OV.p rfl) (OV.p rfl) (Seq.all rfl) (by intro u hu; rw [List.mem_singleton.1 hu]; rfl) (by omega) rfl rfl (fun A5 c5 EJ ny => ?_)
      refine WL.sg rfl rfl (WL.nil (WC.region (WL.ad rfl rfl rfl ?_)))
      refine WL.mv rfl rfl (WL.nil ?_)
      refine ⟨rfl, ?_⟩
      first
      | exact ⟨(k + 1, T3, A5, c5), ⟨hkN, jO, by rw [hWs]; exact t3, by rw [hWs]⟩, (by show N - (k + 1) < N - k; omega), .cons rfl (.cons rfl (.cons (look_eq rfl (by dsimp only; rw [hWs, List.length_append]; rfl)) (.cons rfl (.cons (look_eq rfl (by simp)) (.nil _))))), fun w h => by
          dsimp only
          rw [hWs]
          dsimp only
          rw [List.length_append, bf]
          exact h.sel 5 [0, 2, 3, 4] rfl⟩
      | exact ⟨(k + 1, T3, A2, c2), ⟨hkN, jO, by rw [hWs]; exact t3, by rw [hWs]⟩, (by show N - (k + 1) < N - k; omega), .cons rfl (.cons rfl (.cons (look_eq rfl (by dsimp only; rw [hWs])) (.cons rfl (.cons (look_eq rfl (by simp)) (.nil _))))), fun w h => by
          dsimp only
          rw [hWs]
          exact h.sel 5 [4, 1, 2, 3] rfl⟩
     ·simp only [Bool.and_eq_true, Bool.and_eq_false_iff, decide_eq_true_eq, decide_eq_false_iff_not] at hc4
      have h4 := hc4
      rw [if_neg (fun hh => by rcases h4 with h | h; exact h hh.1; exact h hh.2)] at hWs
      refine WC.skip (WC.region (WL.ad rfl rfl rfl ?_))
      refine WL.mv rfl rfl (WL.nil ?_)
      refine ⟨rfl, ?_⟩
      first
      | exact ⟨(k + 1, T3, A5, c5), ⟨hkN, jO, by rw [hWs]; exact t3, by rw [hWs]⟩, (by show N - (k + 1) < N - k; omega), .cons rfl (.cons rfl (.cons (look_eq rfl (by dsimp only; rw [hWs, List.length_append]; rfl)) (.cons rfl (.cons (look_eq rfl (by simp)) (.nil _))))), fun w h => by
          dsimp only
          rw [hWs]
          dsimp only
          rw [List.length_append, bf]
          exact h.sel 5 [0, 2, 3, 4] rfl⟩
      | exact ⟨(k + 1, T3, A2, c2), ⟨hkN, jO, by rw [hWs]; exact t3, by rw [hWs]⟩, (by show N - (k + 1) < N - k; omega), .cons rfl (.cons rfl (.cons (look_eq rfl (by dsimp only; rw [hWs])) (.cons rfl (.cons (look_eq rfl (by simp)) (.nil _))))), fun w h => by
          dsimp only
          rw [hWs]
          exact h.sel 5 [4, 1, 2, 3] rfl⟩
   ·simp only [decide_eq_true_eq, decide_eq_false_iff_not] at hc2
    obtain rfl : k = N := by omega
    rw [← hW, hdn, if_neg Bool.false_ne_true] at hR
    subst hR
    refine WC.exit (WC.sr (WL.mv rfl rfl (WL.sg rfl rfl (WL.sg rfl rfl (WL.nil (WC.ret ?_))))))
    exact au.ret (H' := aU (.slice A2 W.2.1.length c2) 3 1 W.2.1.length (ints .i64 W.2.1) :: C.A bc :: bK bd bc g :: T2.A bs bd g :: F) (aO.fD rfl rfl rfl) (fun w h => h) ⟨A2, c2, T2, nM, e2, rfl, rfl⟩
theorem nN (hC : C.Ok) (hg : C.g = g) (hT : T.Ok g) (aB : Int) (hcan : qH C.sem T.sem aB) : Does Tryz.prog 42 #[ptr bs 0, .int .i64 aB] K (C.A bc :: bK bd bc g :: T.A bs bd g :: F)
    (fun v H' => ∃ (C' : Cw) (T' : bC), C'.Ok ∧ C'.g = g ∧ T'.Ok g ∧ C'.sem = (kE C.sem T.sem aB).1 ∧ T'.sem = (kE C.sem T.sem aB).2.1 ∧ v = .int .i64 (kE C.sem T.sem aB).2.2 ∧ H' = C'.A bc :: bK bd bc g :: T'.A bs bd g :: F) := by
  obtain ⟨R, hR⟩ : ∃ R, R = kE C.sem T.sem aB := ⟨_, rfl⟩
  rw [← hR]
  unfold kE at hR
  unfold qH at hcan
  obtain ⟨G, hG⟩ : ∃ G, G = bN C.sem T.sem aB := ⟨_, rfl⟩
  rw [← hG] at hR hcan
  refine Does.enter Tryz.func42 rfl Tryz.ntmps42 rfl ?_
  simp only [aI, Nat.reduceAdd]
  refine WC.sr (WL.sg rfl rfl (WL.nil (WC.sr (WL.mv rfl rfl (WL.mv rfl rfl (WL.call (vs := [_, _]) Tryz.call36 ⟨OV.p rfl, OV.p rfl, trivial⟩ (oD hC hg hT aB) rfl ?_))))))
  rintro _ _ ⟨A9, c9, T3, jO, t3, rfl, rfl⟩
  rw [← hG] at t3 ⊢
  refine WL.mv rfl rfl (WL.xt rfl rfl rfl (WL.xt rfl rfl rfl (WL.xt rfl rfl rfl (WL.sg rfl rfl (WL.sg rfl rfl (WL.sg rfl rfl (WL.nil (WC.seq (WC.sr (WL.mv rfl rfl (WL.val (V.neq (OV.p rfl) (OV.p rfl)) rfl (WL.nil ?_))))))))))))
  refine WC.cond rfl (fun hc0 => ?_) (fun hc0 => ?_)
  ·have h0 := hc0
   simp at h0
   rw [if_pos h0] at hR
   subst hR
   refine WC.sr (WL.mv rfl rfl (WL.sg rfl rfl (WL.nil (WC.ret ?_))))
   exact au.ret (H' := C.A bc :: bK bd bc g :: T3.A bs bd g :: F) (aO.tmp rfl rfl) (fun w h => h.tail) ⟨C, T3, hC, hg, jO, rfl, t3, rfl, rfl⟩
  ·have h0 := hc0
   simp at h0
   rw [if_neg (fun hh => hh h0)] at hR
   obtain ⟨k8, kl, UD⟩ := hcan h0
   refine WC.skip (WC.sr (WL.mv rfl rfl (WL.mv rfl rfl (WL.mv rfl rfl ?_))))
   refine WL.have_ (fun w h => aU.Mq h) (fun hcap => ?_)
   refine WL.sub (H' := C.A bc :: bK bd bc g :: T3.A bs bd g :: aU (.slice A9 G.1.d.length c9) 5 1 G.1.d.length (aA .u8 G.1.d) :: F) (Sub.refl _) (fun w h => h.sel 4 [1, 2, 3, 0] rfl) ?_
   refine WL.call (vs := [_, _, _]) Tryz.call18 ⟨OV.p rfl, OV.p rfl, OV.p rfl, trivial⟩ (kN (aB := aB) (d := G.1.d) hC hg jO (aU.seq (by rw [aH, Nat.mul_one])) k8 hcap kl (by rw [t3]; exact UD)) rfl ?_
   rintro _ _ ⟨C2, T2, hC2, g2, nM, s2, t2, rfl, rfl⟩
   rw [t3, ← hR] at s2 t2 ⊢
   refine WL.sg rfl rfl (WL.nil (WC.ret ?_))
   exact au.ret (H' := C2.A bc :: bK bd bc g :: T2.A bs bd g :: F) (aO.tmp rfl rfl) (fun w h => h.sel 4 [0, 1, 2] rfl) ⟨C2, T2, hC2, g2, nM, s2, t2, rfl, rfl⟩
theorem BH (aB : Int) : aL Tryz.prog 42 #[.pointer none, .int .i64 aB] K F (.int .i64 3) := by
  refine Does.enter Tryz.func42 rfl Tryz.ntmps42 rfl ?_
  simp only [aI, Nat.reduceAdd]
  refine WC.sr (WL.sg rfl rfl (WL.nil (WC.sr (WL.mv rfl rfl (WL.mv rfl rfl (WL.call (vs := [_, _]) Tryz.call36 ⟨OV.p rfl, OV.p rfl, trivial⟩ (KR aB) rfl ?_))))))
  rintro _ H0 ⟨rfl, h0⟩
  subst H0
  refine WL.mv rfl rfl (WL.xt rfl rfl rfl (WL.xt rfl rfl rfl (WL.xt rfl rfl rfl (WL.sg rfl rfl (WL.sg rfl rfl (WL.sg rfl rfl (WL.nil (WC.seq (WC.sr (WL.mv rfl rfl (WL.val (V.neq (OV.p rfl) (OV.p rfl)) rfl (WL.nil ?_))))))))))))
  refine WC.dV rfl (by first | rfl | (simp; done) | (simp; omega)) ?_
  refine WC.sr (WL.mv rfl rfl (WL.sg rfl rfl (WL.nil (WC.ret ?_))))
  exact au.ret (H' := F) (aO.tmp rfl rfl) (fun w h => h) ⟨rfl, rfl⟩
theorem Bb {A : Option Addr} {m cap n b4 b6 b7 : Nat} {l : List Int} (hl : l.length = m) (hs : Seq K F A m 1 (ints .i64 l)) (hn : n ≤ m) (hm : m ≤ 1000000) (hc : m ≤ cap) : AO Tryz.prog 68 #[ptr b6 0, ptr b7 0, ptr b4 0] K (Cells b4 24 [.slice none 0 0] :: Cells b6 24 [.slice A m cap] :: Cells b7 3 [.int .i64 (n : Int)] :: F)
    (fun H' => ∃ A' c', H' = aU (.slice A' n c') 3 1 n (ints .i64 (l.take n)) :: Cells b4 24 [.slice A' n c'] :: Cells b6 24 [.slice A m cap] :: Cells b7 3 [.int .i64 (n : Int)] :: F) := by
  refine Does.Pj Tryz.func68 rfl Tryz.ntmps68 rfl ?_
  simp only [aI, Nat.reduceAdd]
  refine WC.sr (WL.ld Tryz.isAgg24 rfl rfl ?_)
  refine WL.ld Tryz.isAgg3 rfl rfl ?_
  refine WL.val (V.aC (v' := .slice A n cap) (V.slice bZ (l := 0) (h := n) (u := cap) (OV.p rfl) OO.none (OO.some (OV.p rfl) (fun _ => by first | rfl | omega)) OO.none (by simp) (by omega) (by omega) (by omega)) (fun _ => by
    congr 1
    split
    · rfl
    · cases A with
      | none => rfl
      | some a => simp [Addr.add])) rfl ?_
  refine WL.val (V.len (t := 24) Tryz.runUnderlying24 (OV.p rfl)) rfl (WL.mv rfl rfl (WL.nil (WC.block ?_)))
  refine WC.loop (σ := Nat × Option Addr × Nat) (fun s => [(2, ptr b4 0), (7, .slice A n cap), (8, .int .i64 (n : Int)), (9, .int .i64 (s.1 : Int))]) (fun s => aU (.slice s.2.1 s.1 s.2.2) 3 1 s.1 (ints .i64 (l.take s.1)) :: Cells b4 24 [.slice s.2.1 s.1 s.2.2] :: Cells b6 24 [.slice A m cap] :: Cells b7 3 [.int .i64 (n : Int)] :: F) (fun s => s.1 ≤ n) (fun s => n - s.1) (0, none, 0) (Nat.zero_le _) (.cons rfl (.cons rfl (.cons rfl (.cons rfl (.nil _))))) (fun w h => Sat.fO h _ _) ?_
  rintro ⟨k, A2, c2⟩ hk
  dsimp only at hk ⊢
  refine WC.sr (WL.val (V.lss (OV.p rfl) (OV.p rfl)) rfl (WL.nil (WC.seq ?_)))
  refine WC.cond rfl (fun hc0 => ?_) (fun hc0 => ?_)
  ·simp only [decide_eq_true_eq, decide_eq_false_iff_not] at hc0
   have hkn : k < n := by omega
   have htk : (k : Int).toNat = k := by omega
   obtain ⟨x, hx⟩ : ∃ x, l[k]? = some x := ⟨_, List.getElem?_eq_getElem (by omega)⟩
   have hrd : Rd K F (A.map (·.add ((k : Int).toNat * 1))) (.int .i64 x) := by
     have := hs.rd k (.int .i64 x) (by simp [ints, hx])
     rwa [htk, Nat.mul_one]
   refine WC.skip (WC.seq (WC.block (WC.sr ?_)))
   refine WL.val (V.dS bZ (OV.p rfl) (OV.p rfl) (fun _ => by omega) (fun _ => by repeat (first | exact hrd | apply Rd.up))) rfl ?_
   refine WL.val (V.load Tryz.isAgg3 (OV.p rfl) (fun _ => by repeat (first | exact hrd | apply Rd.up))) rfl ?_
   refine WL.sg rfl rfl (WL.nil (WC.region (WL.ld Tryz.isAgg24 rfl rfl ?_)))
   refine WL.mv rfl rfl ?_
   refine WL.buildSlice (E := 3) (cs := [_]) (vs := [(0, _)]) ⟨OV.p rfl, trivial⟩ rfl (bT _) rfl (fun b15 => ?_)
   refine WL.sub (Sub.refl _) (fun w h => h.p1) ?_
   refine WL.append (m := k) (q := 1) (news := [.int .i64 x]) Tryz.underlying24 el3 (OV.p rfl) (OV.p rfl) (Seq.all rfl) (by intro u hu; rw [List.mem_singleton.1 hu]; rfl) (by omega) rfl rfl (fun A5 c5 EJ ny => ?_)
   refine WL.store (cs := [_]) Tryz.sizeOf24 (OV.p rfl) (OV.p rfl) rfl rfl rfl (bA.up (bA.up (bA.here rfl rfl))) (WL.nil (WC.region (WL.ad rfl rfl rfl ?_)))
   refine WL.mv rfl rfl (WL.nil ?_)
   refine ⟨rfl, ?_⟩
   refine ⟨(k + 1, A5, c5), hkn, (by show n - (k + 1) < n - k; omega), .cons rfl (.cons rfl (.cons rfl (.cons (look_eq rfl (by simp)) (.nil _)))), fun w h => ?_⟩
   dsimp only
   rw [List.take_add_one, hx, bf]
   exact h.sel 3 [0, 2] rfl
  ·simp only [decide_eq_true_eq, decide_eq_false_iff_not] at hc0
   obtain rfl : k = n := by omega
   refine WC.exit ?_
   exact au.normal (H' := aU (.slice A2 k c2) 3 1 k (ints .i64 (l.take k)) :: Cells b4 24 [.slice A2 k c2] :: Cells b6 24 [.slice A m cap] :: Cells b7 3 [.int .i64 (k : Int)] :: F) (aO.none rfl) (fun w h => h) ⟨A2, c2, rfl⟩
theorem xk (hC : C.Ok) (hg : C.g = g) (hT : T.Ok g) (h64 : T.stands.length ≤ 1000) (limit : Int) {T1 : St} {l : List Int} (hw : gX C.sem T.sem limit = (T1, l, 0))
    (hcan : ∀ k, k < l.length → (bW l C.sem T1 k).2.2 = 0 → qH (bW l C.sem T1 k).1 (bW l C.sem T1 k).2.1 (l.getD k 0)) : Does Tryz.prog 32 #[ptr bs 0, .int .i64 limit] K (C.A bc :: bK bd bc g :: T.A bs bd g :: F)
    (fun v H' => ∃ (A' : Option Addr) (c' n : Nat) (C' : Cw) (T' : bC), C'.Ok ∧ C'.g = g ∧ T'.Ok g ∧ C'.sem = (bW l C.sem T1 l.length).1 ∧ T'.sem = (bW l C.sem T1 l.length).2.1 ∧ n ≤ l.length ∧ ((bW l C.sem T1 l.length).2.2 = 0 → n = l.length) ∧ v = .tuple #[.slice A' n c', .int .i64 (bW l C.sem T1 l.length).2.2] ∧
      H' = aU (.slice A' n c') 3 1 n (ints .i64 (l.take n)) :: C'.A bc :: bK bd bc g :: T'.A bs bd g :: F) := by
  have hll : l.length ≤ 1000 := by
    have h1 := D9 C.sem T.sem limit T.sem.stands.length
    unfold gX at hw
    split at hw
    · injection hw with _ hw; injection hw with hw _; rw [← hw]; exact Nat.zero_le _
    · injection hw with _ hw; injection hw with hw _; rw [← hw]; exact Nat.le_trans h1 h64
  refine Does.OY Tryz.func32 rfl Tryz.ntmps32 rfl ?_
  simp only [aI, Nat.reduceAdd]
  refine WC.sr ?_
  refine WL.alloc (cs := [(.slice none 0 0)]) Tryz.zeroValue24 rfl rfl (fun b4 => ?_)
  refine WL.sg rfl rfl (WL.nil (WC.sr (WL.mv rfl rfl (WL.mv rfl rfl ?_))))
  refine WL.sub (Sub.refl _) (fun w h => h.sel 4 [1, 2, 3, 0] rfl) ?_
  refine WL.call (vs := [_, _]) Tryz.call31 ⟨OV.p rfl, OV.p rfl, trivial⟩ (iW hC hg hT h64 limit) rfl ?_
  rintro _ _ ⟨A9, c9, T2, nM, t2, rfl, rfl⟩
  rw [hw] at t2 ⊢
  dsimp only at t2 ⊢
  refine WL.have_ (fun w h => aU.Mq h) (fun hcap => ?_)
  refine WL.mv rfl rfl (WL.xt rfl rfl rfl (WL.xt rfl rfl rfl ?_))
  refine WL.alloc (cs := [(.slice none 0 0)]) Tryz.zeroValue24 rfl rfl (fun b6 => ?_)
  refine WL.store (cs := [_]) Tryz.sizeOf24 (OV.p rfl) (OV.p rfl) rfl rfl rfl (by repeat (first | exact bA.here (cs' := [_]) rfl rfl | apply bA.up)) ?_
  refine WL.sg rfl rfl (WL.nil (WC.sr ?_))
  refine WL.alloc (cs := [(.int .i64 0)]) Tryz.zeroValue3 rfl rfl (fun b7 => ?_)
  refine WL.store (cs := [_]) Tryz.sizeOf3 (OV.p rfl) (OV.p rfl) rfl rfl rfl (by repeat (first | exact bA.here (cs' := [_]) rfl rfl | apply bA.up)) ?_
  refine WL.nil (WC.sr (WL.val (V.makeFunc (us := []) (vs := [_, _, _]) trivial ⟨OV.p rfl, OV.p rfl, OV.p rfl, trivial⟩) rfl (WL.defer (OV.p rfl) (WL.nil (WC.seq (WC.sr (WL.ld Tryz.isAgg24 rfl rfl ?_)))))))
  refine WL.val (V.len (t := 24) Tryz.runUnderlying24 (OV.p rfl)) rfl (WL.mv rfl rfl (WL.nil (WC.block ?_)))
  refine WC.loop (σ := Nat × Cw × bC) (fun s => [(0, ptr bs 0), (4, ptr b4 0), (5, .int .i64 0), (6, ptr b6 0), (7, ptr b7 0), (17, .slice A9 l.length c9), (18, .int .i64 (l.length : Int)), (19, .int .i64 (s.1 : Int))]) (fun s => s.2.1.A bc :: bK bd bc g :: s.2.2.A bs bd g :: aU (.slice A9 l.length c9) 3 1 l.length (ints .i64 l) :: Cells b4 24 [.slice none 0 0] :: Cells b6 24 [.slice A9 l.length c9] :: Cells b7 3 [.int .i64 (s.1 : Int)] :: F) (fun s => s.1 ≤ l.length ∧ s.2.1.Ok ∧ s.2.1.g = g ∧ s.2.2.Ok g ∧ s.2.1.sem = (bW l C.sem T1 s.1).1 ∧ s.2.2.sem = (bW l C.sem T1 s.1).2.1 ∧ (bW l C.sem T1 s.1).2.2 = 0) (fun s => l.length - s.1) (0, C, T2) ⟨Nat.zero_le _, hC, hg, nM, rfl, t2, rfl⟩ (.cons rfl (.cons rfl (.cons rfl (.cons rfl (.cons rfl (.cons rfl (.cons rfl (.cons rfl (.nil _))))))))) (fun w h => h.sel 7 [3, 4, 5, 2, 6, 1, 0] rfl) ?_
  rintro ⟨k, C3, T3⟩ ⟨hk, Kr, g3, jO, s3, t3, e3⟩
  dsimp only at hk Kr g3 jO s3 t3 e3 ⊢
  have hseq : ∀ {H : List ak}, Seq K (aU (.slice A9 l.length c9) 3 1 l.length (ints .i64 l) :: H) A9 l.length 1 (ints .i64 l) := fun {H} => aU.seq (by rw [aG, Nat.mul_one])
  have hmv : bW l C.sem T1 (k + 1) = kE C3.sem T3.sem (l.getD k 0) := by rw [bW, if_neg (fun h => h e3), s3, t3]
  refine WC.sr (WL.val (V.lss (OV.p rfl) (OV.p rfl)) rfl (WL.nil (WC.seq ?_)))
  refine WC.cond rfl (fun hc0 => ?_) (fun hc0 => ?_)
  ·simp only [decide_eq_true_eq, decide_eq_false_iff_not] at hc0
   have hkl : k < l.length := by omega
   have htk : (k : Int).toNat = k := by omega
   obtain ⟨x, hx⟩ : ∃ x, x = l.getD k 0 := ⟨_, rfl⟩
   have hrd : ∀ {H : List ak}, Rd K (aU (.slice A9 l.length c9) 3 1 l.length (ints .i64 l) :: H) (A9.map (·.add ((k : Int).toNat * 1))) (.int .i64 x) := fun {H} => by
     have := (hseq (H := H)).rd k (.int .i64 x) (by simp [ints, hx, List.getD, hkl])
     rwa [htk, Nat.mul_one]
   rw [← hx] at hmv
   obtain ⟨R, hR⟩ : ∃ R, R = kE C3.sem T3.sem x := ⟨_, rfl⟩
   have hcn := hcan k hkl e3
   rw [← s3, ← t3, ← hx] at hcn
   refine WC.skip (WC.seq (WC.block (WC.sr ?_)))
   refine WL.val (V.dS bZ (OV.p rfl) (OV.p rfl) (fun _ => by omega) (fun _ => by repeat (first | exact hrd | apply Rd.up))) rfl ?_
   refine WL.val (V.load Tryz.isAgg3 (OV.p rfl) (fun _ => by repeat (first | exact hrd | apply Rd.up))) rfl ?_
   refine WL.sg rfl rfl (WL.nil (WC.seq (WC.sr (WL.mv rfl rfl (WL.mv rfl rfl (WL.call (vs := [_, _]) Tryz.call42 ⟨OV.p rfl, OV.p rfl, trivial⟩ (nN Kr g3 jO x hcn) rfl ?_))))))
   rintro _ _ ⟨C4, T4, M6, g4, PY, s4, t4, rfl, rfl⟩
   rw [← hR] at s4 t4 hmv ⊢
   refine WL.sg rfl rfl (WL.nil (WC.sr (WL.mv rfl rfl (WL.val (V.neq (OV.p rfl) (OV.p rfl)) rfl (WL.nil ?_)))))
   refine WC.cond rfl (fun hc1 => ?_) (fun hc1 => ?_)
   ·have h1 := hc1
    simp at h1
    have hend : bW l C.sem T1 l.length = R := by
      have := zL (l := l) (S := C.sem) (T := T1) (k := k + 1) (by rw [hmv]; exact h1) (l.length - (k + 1))
      rw [show k + 1 + (l.length - (k + 1)) = l.length by omega] at this
      rw [this, hmv]
    refine WC.sr (WL.mv rfl rfl (WL.store (cs := [_]) Tryz.sizeOf24 (OV.p rfl) (OV.p rfl) rfl rfl rfl (bA.up (bA.up (bA.up (bA.up (bA.here rfl rfl))))) (WL.sg rfl rfl (WL.nil (WC.ret ?_)))))
    refine ⟨_, _, rfl, Tryz.call68, _, (Bb (n := k) (b4 := b4) (b6 := b6) (b7 := b7) (F := aU (.slice A9 l.length c9) 3 1 l.length (ints .i64 l) :: C4.A bc :: bK bd bc g :: T4.A bs bd g :: F) rfl hseq (by omega) (by omega) hcap).sat (fun w h => h.sel 7 [4, 5, 6, 3, 0, 1, 2] rfl), ?_⟩
    rintro _ ⟨A', c', rfl⟩
    exact ⟨_, aU (.slice A' k c') 3 1 k (ints .i64 (l.take k)) :: C4.A bc :: bK bd bc g :: T4.A bs bd g :: F, aO.two rfl (R1.cell1 rfl Tryz.isAgg24 (by repeat (first | exact Rd.here rfl | apply Rd.up))) (R1.tmp rfl), fun w h => h.sel 8 [0, 5, 6, 7] rfl, A', c', k, C4, T4, M6, g4, PY, by rw [hend]; exact s4, by rw [hend]; exact t4, by omega, fun h => absurd (by rw [hend] at h; exact h) h1, by rw [hend], rfl⟩
   ·have h1 := hc1
    simp at h1
    have he0 : R.2.2 = 0 := h1
    refine WC.skip (WC.region (WL.ld Tryz.isAgg3 rfl rfl ?_))
    refine WL.ad rfl rfl rfl ?_
    refine WL.store (cs := [_]) Tryz.sizeOf3 (OV.p rfl) (OV.p rfl) rfl rfl rfl (bA.up (bA.up (bA.up (bA.up (bA.up (bA.up (bA.here rfl rfl))))))) (WL.nil (WC.region (WL.ad rfl rfl rfl ?_)))
    refine WL.mv rfl rfl (WL.nil ?_)
    refine ⟨rfl, ?_⟩
    exact ⟨(k + 1, C4, T4), ⟨hkl, M6, g4, PY, by rw [hmv]; exact s4, by rw [hmv]; exact t4, by rw [hmv]; exact he0⟩, (by show l.length - (k + 1) < l.length - k; omega), .cons rfl (.cons rfl (.cons (look_eq rfl (by rw [he0])) (.cons rfl (.cons rfl (.cons rfl (.cons rfl (.cons (look_eq rfl (by simp)) (.nil _)))))))), fun w h => h⟩
  ·simp only [decide_eq_true_eq, decide_eq_false_iff_not] at hc0
   obtain rfl : k = l.length := by omega
   refine WC.exit (WC.sr (WL.mv rfl rfl (WL.store (cs := [_]) Tryz.sizeOf24 (OV.p rfl) (OV.p rfl) rfl rfl rfl (bA.up (bA.up (bA.up (bA.up (bA.here rfl rfl))))) (WL.sg rfl rfl (WL.nil (WC.ret ?_))))))
   refine ⟨_, _, rfl, Tryz.call68, _, (Bb (n := l.length) (b4 := b4) (b6 := b6) (b7 := b7) (F := aU (.slice A9 l.length c9) 3 1 l.length (ints .i64 l) :: C3.A bc :: bK bd bc g :: T3.A bs bd g :: F) rfl hseq (Nat.le_refl _) (by omega) hcap).sat (fun w h => h.sel 7 [4, 5, 6, 3, 0, 1, 2] rfl), ?_⟩
   rintro _ ⟨A', c', rfl⟩
   exact ⟨_, aU (.slice A' l.length c') 3 1 l.length (ints .i64 (l.take l.length)) :: C3.A bc :: bK bd bc g :: T3.A bs bd g :: F, aO.two rfl (R1.cell1 rfl Tryz.isAgg24 (by repeat (first | exact Rd.here rfl | apply Rd.up))) (R1.tmp rfl), fun w h => h.sel 8 [0, 5, 6, 7] rfl, A', c', l.length, C3, T3, Kr, g3, jO, s3, t3, Nat.le_refl _, fun _ => rfl, by rw [e3], rfl⟩
end
theorem Oi : (1 : Int) ≠ 72 := by decide
theorem Pv : (71 : Int) ≠ 72 := by decide
namespace ah
section
variable {S S' : ah} {b : Int}
theorem Ic (p : Int) (xs : List Int) : (S.program b p xs).1.wrong = S.wrong ∧ (S.program b p xs).1.marked = S.marked ∧ (S.program b p xs).1.weak = S.weak ∧ (S.weak b = false → (S.program b p xs).2 ≠ 72) := by
  unfold program
  repeat' split
  all_goals first
    | exact ⟨rfl, rfl, rfl, fun _ => oG⟩
    | exact ⟨rfl, rfl, rfl, fun _ => Oi⟩
    | exact ⟨rfl, rfl, rfl, fun _ => Pv⟩
    | exact ⟨rfl, rfl, rfl, fun _ => sw⟩
    | (rename_i h; exact ⟨rfl, rfl, rfl, fun hw => by rw [hw] at h; cases h⟩)
theorem E8 : (S.erase b).1.marked = S.marked ∧ (S.erase b).1.weak = S.weak ∧ (S.weak b = false → (S.erase b).2 ≠ 72) := by
  unfold erase
  repeat' split
  all_goals first
    | exact ⟨rfl, rfl, fun _ => oG⟩
    | exact ⟨rfl, rfl, fun _ => Oi⟩
    | exact ⟨rfl, rfl, fun _ => sw⟩
    | (rename_i h; exact ⟨rfl, rfl, fun hw => by rw [hw] at h; cases h⟩)
theorem IU {x : ah × Int} (h : x.2 ≠ 72) : done b x = x := if_pos h
theorem u7 (hw : S.weak b = false) : (S.aM b).1.marked = S.marked ∧ (S.aM b).1.weak = S.weak := by
  unfold aM
  split
  · exact ⟨rfl, rfl⟩
  · have := E8 (S := S) (b := b)
    rw [IU (this.2.2 hw)]
    exact ⟨this.1, this.2.1⟩
theorem DY (hw : S.weak b = false) (p : Int) (d : List Nat) : (S.bO b p d).1.wrong = S.wrong ∧ (S.bO b p d).1.marked = S.marked ∧ (S.bO b p d).1.weak = S.weak := by
  unfold bO
  split
  · exact ⟨rfl, rfl, rfl⟩
  · have := Ic (S := S) (b := b) p (aZ (dw S.g d))
    rw [IU (this.2.2.2 hw)]
    exact ⟨this.1, this.2.1, this.2.2.1⟩
theorem sS (hw : S.weak b = false) (pg : Nat → List Nat) : ∀ k, (dL S b pg k).1.wrong = S.wrong ∧ (dL S b pg k).1.marked = S.marked ∧ (dL S b pg k).1.weak = S.weak
  | 0 => ⟨rfl, rfl, rfl⟩
  | k + 1 => by
    obtain ⟨h1, h2, h3⟩ := sS hw pg k
    rw [dL]
    split
    · exact ⟨h1, h2, h3⟩
    · obtain ⟨k1, k2, k3⟩ := DY (S := (dL S b pg k).1) (b := b) (by rw [h3]; exact hw) (k : Int) (pg k)
      exact ⟨k1.trans h1, k2.trans h2, k3.trans h3⟩
theorem Bz (hw : S.weak b = false) (num aB : Int) (d : List Nat) : (bM S num b aB d).1.marked = S.marked := by
  have h1 := u7 hw
  unfold bM
  split
  · exact h1.1
  · exact (sS (by rw [h1.2]; exact hw) _ _).2.1.trans h1.1
theorem DC (hu : S.up = true) (hb : 0 ≤ b ∧ b < S.g.bl) (hpg : 0 < S.g.pg) (hm : S.marked b = false) (hln : (S.next.length : Int) = S.g.bl) (hw : S.weak b = false) {num aB : Int} {d : List Nat} (h0 : (bM S num b aB d).2 = 0) :
    ∀ p, 0 ≤ p → p < S.g.pg → (bM S num b aB d).1.wrong (b, p) = none := fun p h1 h2 => by
  obtain ⟨_, _, _, e4⟩ := uq hu hb hpg hm hln
  have hk := u7 hw
  unfold bM at h0 ⊢
  by_cases he : (S.aM b).2 ≠ 0
  · rw [if_pos he] at h0; exact absurd h0 he
  · rw [if_neg he, (sS (by rw [hk.2]; exact hw) _ _).1]
    have he' : (S.aM b).2 = 0 := Decidable.of_not_not he
    rcases e4 with h | (h | h) | h
    · exact (h.2.2.2.2 p h1 h2).2
    · rw [he'] at h; exact absurd h.1.symm (by decide)
    · rw [he'] at h; exact absurd h.1.symm (by decide)
    · rw [he'] at h; exact absurd h.1.symm (by decide)
structure l7 (S S' : ah) (b : Int) : Prop where
  g : S'.g = S.g
  up : S'.up = S.up
  marked : S'.marked b = S.marked b
  pages : ∀ p, S'.pages (b, p) = S.pages (b, p)
  wrong : ∀ p, S'.wrong (b, p) = S.wrong (b, p)
theorem l7.aY (h : l7 S S' b) (p : Int) : S'.aY b p = S.aY b p := by
  have h1 : S'.fJ b p = S.fJ b p := by
    unfold fJ reads
    rw [h.pages, h.wrong]
    unfold blank raw
    rw [h.g]
  unfold ah.aY ahead bad
  rw [h1, h.g, h.up, h.marked]
theorem l7.Qr (h : l7 S S' b) (n0 : Nat) : ∀ k, dZ S' b n0 k = dZ S b n0 k
  | 0 => rfl
  | k + 1 => by rw [dZ, dZ, h.Qr n0 k, h.aY]
end
end ah
theorem GV {S S' : ah} {T T' : St} {aB : Int} (h : ah.l7 S S' (T.at' aB)) (hr : T.ready aB = 0) (hr' : T'.ready aB = 0) (ha : T'.at' aB = T.at' aB) {d : List Nat} {N : Nat} (h0 : bN S T aB = (⟨0, d, N⟩, T)) : bN S' T' aB = (⟨0, d, N⟩, T') := by
  have hg : S'.g = S.g := h.g
  unfold bN at h0 ⊢
  rw [hr, if_neg (fun h => h rfl)] at h0
  rw [hr', if_neg (fun h => h rfl), ha]
  by_cases h1 : T.at' aB < 0
  · rw [if_pos h1] at h0; injection h0 with h0 _; injection h0 with h0 _; exact absurd h0 (by decide)
  rw [if_neg h1] at h0 ⊢
  rw [h.aY, hg, h.Qr]
  by_cases h2 : (S.aY (T.at' aB) 0).err ≠ 0
  · rw [if_pos h2] at h0; injection h0 with h0 _; injection h0 with h0 _; exact absurd h0 h2
  rw [if_neg h2] at h0 ⊢
  by_cases h3 : gq S.g (S.aY (T.at' aB) 0).d ≠ 0
  · rw [if_pos h3] at h0; injection h0 with h0 _; injection h0 with h0 _; exact absurd h0 h3
  rw [if_neg h3] at h0 ⊢
  split at h0
  · rename_i h4; injection h0 with h0 _; injection h0 with h0 _; exact absurd h0 h4
  · rename_i h4
    rw [if_neg h4]
    injection h0 with h0 _
    rw [h0]
theorem KL {S : ah} {b : Int} {T : St} {aB : Int} {h : Hd} {d : List Nat} (hg : S.g.aD) (hu : S.up = true) (hb : 0 ≤ b ∧ b < S.g.bl) (hm : S.marked b = false) (hf : ∀ p : Nat, S.IQ (b, (p : Int)))
    (hr : T.ready aB = 0) (ha : T.at' aB = b) (hH : S.Holds b h d) (hw : ∀ p, S.wrong (b, p) = none) : bN S T aB = (⟨0, d, 0⟩, T) := by
  obtain ⟨N, h1, h2⟩ := read_holds hg hu hb hm hf hr ha hH
  rw [h2, h1 (fun p => hw _)]
structure bS (aj n : Nat) (S : ah) (T : St) (m : Lm) : Prop where
  si : ∃ st, ah.SI aj aj (256 + n) S st T m
  up : S.up = true
  weak : ∀ b, S.weak b = false
  un : ∀ b, S.marked b = false
  inp : ∀ b p, (p < 0 ∨ S.g.pg ≤ p) → S.wrong (b, p) = none
  next : T.next ≤ 1 + 21 * (n : Int)
  bl : (aj : Int) < S.g.bl ∧ S.g.bl ≤ 20
section
variable {aj n : Nat} {S : ah} {T : St} {m : Lm}
theorem bS.read (h : bS aj n S T m) {i : Nat} (hi : i < aj) {v : List Nat} (hm : m i = some v) : (∃ N : Nat, bN S T (i : Int) = (⟨0, v, N⟩, T)) ∧ ((∀ p, S.wrong (T.stands.getD i 0, p) = none) → bN S T (i : Int) = (⟨0, v, 0⟩, T)) ∧ Small 256 v ∧ (v.length : Int) ≤ S.g.cap := by
  obtain ⟨st, hI⟩ := h.si
  obtain ⟨hd, h1, h2, h3⟩ := hI.some_ i hi v hm
  have hst := hI.ci.stat _ h1.lo h1.hi h1.un
  rw [h1.st] at hst
  obtain ⟨⟨N, _, h5⟩, _⟩ := hI.CG h.up hi hm
  refine ⟨⟨N, h5⟩, fun hw => KL hI.ci.aD h.up ⟨h1.lo, h1.hi⟩ h1.un (fun p => hI.ci.few _) (hI.ready hi) (hI.at' i) hst hw, hst.small, ?_⟩
  have hmay := hst.may
  unfold Hd.may Geo.fits at hmay
  simp only [Bool.and_eq_true, decide_eq_true_eq] at hmay
  have := hst.len
  omega
theorem bS.change (h : bS aj n S T m) (hn : n ≤ 100000) {i0 : Nat} (hi0 : i0 < aj) {d : List Nat} (h8 : Small 256 d) (hd : (d.length : Int) ≤ S.g.cap) :
    (aK S T (i0 : Int) d).1.g = S.g ∧ (S.left = 0 → (aK S T (i0 : Int) d).1.left = 0 ∧ (aK S T (i0 : Int) d).2.2 = 0) ∧
    (((aK S T (i0 : Int) d).2.2 = 0 ∧ bS aj (n + 1) (aK S T (i0 : Int) d).1 (aK S T (i0 : Int) d).2.1 (m.put i0 (some d)) ∧ (∀ p, (aK S T (i0 : Int) d).1.wrong ((aK S T (i0 : Int) d).2.1.stands.getD i0 0, p) = none) ∧
        ∀ j, j < aj → j ≠ i0 → (aK S T (i0 : Int) d).2.1.stands.getD j 0 = T.stands.getD j 0 ∧ ah.l7 S (aK S T (i0 : Int) d).1 (T.stands.getD j 0)) ∨
     ((aK S T (i0 : Int) d).2.2 = 70 ∧ ∀ S', ah.sj (aK S T (i0 : Int) d).1 S' → S'.up = true → S'.weak = (aK S T (i0 : Int) d).1.weak → S'.wrong = (aK S T (i0 : Int) d).1.wrong →
        ∃ mm, (mm = m ∨ mm = m.put i0 (some d)) ∧ bS aj (n + 1) S' (gY S' aj) mm)) := by
  obtain ⟨st, hI⟩ := h.si
  have hnx := h.next
  have hbl := h.bl
  have hgb := hI.ci.aD
  unfold Geo.aD at hgb
  obtain ⟨r1, r2, r3, r4, r5, r6, r7⟩ := ah.xu hI h.up hi0 hi0 (by omega) h8 hd (by omega)
  obtain ⟨c1, c2, c3⟩ := ah.Gj hI h.up
  obtain ⟨cs, hcs⟩ : ∃ cs, cs = iy S.good T.stands T.at_ S.g.bl S.g.bl.toNat 0 := ⟨_, rfl⟩
  rw [← hcs] at c1 c2 c3
  have e0 : aK S T (i0 : Int) d = zq (gy (i0 : Int) d cs S T) := by
    unfold aK
    rw [hI.ready hi0, if_neg (fun h => h rfl), if_neg (by omega), if_neg (by omega), ← hcs]
    rfl
  have Pp : ∀ b p, (p < 0 ∨ S.g.pg ≤ p) → (aK S T (i0 : Int) d).1.wrong (b, p) = none := fun b p hp => by
    rcases r3 (b, p) with e | e
    · exact e
    · rw [e]; exact h.inp b p hp
  have Sw : (aK S T (i0 : Int) d).2.2 ≠ 6 := fun h6 => by
    rcases r7 with ⟨_, _, _, q4⟩ | ⟨q1, _⟩ | ⟨q1, _⟩
    · have h1 := ah.Aa hI q4
      have h2 : ((List.range S.g.bl.toNat).filter fun (b : Nat) => !S.marked (b : Int) && !S.weak (b : Int)).length = S.g.bl.toNat := by
        rw [List.filter_eq_self.2 (fun b _ => by rw [h.un, h.weak]; rfl), List.length_range]
      have h3 := List.length_filter_le (fun i => (m i).isSome) (List.range aj)
      rw [List.length_range] at h3
      omega
    · rw [h6] at q1; exact absurd q1 (by decide)
    · rw [h6] at q1; exact absurd q1 (by decide)
  obtain ⟨b, bs, hbs⟩ : ∃ b bs, cs = b :: bs := by
    cases hc : cs with
    | cons b bs => exact ⟨b, bs, rfl⟩
    | nil =>
      exfalso
      apply Sw
      rw [e0, hc]
      show (zq (S, T, none)).2.2 = 6
      unfold zq
      dsimp only
      rw [vT hI.ci.aD h.up, if_neg (by decide)]
  obtain ⟨hb1, hb2, hb3, hb4⟩ := (c3 b).1 (by rw [hbs]; exact .head _)
  obtain ⟨W, hW⟩ : ∃ W, W = bM S T.next b (i0 : Int) d := ⟨_, rfl⟩
  have hnb := hI.next
  obtain ⟨w1, w2, w3, w4, w5⟩ := ah.AB (num := T.next) (aB := (i0 : Int)) hI.ci.aD h.up ⟨hb1, hb2⟩ hb3 hI.ci.len h8 (ah.LW hd (show i0 < 64 by omega) (by omega))
  have hmk := ah.Bz (h.weak b) T.next (i0 : Int) d
  rw [← hW] at w1 w2 w3 w4 w5 hmk
  have h72 := w4 (h.weak b)
  have e2 : aK S T (i0 : Int) d = if W.2 ≠ 0 then (W.1, (T.forget b).told W.2, W.2) else (W.1, ((T.forget b).mark (i0 : Int)).done (i0 : Int) b S.g.bl, 0) := by
    have hc : wB (i0 : Int) d S T b = if W.2 ≠ 0 then (W.1, (T.forget b).told W.2, some W.2) else (W.1, ((T.forget b).mark (i0 : Int)).done (i0 : Int) b S.g.bl, some 0) := by
      unfold wB
      rw [← hW, if_neg h72]
    rw [e0, hbs, gy, hc]
    by_cases h0 : W.2 ≠ 0
    · rw [if_pos h0, if_pos h0, if_neg (by intro h; cases h)]; rfl
    · rw [if_neg h0, if_neg h0, if_neg (by intro h; cases h)]; rfl
  have hW1 : (aK S T (i0 : Int) d).1 = W.1 := by rw [e2]; split <;> rfl
  refine ⟨r1, fun hl => ⟨(r4 hl).1, ?_⟩, ?_⟩
  · rcases r7 with ⟨q1, _⟩ | ⟨q1, _⟩ | ⟨q1, _⟩
    · exact absurd q1 Sw
    · exact q1
    · exact absurd q1 (r4 hl).2
  · rcases r7 with ⟨q1, _⟩ | ⟨q1, q2, st', q3⟩ | ⟨q1, q2, st', q3, q4⟩
    · exact absurd q1 Sw
    · have hW0 : W.2 = 0 := by
        rw [e2] at q1
        by_cases h0 : W.2 ≠ 0
        · rw [if_pos h0] at q1; exact q1
        · exact Decidable.of_not_not h0
      have e3 : aK S T (i0 : Int) d = (W.1, ((T.forget b).mark (i0 : Int)).done (i0 : Int) b S.g.bl, 0) := by rw [e2, if_neg (fun h => h hW0)]
      have hst : (aK S T (i0 : Int) d).2.1.stands = T.stands.set i0 b := by
        rw [e3]
        show ((T.forget b).mark (i0 : Int)).stands.set (i0 : Int).toNat b = _
        have : ((T.forget b).mark (i0 : Int)).stands = T.stands := by unfold St.mark; split <;> rfl
        rw [this, Int.toNat_natCast]
      have hsl : i0 < T.stands.length := by rw [hI.len]; exact hi0
      refine .inl ⟨q1, ⟨⟨st', q3⟩, q2, fun c => by rw [r2]; exact h.weak c, fun c => by rw [hW1, hmk]; exact h.un c, fun c p hp => Pp c p (by rw [← r1]; exact hp), by omega, by rw [r1]; exact hbl⟩, fun p => ?_, fun j hj hji => ?_⟩
      · rw [hst, kV, if_pos ⟨rfl, hsl⟩]
        by_cases hp : 0 ≤ p ∧ p < S.g.pg
        · have := ah.DC h.up ⟨hb1, hb2⟩ (by omega) hb3 hI.ci.len (h.weak b) (num := T.next) (aB := (i0 : Int)) (d := d) (by rw [← hW]; exact hW0) p hp.1 hp.2
          rw [← hW] at this
          rw [hW1]; exact this
        · exact Pp b p (by omega)
      · have hne : T.stands.getD j 0 ≠ b := hI.away hj hb4
        refine ⟨by rw [hst, kV, if_neg (fun hh => hji hh.1)], ?_⟩
        rw [hW1]
        rw [hW1] at q2
        exact ⟨w1.g, by rw [q2, h.up], w1.marked _ hne, fun p => w1.pages _ hne, fun p => w1.wrong _ hne⟩
    · refine .inr ⟨q1, fun S' hE hu hwk hwr => ?_⟩
      have hn2 := q3.eqv hE
      have hsame : ∀ mm, ah.CM aj aj (aK S T (i0 : Int) d).1 st' mm → bS aj (n + 1) S' (gY S' aj) mm := fun mm hc => by
        have h4 := hc.eqv hE
        have hon := ah.jX h4.ci hu hn2 (by omega) aj
        have hg2 : S'.g = S.g := hE.g.trans r1
        exact ⟨⟨st', (ah.nX h4 hu).wider (by omega)⟩, hu, fun c => by rw [hwk, r2]; exact h.weak c, fun c => by rw [hE.marked, hW1, hmk]; exact h.un c, fun c p hp => by rw [hwr]; exact Pp c p (by rw [← hg2]; exact hp), by omega, by rw [hg2]; exact hbl⟩
      rcases q4 with q4 | q4
      · exact ⟨m, .inl rfl, hsame m q4⟩
      · exact ⟨_, .inr rfl, hsame _ q4⟩
theorem Lm.vo {m : Lm} {i : Nat} {v : List Nat} (h : m i = some v) : m.put i (some v) = m := by
  funext k
  unfold Lm.put
  split
  · rename_i e; rw [e, h]
  · rfl
theorem bS.wider (h : bS aj n S T m) {n' : Nat} (hn : n ≤ n') : bS aj n' S T m := by
  obtain ⟨st, hI⟩ := h.si
  exact ⟨⟨st, hI.wider (by omega)⟩, h.up, h.weak, h.un, h.inp, by have := h.next; omega, h.bl⟩
end
end Go.Proofs.YtcmojpiokjhmhaaGreat
namespace Go.Proofs
open Go.Shelf
def Tryz.lays189_ren : Go.Shelf.Ren := ⟨fun | 189 => 62 | 125 => 95 | 257 => 94 | 128 => 130 | 129 => 131 | 294 => 121 | 295 => 122 | 296 => 123 | 297 => 124 | 298 => 125 | 299 => 126 | 216 => 127 | 300 => 128 | 301 => 129 | 328 => 139 | 329 => 140 | 330 => 141 | 331 => 142 | 332 => 143 | 215 => 134 | 343 => 159 | n => n, fun | 28 => 24 | 3 => 3 | 46 => 133 | 0 => 0 | 51 => 168 | 53 => 170 | 4 => 4 | 183 => 161 | 182 => 160 | 131 => 165 | 5 => 5 | 9 => 9 | 218 => 181 | 222 => 185 | 228 => 200 | 229 => 201 | n => n, fun | n => n⟩
theorem Tryz.lays189 : Go.Proofs.Lays.n189 Tryz.prog Tryz.lays189_ren := {
  mixed := by kernel_rfl
  f125 := Tryz.func95.trans (congrArg some (by kernel_rfl))
  f128 := Tryz.func130.trans (congrArg some (by kernel_rfl))
  f129 := Tryz.func131.trans (congrArg some (by kernel_rfl))
  f189 := Tryz.func62.trans (congrArg some (by kernel_rfl))
  f215 := Tryz.func134.trans (congrArg some (by kernel_rfl))
  f216 := Tryz.func127.trans (congrArg some (by kernel_rfl))
  f257 := Tryz.func94.trans (congrArg some (by kernel_rfl))
  f294 := Tryz.func121.trans (congrArg some (by kernel_rfl))
  f295 := Tryz.func122.trans (congrArg some (by kernel_rfl))
  f296 := Tryz.func123.trans (congrArg some (by kernel_rfl))
  f297 := Tryz.func124.trans (congrArg some (by kernel_rfl))
  f298 := Tryz.func125.trans (congrArg some (by kernel_rfl))
  f299 := Tryz.func126.trans (congrArg some (by kernel_rfl))
  f300 := Tryz.func128.trans (congrArg some (by kernel_rfl))
  f301 := Tryz.func129.trans (congrArg some (by kernel_rfl))
  f328 := Tryz.func139.trans (congrArg some (by kernel_rfl))
  f329 := Tryz.func140.trans (congrArg some (by kernel_rfl))
  f330 := Tryz.func141.trans (congrArg some (by kernel_rfl))
  f331 := Tryz.func142.trans (congrArg some (by kernel_rfl))
  f332 := Tryz.func143.trans (congrArg some (by kernel_rfl))
  f343 := Tryz.func159.trans (congrArg some (by kernel_rfl))
  t0 := Tryz.underlying0
  a0 := Tryz.isAgg0
  z0 := Tryz.sizeOf0
  v0 := Tryz.zeroValue0
  t3 := Tryz.underlying3
  a3 := Tryz.isAgg3
  z3 := Tryz.sizeOf3
  v3 := Tryz.zeroValue3
  t4 := Tryz.underlying4
  a4 := Tryz.isAgg4
  z4 := Tryz.sizeOf4
  v4 := Tryz.zeroValue4
  t5 := Tryz.underlying5
  a5 := Tryz.isAgg5
  z5 := Tryz.sizeOf5
  v5 := Tryz.zeroValue5
  t9 := Tryz.underlying9
  a9 := Tryz.isAgg9
  z9 := Tryz.sizeOf9
  v9 := Tryz.zeroValue9
  t28 := Tryz.underlying24
  a28 := Tryz.isAgg24
  z28 := Tryz.sizeOf24
  v28 := Tryz.zeroValue24
  t46 := Tryz.underlying133
  a46 := Tryz.isAgg133
  z46 := Tryz.sizeOf133
  v46 := Tryz.zeroValue133
  t51 := Tryz.underlying168
  a51 := Tryz.isAgg168
  z51 := Tryz.sizeOf168
  v51 := Tryz.zeroValue168
  t53 := Tryz.underlying170
  a53 := Tryz.isAgg170
  z53 := Tryz.sizeOf170
  v53 := Tryz.zeroValue170
  t131 := Tryz.underlying165
  a131 := Tryz.isAgg165
  z131 := Tryz.sizeOf165
  v131 := Tryz.zeroValue165
  t182 := Tryz.underlying160
  a182 := Tryz.isAgg160
  z182 := Tryz.sizeOf160
  v182 := Tryz.zeroValue160
  t183 := Tryz.underlying161
  a183 := Tryz.isAgg161
  z183 := Tryz.sizeOf161
  v183 := Tryz.zeroValue161
  t218 := Tryz.underlying181
  a218 := Tryz.isAgg181
  z218 := Tryz.sizeOf181
  v218 := Tryz.zeroValue181
  t222 := Tryz.underlying185
  a222 := Tryz.isAgg185
  z222 := Tryz.sizeOf185
  v222 := Tryz.zeroValue185
  t228 := Tryz.underlying200
  a228 := Tryz.isAgg200
  z228 := Tryz.sizeOf200
  v228 := Tryz.zeroValue200
  t229 := Tryz.underlying201
  a229 := Tryz.isAgg201
  z229 := Tryz.sizeOf201
  v229 := Tryz.zeroValue201 }
end Go.Proofs
