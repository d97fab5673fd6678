import Derived.Test.YtcmojpiokjhmhaaGreatP4
import Derived.RangeFuncNested
import Derived.KernelRfl
namespace Go.Sl
open Go.RowKit Go.BigFrame
set_option linter.unusedVariables false
set_option linter.unusedSimpArgs false
structure qR where
  fn : FuncId
  tmps : Array Value
  ps : Array Tmp
  assign : Code
  body : Code
  D : Nat
def qR.uD (r : qR) (st : LoopState) (pe : Option Code) : Loop := { state := st, pending := pe, fn := r.fn, tmps := r.tmps, params := r.ps, assign := r.assign, body := r.body, defers := r.D }
def qR.A (r : qR) (l : Nat) (st : LoopState) (pe : Option Code) : ak where
  foot x := x = l
  holds w := w.heap[l]? = some (.loop (r.uD st pe))
  loc w w' h hw := by rw [h l rfl]; exact hw
def eO (D : Nat) : ak where
  foot x := x = D
  holds w := w.heap[D]? = some (.deferred (some []))
  loc w w' h hw := by rw [h D rfl]; exact hw
abbrev qo (D : Nat) : Deferred := { target := .collected D, args := #[] }
section
variable {K : World} {H : List ak} {P : Program}
theorem Sat.putObj {w : World} {l : Nat} {A A' : ak} {o : Obj} (hw : Sat K w (A :: H)) (hA : ∀ b, A.foot b ↔ b = l) (hf : ∀ b, A'.foot b → b = l) (hh : ∀ w' : World, w'.heap[l]? = some o → A'.holds w') : Sat K (w.putObj l o) (A' :: H) := by
  have hlt : l < w.heap.size := hw.2.2.1 l ((hA l).2 rfl)
  refine ⟨hw.1.grow rfl rfl rfl (by simp [World.putObj]), hw.2.set (by simp [World.putObj]) (fun b hb _ => ?_) (hh _ (World.putObj_heap_same hlt)) (fun b hb => .inl ((hA b).2 (hf b hb)))⟩
  exact World.putObj_heap_other (fun e => hb ((hA b).2 e))
theorem Sat.Em {w : World} {r : qR} {l : Nat} {st st' : LoopState} {pe RD : Option Code} (hw : Sat K w (r.A l st pe :: H)) : Sat K (w.putObj l (.loop (r.uD st' RD))) (r.A l st' RD :: H) :=
  hw.putObj (fun b => Iff.rfl) (fun b h => h) (fun w' h => h)
theorem Sat.EK {w : World} {A : ak} {o : Obj} (hw : Sat K w H) (hf : ∀ b, A.foot b → b = w.heap.size) (hh : ∀ w' : World, w'.heap[w.heap.size]? = some o → A.holds w') : Sat K (w.alloc o) (A :: H) := by
  refine ⟨hw.1.grow rfl rfl rfl (by simp), hw.2.push (by simp) (fun b hb => Below.heap_alloc _ _ _ hb) (hh _ (heap_alloc_new w _)) (fun b hb => ?_)⟩
  have := hf b hb
  subst this
  simp
theorem Sat.shut {w : World} {D : Nat} {o : Obj} (hw : Sat K w (eO D :: H)) : Sat K (w.putObj D o) H := by
  refine ⟨hw.1.grow rfl rfl rfl (by simp [World.putObj]), hw.2.tail.keep (by simp [World.putObj]) fun B hB b hb => World.putObj_heap_other fun e => hw.2.2.2.1 b e B hB hb⟩
def fB (P : Program) (K : World) (r : Option Nat) (l : Nat) (args : Array Value) (H : List ak) (post : Bool → List ak → Prop) : Prop :=
  ∀ w, Sat K w H → ∃ fn tmps assign body, (Instr.yield l args).run P w = .ok (.round l fn tmps assign body) w ∧ RoundIn (Ba r) 0 P l fn tmps assign body w fun e w' => ∃ b H', e = .returned (.bool b) ∧ Sat K w' H' ∧ post b H'
theorem fB.mono {r : Option Nat} {l : Nat} {args : Array Value} {post post' : Bool → List ak → Prop} (h : fB P K r l args H post) (hp : ∀ b H', post b H' → post' b H') : fB P K r l args H post' := fun w hw => by
  obtain ⟨fn, tmps, assign, body, h1, h2⟩ := h w hw
  exact ⟨fn, tmps, assign, body, h1, h2.mono fun e w' ⟨b, H', k1, k2, k3⟩ => ⟨b, H', k1, k2, hp b H' k3⟩⟩
theorem fB.sat {r : Option Nat} {l : Nat} {args : Array Value} {post : Bool → List ak → Prop} {H' : List ak} (h : fB P K r l args H' post) (hH : ∀ w, Sat K w H → Sat K w H') : fB P K r l args H post := fun w hw => h w (hH w hw)
variable {n : Nat} {e : Env} {Q : Post}
def KJ (r : qR) (l : Nat) (K : World) (post : Option Code → List ak → Prop) : Post
  | _, .normal, _, H' => ∃ H1, (∀ w, Sat K w H' → Sat K w (r.A l .busy none :: H1)) ∧ post none H1
  | _, .ret, _, H' => ∃ H1, (∀ w, Sat K w H' → Sat K w (r.A l .busy none :: H1)) ∧ post (some .ret) H1
  | _, .exit id, _, H' => ∃ H1, (∀ w, Sat K w H' → Sat K w (r.A l .busy none :: H1)) ∧ post (some (.exit id)) H1
  | _, .goto t, _, H' => ∃ H1, (∀ w, Sat K w H' → Sat K w (r.A l .busy none :: H1)) ∧ post (some (.goto t)) H1
  | _, _, _, _ => False
def IB (P : Program) (n : Nat) (r : qR) (l : Nat) (K : World) (post : Option Code → List ak → Prop) : Post
  | Mo, .normal, e', H' => ∃ H1, (∀ w, Sat K w H' → Sat K w (r.A l .ready none :: H1)) ∧ WC Mo P K n r.body (KJ r l K post) e' (r.A l .busy none :: H1)
  | _, _, _, _ => False
def DW (ps : List Tmp) (args : List Value) (e : Env) : Env := (ps.zip args).foldl (fun e p => (p.1, p.2) :: e) e
theorem sD {Mo : Mode} : ∀ {ps : List Tmp} {args : List Value} {e : Env} {t : Array Value}, (∀ p ∈ ps, Nat.blt p n = true) → Agree Mo n e { tmps := t, defers := Mo.ds } →
    Agree Mo n (DW ps args e) { tmps := (ps.zip args).foldl (fun t p => t.setIfInBounds p.1 p.2) t, defers := Mo.ds }
  | [], _, _, _, _, h => h
  | p :: ps, [], _, _, _, h => h
  | p :: ps, v :: args, e, t, hp, h => by
    have h1 := h.put p (hp p (.head _)) v
    have h2 : Agree Mo n ((p, v) :: e) { tmps := t.setIfInBounds p v, defers := Mo.ds } := h1
    exact sD (ps := ps) (fun q hq => hp q (List.mem_cons_of_mem _ hq)) h2
theorem uX {r : qR} {r0 : Option Nat} {l : Nat} {args : List Value} {post : Option Code → List ak → Prop} (hargs : args.length = r.ps.size) (hps : ∀ p ∈ r.ps.toList, Nat.blt p n = true)
    (hA : Agree ⟨some (some l), []⟩ n e { tmps := r.tmps, defers := [] })
    (h : WC ⟨some (some l), []⟩ P K n r.assign (IB P n r l K post) (DW r.ps.toList args e) (r.A l .ready none :: H)) :
    fB P K r0 l args.toArray (r.A l .ready none :: H) (fun b H' => ∃ j H1, b = Option.isNone j ∧ post j H1 ∧ H' = r.A l (if Option.isNone j then .ready else .done) j :: H1) := fun w hw => by
  have hl : w.heap[l]? = some (.loop (r.uD .ready none)) := hw.2.1
  refine ⟨r.fn, _, r.assign, r.body, run_yield (P := P) (args := args.toArray) hl (by simpa [qR.uD] using hargs), ?_⟩
  have hin : ∀ R : Ending → World → Prop, RoundIn (Ba none) 0 P l r.fn ((r.ps.zip args.toArray).foldl (fun tmps (t, a) => tmps.setIfInBounds t a) r.tmps) r.assign r.body w R →
      RoundIn (Ba r0) 0 P l r.fn ((r.ps.zip args.toArray).foldl (fun tmps (t, a) => tmps.setIfInBounds t a) r.tmps) r.assign r.body w R := fun R h => by
    cases r0
    · exact h
    · exact h
  refine hin _ (roundIn_of_wpIn (F := Fence.wide) (n := 0) trivial ?_)
  have Qn : Agree ⟨some (some l), []⟩ n (DW r.ps.toList args e) { tmps := (r.ps.zip args.toArray).foldl (fun tmps (t, a) => tmps.setIfInBounds t a) r.tmps, defers := [] } := by
    have h1 := sD (args := args) hps hA
    have h2 : (r.ps.zip args.toArray).foldl (fun tmps (t, a) => tmps.setIfInBounds t a) r.tmps = (r.ps.toList.zip args).foldl (fun t p => t.setIfInBounds p.1 p.2) r.tmps := by
      rw [← Array.foldl_toList]
      simp
    rw [h2]
    exact h1
  have h1 : r.assign.wpIn (Ba (some l)) 0 P (lift (some (some l)) K n (IB P n r l K post)) _ w := h _ w Qn hw
  refine wpIn_mono h1 ?_
  rintro x a1 w1 ⟨ds, e', H', k1, k2, k3⟩
  cases x
  case normal =>
    obtain ⟨H1, hs1, hb⟩ := k3
    have hs := hs1 w1 k2
    have hl1 : w1.heap[l]? = some (.loop (r.uD .ready none)) := hs.2.1
    refine ⟨_, run_beginRound hl1 rfl, ?_⟩
    have hb1 : r.body.wpIn (Ba (some l)) 0 P (lift (some (some l)) K n (KJ r l K post)) a1 (w1.putObj l (.loop { r.uD .ready none with state := .busy })) := hb _ _ k1 hs.Em
    refine wpIn_mono hb1 ?_
    have fin : ∀ (j : Option Code) (w3 : World) (H1 : List ak), Sat K w3 (r.A l .busy none :: H1) → ∃ v w', (Instr.endRound l j).run P w3 = .ok v w' ∧ v = .bool (Option.isNone j) ∧ Sat K w' (r.A l (if Option.isNone j then .ready else .done) j :: H1) := fun j w3 H1 hs => by
      have hl3 : w3.heap[l]? = some (.loop (r.uD .busy none)) := hs.2.1
      exact ⟨_, _, run_endRound (P := P) j hl3, rfl, hs.Em⟩
    rintro y a3 w3 ⟨ds3, e3, H3, m1, m2, m3⟩
    cases y
    case normal =>
      obtain ⟨H4, q1, q2⟩ := m3
      obtain ⟨v, w', q3, rfl, q5⟩ := fin none w3 H4 (q1 w3 m2)
      exact ⟨_, w', q3, true, _, rfl, q5, none, H4, rfl, q2, rfl⟩
    case ret =>
      obtain ⟨H4, q1, q2⟩ := m3
      obtain ⟨v, w', q3, rfl, q5⟩ := fin (some .ret) w3 H4 (q1 w3 m2)
      exact ⟨_, w', q3, false, _, rfl, q5, some .ret, H4, rfl, q2, rfl⟩
    case exit id =>
      obtain ⟨H4, q1, q2⟩ := m3
      obtain ⟨v, w', q3, rfl, q5⟩ := fin (some (.exit id)) w3 H4 (q1 w3 m2)
      exact ⟨_, w', q3, false, _, rfl, q5, some (.exit id), H4, rfl, q2, rfl⟩
    case goto t =>
      obtain ⟨H4, q1, q2⟩ := m3
      obtain ⟨v, w', q3, rfl, q5⟩ := fin (some (.goto t)) w3 H4 (q1 w3 m2)
      exact ⟨_, w', q3, false, _, rfl, q5, some (.goto t), H4, rfl, q2, rfl⟩
    case panic => exact m3.elim
    case outgrown => exact m3.elim
  all_goals exact k3.elim
theorem WC.range {g : Operand} {ps : Array Tmp} {assign body : Code} {gf : FuncId} {lb : List Value} {Done : List ak → Prop} {X : Code → List ak → Prop} (hg : CX e g = some (.func (.func gf) #[] lb.toArray)) (hc : dY P gf)
    (hit : ∀ (r : qR) (l : Nat), r.ps = ps → r.assign = assign → r.body = body → Agree ⟨some (some l), []⟩ n e { tmps := r.tmps, defers := [] } →
      Does P gf (#[.func (.yield l) #[] #[]] ++ lb.toArray) K (r.A l .ready none :: eO r.D :: H) (fun _ H' => ∃ j H1, H' = r.A l (if Option.isNone j then .ready else .done) j :: eO r.D :: H1 ∧ (match j with | none => Done H1 | some c => X c H1)))
    (hdone : ∀ D H1, Done H1 → Q ⟨none, [qo D]⟩ .normal e (eO D :: H1))
    (R3 : ∀ D c H1, X c H1 → WC ⟨none, [qo D]⟩ P K n c Q e (eO D :: H1)) : WC ⟨none, []⟩ P K n (.rangeFunc g ps assign body) Q e H := fun a w ha hw => by
  show (Code.rangeFunc g ps assign body).wp P _ a w
  refine (wpIn_wide (n := 0)).1 (wpIn_rangeFunc ?_)
  intro fn hfn
  have had : a.defers = [] := ha.defers
  obtain ⟨r, hr⟩ : ∃ r : qR, r = ⟨fn, a.tmps, ps, assign, body, w.heap.size⟩ := ⟨_, rfl⟩
  have hD : Sat K (w.alloc (.deferred (some []))) (eO w.heap.size :: H) := hw.EK (fun b h => h) (fun w' h => h)
  have hL : Sat K ((w.alloc (.deferred (some []))).alloc (.loop (r.uD .ready none))) (r.A (w.heap.size + 1) .ready none :: eO w.heap.size :: H) := by
    have := hD.EK (A := r.A (w.alloc (.deferred (some []))).heap.size .ready none) (o := .loop (r.uD .ready none)) (fun b h => h) (fun w' h => h)
    simpa using this
  have SE : r.D = w.heap.size := by rw [hr]
  have hgv := ha.ev hg
  refine ⟨w.heap.size + 1, [qo w.heap.size], (w.alloc (.deferred (some []))).alloc (.loop (r.uD .ready none)), { target := .fn (.func gf) lb.toArray, args := #[.func (.yield (w.heap.size + 1)) #[] #[]] }, (w.alloc (.deferred (some []))).alloc (.loop (r.uD .ready none)), gf,
    #[.func (.yield (w.heap.size + 1)) #[] #[]] ++ lb.toArray, (w.alloc (.deferred (some []))).alloc (.loop (r.uD .ready none)), ?_, ?_, fun f' _ => trivial, ?_, fun h => (by cases h), ?_⟩
  · rw [hr]; exact run_enterLoop_outer _ _ _ _ _
  · simp only [resolve, hgv]
    simp [go_sem]
  · show (callFunc gf (#[.func (.yield (w.heap.size + 1)) #[] #[]] ++ lb.toArray)).run P _ = _
    rw [hc]
  · refine callsIn_wide.2 ?_
    refine (hit r (w.heap.size + 1) (by rw [hr]) (by rw [hr]) (by rw [hr]) ?_ _ (by rw [SE]; exact hL)).mono ?_
    · rw [hr]
      exact ⟨rfl, ha.size, ha.at_⟩
    · rintro _ w3 ⟨v, H', rfl, hs, j, H1, rfl, hj⟩
      have hl3 : w3.heap[w.heap.size + 1]? = some (.loop (r.uD (if Option.isNone j then .ready else .done) j)) := hs.2.1
      have hend := run_endLoop (P := P) hl3 (by show (if Option.isNone j then LoopState.ready else .done) ≠ .busy; split <;> simp)
      refine ⟨j, _, hend, ?_⟩
      have hs4 : Sat K (w3.putObj (w.heap.size + 1) (.loop { r.uD (if Option.isNone j then .ready else .done) j with state := .exhausted })) (eO r.D :: H1) :=
        (hs.Em (st' := .exhausted) (RD := j)).tail
      have Sv : Agree ⟨none, [qo w.heap.size]⟩ n e { a with defers := [qo w.heap.size] ++ a.defers } := ⟨by rw [had]; rfl, ha.size, ha.at_⟩
      rw [SE] at hs4
      cases j with
      | none => exact ⟨_, e, _, Sv, hs4, hdone _ _ hj⟩
      | some c => exact wpIn_wide.2 (R3 _ c H1 hj _ _ Sv hs4)
def jo (P : Program) (K : World) (n : Nat) (fn : Func) (post : Value → List ak → Prop) : Post
  | Mo, .normal, e, H | Mo, .ret, e, H => (∃ v H', aO Mo P K n fn e H v ∧ (∀ w, Sat K w H → Sat K w H') ∧ post v H') ∧ Mo.ds = [] ∨
      (∃ D H1 v H', Mo.ds = [qo D] ∧ (∀ w, Sat K w H → Sat K w (eO D :: H1)) ∧ aO Mo P K n fn e H1 v ∧ (∀ w, Sat K w H1 → Sat K w H') ∧ post v H')
  | _, _, _, _ => False
theorem jo.ret {fn : Func} {post : Value → List ak → Prop} {v : Value} {H' : List ak} {r : Option (Option Nat)} (hr : aO ⟨r, []⟩ P K n fn e H v) (hs : ∀ w, Sat K w H → Sat K w H') (hp : post v H') : jo P K n fn post ⟨r, []⟩ .ret e H := .inl ⟨⟨v, H', hr, hs, hp⟩, rfl⟩
theorem jo.Ph {fn : Func} {post : Value → List ak → Prop} {v : Value} {H' : List ak} {D : Nat} (H1 : List ak) (hH : ∀ w, Sat K w H → Sat K w (eO D :: H1)) (hr : aO ⟨none, [qo D]⟩ P K n fn e H1 v) (hs : ∀ w, Sat K w H1 → Sat K w H') (hp : post v H') :
    jo P K n fn post ⟨none, [qo D]⟩ .ret e H := .inr ⟨D, H1, v, H', rfl, hH, hr, hs, hp⟩
theorem Does.LU {f : FuncId} {fn : Func} {c : Code} {vs : List Value} {post : Value → List ak → Prop} (hf : P.funcs[f]? = some fn) (hb : fn.body = some c) (hn : fn.ntmps = n) (hl : Nat.ble vs.length n = true)
    (h : WC ⟨none, []⟩ P K n c (jo P K n fn post) (aI 0 vs) H) : Does P f vs.toArray K H post := by
  intro w hw
  refine callsIn_wide.1 (callsIn_of_wp_marks (F := Fence.wide) (n := 0) hf hb trivial ?_)
  have Qn : Agree ⟨none, []⟩ n (aI 0 vs) { tmps := vs.toArray ++ Array.replicate (fn.ntmps - vs.toArray.size) undef, defers := [] } := by
    have hl' : vs.length ≤ n := by simpa using hl
    refine ⟨rfl, by simp [hn]; omega, fun t v hv => ?_⟩
    obtain ⟨_, h2⟩ := kX vs 0 t v hv
    simp only [Nat.sub_zero] at h2
    have ht : t < vs.length := by
      rcases Nat.lt_or_ge t vs.length with h | h
      · exact h
      · simp [List.getElem?_eq_none h] at h2
    rw [Array.getD_eq_getD_getElem?, Array.getElem?_append_left (by simpa using ht)]
    simp [h2]
  have h1 : c.wp P (lift none K n (jo P K n fn post)) _ w := h _ w Qn hw
  refine wpIn_wide.2 (wp_mono h1 ?_)
  rintro x a w ⟨ds, e', H', h1, h2, h3⟩
  have key : ∀ x, (x = .normal ∨ x = .ret) → jo P K n fn post ⟨none, ds⟩ x e' H' → LeavesInM Fence.wide 0 P fn a.tmps (fun e w' => ∃ v H', e = .returned v ∧ Sat K w' H' ∧ post v H') a.defers .returning w := by
    intro x hx h3
    have h4 : jo P K n fn post ⟨none, ds⟩ .ret e' H' := by rcases hx with rfl | rfl <;> exact h3
    rcases h4 with ⟨⟨v, uG, k1, k2, k3⟩, k0⟩ | ⟨D, H1, v, uG, k0, k1, k2, k3, k4⟩
    · rw [h1.defers.trans k0]
      exact ⟨v, k1 a w h1 h2, v, uG, rfl, k2 w h2, k3⟩
    · rw [h1.defers.trans k0]
      have hs := k1 w h2
      refine ⟨by simp, .inl ⟨D, _, rfl, run_takeDeferred (P := P) hs.2.1, ?_⟩⟩
      have hs2 : Sat K (w.putObj D (.deferred none)) H1 := hs.shut
      exact ⟨v, k2 a _ h1 hs2, v, uG, rfl, k3 _ hs2, k4⟩
  cases x <;> first
    | exact key _ (.inl rfl) h3
    | exact key _ (.inr rfl) h3
    | exact h3.elim
theorem Does.MC {f : FuncId} {fn : Func} {c : Code} {vs : List Value} {post : Value → List ak → Prop} (hf : P.funcs[f]? = some fn) (hb : fn.body = some c) (hn : fn.ntmps = n) (hl : Nat.ble vs.length n = true)
    (h : WC ⟨some none, []⟩ P K n c (au P K n fn post) (aI 0 vs) H) : Does P f vs.toArray K H post := by
  intro w hw
  refine callsIn_wide.1 (callsIn_of_wp (F := Fence.wide) (n := 0) hf hb trivial ?_)
  have Qn : Agree ⟨some none, []⟩ n (aI 0 vs) { tmps := vs.toArray ++ Array.replicate (fn.ntmps - vs.toArray.size) undef, defers := [] } := by
    have hl' : vs.length ≤ n := by simpa using hl
    refine ⟨rfl, by simp [hn]; omega, fun t v hv => ?_⟩
    obtain ⟨_, h2⟩ := kX vs 0 t v hv
    simp only [Nat.sub_zero] at h2
    have ht : t < vs.length := by
      rcases Nat.lt_or_ge t vs.length with h | h
      · exact h
      · simp [List.getElem?_eq_none h] at h2
    rw [Array.getD_eq_getD_getElem?, Array.getElem?_append_left (by simpa using ht)]
    simp [h2]
  have h1 : c.wpIn Fence.wide 0 P (lift (some none) K n (au P K n fn post)) _ w := h _ w Qn hw
  refine wpIn_mono h1 ?_
  rintro x a w ⟨ds, e', H', h1, h2, h3⟩
  cases x <;> first
    | (obtain ⟨k0, v, uG, k1, k2, k3⟩ := h3; exact ⟨h1.defers.trans k0, v, k1 a w h1 h2, v, uG, rfl, k2 w h2, k3⟩)
    | exact h3.elim
theorem WL.Oq {r : Option Nat} {ds : List Deferred} {ops : Array Oper} {rest : List Oper} {ty : TypeId} {pos : String} {af : Array Edge} {d l : Nat} {y : Operand} {xs : List Operand} {vs : List Value} {ats : Array TypeId} {post : Bool → List ak → Prop}
    (hy : OV true e y (.func (.yield l) #[] #[])) (hxs : Gp true e xs vs) (hY : fB P K r l vs.toArray H post) (hd : Nat.blt d n = true) (h : ∀ b H', post b H' → WL ⟨some r, ds⟩ P K n ops rest Q ((d, .bool b) :: e) H') :
    WL ⟨some r, ds⟩ P K n ops (⟨some d, .call ⟨.value y, xs.toArray, ats⟩, ty, pos, af, none⟩ :: rest) Q e H := fun a w ha hw => by
  obtain ⟨fn, tmps, assign, body, h1, h2⟩ := hY w hw
  refine kW rfl fun R hR => ?_
  have hrun : (execOp a.eval ⟨some d, .call ⟨.value y, xs.toArray, ats⟩, ty, pos, af, none⟩).run P w = .ok (.round l fn tmps assign body) w := by
    show ((do let d ← resolve a.eval ⟨.value y, xs.toArray, ats⟩ ty; invoke d.target d.args) : Sem Next).run P w = _
    have k1 : resolve a.eval ⟨.value y, xs.toArray, ats⟩ ty = pure { target := .fn (.yield l) #[], args := vs.toArray } := by
      simp only [resolve, hy.ev rfl ha, List.map_toArray, hxs.ev ha rfl]
      show (pure { target := .fn (.yield l) #[], args := #[] ++ vs.toArray } : Sem Deferred) = _
      rw [Array.empty_append]
    rw [k1]
    exact h1
  show Oper.wpIn (Ba r) 0 P _ a w R _
  refine ⟨fun f _ => uo _ f, ?_⟩
  rw [Oper.semAt_eq _ _ _ (fun c => by simp), hrun, Oper.uponIn_round]
  refine ⟨qX r, h2.mono ?_⟩
  rintro _ w' ⟨b, H', rfl, k2, k3⟩
  exact hR _ _ (h b H' k3 _ w' (ha.put d hd (.bool b)) k2)
end
end Go.Sl
namespace Go.Proofs.YtcmojpiokjhmhaaGreat
open Go.Sl Go.RowKit
set_option linter.unusedVariables false
set_option linter.unusedSimpArgs false
set_option maxRecDepth 20000
theorem fq (n a : Nat) : BitVec.ofInt n (a : Int) = BitVec.ofNat n a := by
  apply BitVec.eq_of_toNat_eq
  rw [BitVec.toNat_ofInt, BitVec.toNat_ofNat]
  omega
theorem dB {a b k : Nat} (ha : a < 2 ^ k) (hb : b < 2 ^ k) : a ^^^ b < 2 ^ k := Nat.xor_lt_two_pow ha hb
theorem jr {a b : Nat} (ha : a < 4611686018427387904) (hb : b < 4611686018427387904) : bitsOf .xor .i64 (a : Int) (b : Int) = ((a ^^^ b : Nat) : Int) := by
  have h := dB (k := 62) ha hb
  unfold bitsOf
  dsimp only
  rw [fq, fq, BitVec.toNat_xor, BitVec.toNat_ofNat, BitVec.toNat_ofNat]
  have e1 : a % 2 ^ IntKind.i64.bits = a := Nat.mod_eq_of_lt (by show a < 2 ^ 64; omega)
  have e2 : b % 2 ^ IntKind.i64.bits = b := Nat.mod_eq_of_lt (by show b < 2 ^ 64; omega)
  rw [e1, e2]
  exact wrap_i64 (by omega)
theorem and_one {a : Nat} (ha : a < 4611686018427387904) : bitsOf .and .i64 (a : Int) 1 = ((a % 2 : Nat) : Int) := by
  unfold bitsOf
  dsimp only
  rw [show (1 : Int) = ((1 : Nat) : Int) from rfl, fq, fq, BitVec.toNat_and, BitVec.toNat_ofNat, BitVec.toNat_ofNat]
  have e1 : a % 2 ^ IntKind.i64.bits = a := Nat.mod_eq_of_lt (by show a < 2 ^ 64; omega)
  have e2 : 1 % 2 ^ IntKind.i64.bits = 1 := rfl
  rw [e1, e2, Nat.and_one_is_mod]
  exact wrap_i64 (by omega)
theorem IV {a : Nat} (ha : a < 4611686018427387904) : IntKind.i64.wrap ((a : Int) * 2 ^ (min (1 : Int).toNat IntKind.i64.bits)) = ((2 * a : Nat) : Int) := by
  rw [show min (1 : Int).toNat IntKind.i64.bits = 1 from rfl, wrap_i64 (by omega)]
  omega
theorem rR {a : Nat} : (a : Int).fdiv (2 ^ (min (1 : Int).toNat IntKind.i64.bits)) = ((a / 2 : Nat) : Int) := by
  rw [show min (1 : Int).toNat IntKind.i64.bits = 1 from rfl, Int.fdiv_eq_ediv_of_nonneg _ (by decide)]
  omega
def red (a : Nat) : Nat := if 8192 ≤ a then a ^^^ 8219 else a
def jZ : Nat → Nat → Nat → Nat → Nat
  | 0, out, _, _ => out
  | k + 1, out, a, b => if b = 0 then out else jZ k (if b % 2 = 1 then out ^^^ a else out) (red (2 * a)) (b / 2)
def aN (a b : Nat) : Nat := jZ 13 0 a b
def sH : Nat → Nat → Nat → Nat → Nat
  | 0, out, _, _ => out
  | k + 1, out, a, n => if n = 0 then out else sH k (if n % 2 = 1 then aN out a else out) (aN a a) (n / 2)
def FI (a n : Nat) : Nat := sH 13 1 a n
def bX (i : Int) : Nat := FI 2 (i % 8191).toNat
def Er (a : Nat) : Nat := FI a 8190
theorem oC {a : Nat} (h : a < 8192) : red (2 * a) < 8192 := by
  unfold red
  split
  · rename_i h1
    obtain ⟨c, hc⟩ : ∃ c, 2 * a = 8192 + c := ⟨2 * a - 8192, by omega⟩
    have hc2 : c < 8192 := by omega
    have e1 : 2 * a = 8192 ^^^ c := by
      rw [hc]
      have := Nat.two_pow_add_eq_or_of_lt (i := 13) (b := c) hc2 1
      have e : (8192 : Nat) ||| c = 8192 ^^^ c := by
        apply Nat.eq_of_testBit_eq
        intro i
        rw [Nat.testBit_or, Nat.testBit_xor, show (8192 : Nat) = 2 ^ 13 from rfl, Nat.testBit_two_pow]
        by_cases hi : 13 = i
        · subst hi
          rw [Nat.testBit_lt_two_pow hc2]; simp
        · simp [hi]
      rw [← e]
      simpa using this
    rw [e1, Nat.xor_comm 8192 c, Nat.xor_assoc, show (8192 : Nat) ^^^ 8219 = 27 from rfl]
    exact dB (k := 13) hc2 (by decide)
  · omega
theorem FD : ∀ (k out a b : Nat), out < 8192 → a < 8192 → jZ k out a b < 8192
  | 0, _, _, _, h, _ => h
  | k + 1, out, a, b, h, h' => by
    rw [jZ]
    split
    · exact h
    · refine FD k _ _ _ ?_ (oC h')
      split
      · exact dB (k := 13) h h'
      · exact h
theorem aR {a b : Nat} (ha : a < 8192) : aN a b < 8192 := FD _ _ _ _ (by decide) ha
theorem FE : ∀ (k out a n : Nat), out < 8192 → a < 8192 → sH k out a n < 8192
  | 0, _, _, _, h, _ => h
  | k + 1, out, a, n, h, h' => by
    rw [sH]
    split
    · exact h
    · refine FE k _ _ _ ?_ (aR h')
      split
      · exact aR h
      · exact h
theorem Ed {a n : Nat} (ha : a < 8192) : FI a n < 8192 := FE _ _ _ _ (by decide) ha
theorem jJ (i : Int) : bX i < 8192 := Ed (by decide)
section
variable {K : World} {F : List ak}
theorem DU {a b : Nat} (ha : a < 8192) (hb : b < 8192) : aL Tryz.prog 176 #[.int .i64 (a : Int), .int .i64 (b : Int)] K F (.int .i64 (aN a b : Nat)) := by
  refine Does.enter Tryz.func176 rfl Tryz.ntmps176 rfl ?_
  simp only [aI, Nat.reduceAdd]
  refine WC.sr (WL.sg rfl rfl (WL.nil (WC.sr (WL.sg rfl rfl (WL.nil (WC.seq (WC.block ?_)))))))
  refine WC.loop (σ := Nat × Nat × Nat × Nat) (fun x => [(5, .int .i64 (x.2.1 : Int)), (0, .int .i64 (x.2.2.1 : Int)), (1, .int .i64 (x.2.2.2 : Int))]) (fun _ => F) (fun x => x.2.1 < 8192 ∧ x.2.2.1 < 8192 ∧ x.2.2.2 < 2 ^ x.1 ∧ x.1 ≤ 13 ∧ jZ x.1 x.2.1 x.2.2.1 x.2.2.2 = aN a b) (fun x => x.1) (13, 0, a, b) ⟨by show 0 < 8192; decide, ha, hb, Nat.le_refl _, rfl⟩ (.cons rfl (.cons rfl (.cons rfl (.nil _)))) (fun w h => h) ?_
  rintro ⟨k, o, x, y⟩ ⟨h1, h2, h3, h3', h4⟩
  dsimp only at h1 h2 h3 h3' h4 ⊢
  have PE : (2 : Nat) ^ k ≤ 2 ^ 13 := Nat.pow_le_pow_right (by decide) h3'
  have hy : y < 8192 := by omega
  refine WC.seq (WC.sr (WL.mv rfl rfl (WL.val (V.neq (OV.p rfl) (OV.p rfl)) rfl (WL.nil ?_))))
  refine WC.cond rfl (fun hc0 => ?_) (fun hc0 => ?_)
  ·simp only [Bool.not_eq_true', Bool.not_eq_false', decide_eq_true_eq, decide_eq_false_iff_not] at hc0
   have hy0 : y ≠ 0 := by omega
   obtain ⟨k', rfl⟩ : ∃ k', k = k' + 1 := ⟨k - 1, by rcases Nat.eq_zero_or_pos k with h | h; subst h; simp at h3; omega; omega⟩
   rw [jZ, if_neg hy0] at h4
   have hy2 : y / 2 < 2 ^ k' := by rw [Nat.pow_succ] at h3; omega
   refine WC.skip (WC.seq (WC.block (WC.seq (WC.sr (WL.mv rfl rfl ?_)))))
   refine WL.val (V.aC (v' := .int .i64 ((y % 2 : Nat) : Int)) (V.and (OV.p rfl) (OV.p rfl)) (fun _ => by rw [and_one (by omega)])) rfl ?_
   refine WL.val (V.eql (OV.p rfl) (OV.p rfl)) rfl (WL.nil ?_)
   refine WC.cond rfl (fun hc1 => ?_) (fun hc1 => ?_)
   ·simp only [decide_eq_true_eq, decide_eq_false_iff_not] at hc1
    rw [if_pos (show y % 2 = 1 by omega)] at h4
    refine WC.region (WL.mv rfl rfl (WL.mv rfl rfl ?_))
    refine WL.val (V.aC (v' := .int .i64 ((o ^^^ x : Nat) : Int)) (V.xor (OV.p rfl) (OV.p rfl)) (fun _ => by rw [jr (by omega) (by omega)])) rfl ?_
    refine WL.sg rfl rfl (WL.nil (WC.sr (WL.mv rfl rfl ?_)))
    refine WL.val (V.aC (v' := .int .i64 ((2 * x : Nat) : Int)) (V.shl (OV.p rfl) (OV.p rfl) (by decide)) (fun _ => by rw [IV (by omega)])) rfl ?_
    refine WL.sg rfl rfl (WL.nil (WC.sr (WL.mv rfl rfl (WL.val (V.geq (OV.p rfl) (OV.p rfl)) rfl (WL.nil ?_)))))
    refine WC.cond rfl (fun hc2 => ?_) (fun hc2 => ?_)
    ·simp only [decide_eq_true_eq, decide_eq_false_iff_not] at hc2
     have hr : red (2 * x) = 2 * x ^^^ 8219 := by unfold red; rw [if_pos (by omega)]
     refine WC.region (WL.mv rfl rfl ?_)
     refine WL.val (V.aC (v' := .int .i64 ((2 * x ^^^ 8219 : Nat) : Int)) (V.xor (OV.p rfl) (OV.p rfl)) (fun _ => by rw [show (8219 : Int) = ((8219 : Nat) : Int) from rfl, jr (by omega) (by omega)])) rfl ?_
     refine WL.sg rfl rfl (WL.nil (WC.region (WL.mv rfl rfl ?_)))
     refine WL.val (V.aC (v' := .int .i64 ((y / 2 : Nat) : Int)) (V.shr (OV.p rfl) (OV.p rfl) (by decide)) (fun _ => by rw [rR])) rfl ?_
     refine WL.sg rfl rfl (WL.nil ?_)
     refine ⟨rfl, ?_⟩
     have hrl := oC h2
     have hxo : o ^^^ x < 8192 := dB (k := 13) h1 h2
     rw [hr] at h4 hrl
     first
       | exact ⟨(k', o ^^^ x, _, y / 2), ⟨hxo, hrl, hy2, by show k' ≤ 13; omega, h4⟩, Nat.lt_succ_self _, .cons rfl (.cons rfl (.cons rfl (.nil _))), fun w h => h⟩
       | exact ⟨(k', o, _, y / 2), ⟨h1, hrl, hy2, by show k' ≤ 13; omega, h4⟩, Nat.lt_succ_self _, .cons rfl (.cons rfl (.cons rfl (.nil _))), fun w h => h⟩
    ·simp only [decide_eq_true_eq, decide_eq_false_iff_not] at hc2
     have hr : red (2 * x) = 2 * x := by unfold red; rw [if_neg (by omega)]
     refine WC.skip (WC.region (WL.mv rfl rfl ?_))
     refine WL.val (V.aC (v' := .int .i64 ((y / 2 : Nat) : Int)) (V.shr (OV.p rfl) (OV.p rfl) (by decide)) (fun _ => by rw [rR])) rfl ?_
     refine WL.sg rfl rfl (WL.nil ?_)
     refine ⟨rfl, ?_⟩
     have hrl := oC h2
     have hxo : o ^^^ x < 8192 := dB (k := 13) h1 h2
     rw [hr] at h4 hrl
     first
       | exact ⟨(k', o ^^^ x, _, y / 2), ⟨hxo, hrl, hy2, by show k' ≤ 13; omega, h4⟩, Nat.lt_succ_self _, .cons rfl (.cons rfl (.cons rfl (.nil _))), fun w h => h⟩
       | exact ⟨(k', o, _, y / 2), ⟨h1, hrl, hy2, by show k' ≤ 13; omega, h4⟩, Nat.lt_succ_self _, .cons rfl (.cons rfl (.cons rfl (.nil _))), fun w h => h⟩
   ·simp only [decide_eq_true_eq, decide_eq_false_iff_not] at hc1
    rw [if_neg (show ¬ y % 2 = 1 by omega)] at h4
    refine WC.skip (WC.sr (WL.mv rfl rfl ?_))
    refine WL.val (V.aC (v' := .int .i64 ((2 * x : Nat) : Int)) (V.shl (OV.p rfl) (OV.p rfl) (by decide)) (fun _ => by rw [IV (by omega)])) rfl ?_
    refine WL.sg rfl rfl (WL.nil (WC.sr (WL.mv rfl rfl (WL.val (V.geq (OV.p rfl) (OV.p rfl)) rfl (WL.nil ?_)))))
    refine WC.cond rfl (fun hc2 => ?_) (fun hc2 => ?_)
    ·simp only [decide_eq_true_eq, decide_eq_false_iff_not] at hc2
     have hr : red (2 * x) = 2 * x ^^^ 8219 := by unfold red; rw [if_pos (by omega)]
     refine WC.region (WL.mv rfl rfl ?_)
     refine WL.val (V.aC (v' := .int .i64 ((2 * x ^^^ 8219 : Nat) : Int)) (V.xor (OV.p rfl) (OV.p rfl)) (fun _ => by rw [show (8219 : Int) = ((8219 : Nat) : Int) from rfl, jr (by omega) (by omega)])) rfl ?_
     refine WL.sg rfl rfl (WL.nil (WC.region (WL.mv rfl rfl ?_)))
     refine WL.val (V.aC (v' := .int .i64 ((y / 2 : Nat) : Int)) (V.shr (OV.p rfl) (OV.p rfl) (by decide)) (fun _ => by rw [rR])) rfl ?_
     refine WL.sg rfl rfl (WL.nil ?_)
     refine ⟨rfl, ?_⟩
     have hrl := oC h2
     have hxo : o ^^^ x < 8192 := dB (k := 13) h1 h2
     rw [hr] at h4 hrl
     first
       | exact ⟨(k', o ^^^ x, _, y / 2), ⟨hxo, hrl, hy2, by show k' ≤ 13; omega, h4⟩, Nat.lt_succ_self _, .cons rfl (.cons rfl (.cons rfl (.nil _))), fun w h => h⟩
       | exact ⟨(k', o, _, y / 2), ⟨h1, hrl, hy2, by show k' ≤ 13; omega, h4⟩, Nat.lt_succ_self _, .cons rfl (.cons rfl (.cons rfl (.nil _))), fun w h => h⟩
    ·simp only [decide_eq_true_eq, decide_eq_false_iff_not] at hc2
     have hr : red (2 * x) = 2 * x := by unfold red; rw [if_neg (by omega)]
     refine WC.skip (WC.region (WL.mv rfl rfl ?_))
     refine WL.val (V.aC (v' := .int .i64 ((y / 2 : Nat) : Int)) (V.shr (OV.p rfl) (OV.p rfl) (by decide)) (fun _ => by rw [rR])) rfl ?_
     refine WL.sg rfl rfl (WL.nil ?_)
     refine ⟨rfl, ?_⟩
     have hrl := oC h2
     have hxo : o ^^^ x < 8192 := dB (k := 13) h1 h2
     rw [hr] at h4 hrl
     first
       | exact ⟨(k', o ^^^ x, _, y / 2), ⟨hxo, hrl, hy2, by show k' ≤ 13; omega, h4⟩, Nat.lt_succ_self _, .cons rfl (.cons rfl (.cons rfl (.nil _))), fun w h => h⟩
       | exact ⟨(k', o, _, y / 2), ⟨h1, hrl, hy2, by show k' ≤ 13; omega, h4⟩, Nat.lt_succ_self _, .cons rfl (.cons rfl (.cons rfl (.nil _))), fun w h => h⟩
  ·simp only [Bool.not_eq_true', Bool.not_eq_false', decide_eq_true_eq, decide_eq_false_iff_not] at hc0
   have hy0 : y = 0 := by omega
   refine WC.exit (WC.sr (WL.mv rfl rfl (WL.sg rfl rfl (WL.nil (WC.ret ?_)))))
   refine au.ret (H' := F) (aO.tmp rfl rfl) (fun w h => h) ⟨?_, rfl⟩
   have : o = aN a b := by
     rw [← h4, hy0]
     cases k <;> simp [jZ]
   rw [this]
theorem QB (a : Int) : aL Tryz.prog 175 #[.int .i64 a] K F (.bool (decide (0 ≤ a) && decide (a < 8192))) := by
  refine Does.enter Tryz.func175 rfl Tryz.ntmps175 rfl ?_
  simp only [aI, Nat.reduceAdd]
  refine WC.sr (WL.sg rfl rfl (WL.nil (WC.sr (WL.mv rfl rfl (WL.val (V.geq (OV.p rfl) (OV.p rfl)) rfl (WL.mv rfl rfl (WL.av (oj := _) rfl rfl rfl GC.t (V.move (OV.p rfl)) rfl (WL.av (oj := _) rfl rfl rfl GC.t (V.lss (OV.g rfl id) (OV.p rfl)) rfl (WL.val (V.aJ (OV.p rfl) (OV.g rfl id)) rfl (WL.sg rfl rfl (WL.nil (WC.ret ?_))))))))))))
  exact au.ret (H' := F) (aO.tmp rfl rfl) (fun w h => h) ⟨rfl, rfl⟩
theorem AP {a : Nat} (h : a < 8192) : aL Tryz.prog 175 #[.int .i64 (a : Int)] K F (.bool true) := (QB (a : Int)).eq (by rw [decide_eq_true (show (0 : Int) ≤ (a : Int) by omega), decide_eq_true (show (a : Int) < 8192 by omega)]; rfl)
theorem Dv {a b : Nat} (ha : a < 8192) (hb : b < 8192) : aL Tryz.prog 170 #[.int .i64 (a : Int), .int .i64 (b : Int)] K F (.tuple #[.int .i64 (aN a b : Nat), .int .i64 0]) := by
  refine Does.enter Tryz.func170 rfl Tryz.ntmps170 rfl ?_
  simp only [aI, Nat.reduceAdd]
  refine WC.sr (WL.sg rfl rfl (WL.sg rfl rfl (WL.nil (WC.seq (WC.sr (WL.mv rfl rfl (WL.call (vs := [_]) Tryz.call175 ⟨OV.p rfl, trivial⟩ (AP ha) rfl ?_)))))))
  rintro _ H0 ⟨rfl, h0⟩
  subst H0
  refine WL.val (V.not (OV.p rfl)) rfl (WL.mv rfl rfl (WL.av (oj := _) rfl rfl rfl GC.f (V.move (OV.p rfl)) rfl ?_))
  refine WL.oV (oj := _) (vs := [_]) rfl rfl rfl GC.f Tryz.call175 ⟨OV.g rfl id, trivial⟩ (fun hg => AP hb) rfl ?_
  refine WL.av (oj := _) rfl rfl rfl GC.f (V.not (OV.g rfl id)) rfl (WL.val (V.bH (OV.p rfl) (OV.g rfl id)) rfl (WL.nil ?_))
  refine WC.aQ rfl (by first | rfl | (simp; done) | (simp; omega)) ?_
  refine WC.skip (WC.sr (WL.mv rfl rfl (WL.mv rfl rfl (WL.call (vs := [_, _]) Tryz.call176 ⟨OV.p rfl, OV.p rfl, trivial⟩ (DU ha hb) rfl ?_))))
  rintro _ H0 ⟨rfl, h0⟩
  subst H0
  refine WL.sg rfl rfl (WL.sg rfl rfl (WL.nil (WC.ret ?_)))
  exact au.ret (H' := F) (aO.fD rfl rfl rfl) (fun w h => h) ⟨rfl, rfl⟩
theorem qV {a b : Nat} (ha : a < 8192) (hb : b < 8192) : aL Tryz.prog 156 #[.int .i64 (a : Int), .int .i64 (b : Int)] K F (.int .i64 (aN a b : Nat)) := by
  refine Does.enter Tryz.func156 rfl Tryz.ntmps156 rfl ?_
  simp only [aI, Nat.reduceAdd]
  refine WC.sr (WL.sg rfl rfl (WL.nil (WC.sr (WL.mv rfl rfl (WL.mv rfl rfl (WL.call (vs := [_, _]) Tryz.call170 ⟨OV.p rfl, OV.p rfl, trivial⟩ (Dv ha hb) rfl ?_))))))
  rintro _ H0 ⟨rfl, h0⟩
  subst H0
  refine WL.mv rfl rfl (WL.xt rfl rfl rfl (WL.xt rfl rfl rfl (WL.sg rfl rfl (WL.sg rfl rfl (WL.nil (WC.sr (WL.mv rfl rfl (WL.sg rfl rfl (WL.nil (WC.ret ?_))))))))))
  exact au.ret (H' := F) (aO.tmp rfl rfl) (fun w h => h) ⟨rfl, rfl⟩
theorem Ku {a b : Nat} (ha : a < 8192) (hb : b < 8192) : aL Tryz.prog 184 #[.int .i64 (a : Int), .int .i64 (b : Int)] K F (.int .i64 (aN a b : Nat)) := by
  refine Does.enter Tryz.func184 rfl Tryz.ntmps184 rfl ?_
  simp only [aI, Nat.reduceAdd]
  refine WC.sr (WL.sg rfl rfl (WL.nil (WC.sr (WL.mv rfl rfl (WL.mv rfl rfl (WL.call (vs := [_, _]) Tryz.call170 ⟨OV.p rfl, OV.p rfl, trivial⟩ (Dv ha hb) rfl ?_))))))
  rintro _ H0 ⟨rfl, h0⟩
  subst H0
  refine WL.mv rfl rfl (WL.xt rfl rfl rfl (WL.xt rfl rfl rfl (WL.sg rfl rfl (WL.sg rfl rfl (WL.nil (WC.sr (WL.mv rfl rfl (WL.sg rfl rfl (WL.nil (WC.ret ?_))))))))))
  exact au.ret (H' := F) (aO.tmp rfl rfl) (fun w h => h) ⟨rfl, rfl⟩
theorem Mi {a m : Nat} (ha : a < 8192) (hm : m < 8192) : aL Tryz.prog 168 #[.int .i64 (a : Int), .int .i64 (m : Int)] K F (.int .i64 (FI a m : Nat)) := by
  refine Does.enter Tryz.func168 rfl Tryz.ntmps168 rfl ?_
  simp only [aI, Nat.reduceAdd]
  refine WC.sr (WL.sg rfl rfl (WL.nil (WC.sr (WL.sg rfl rfl (WL.nil (WC.seq (WC.block ?_)))))))
  refine WC.loop (σ := Nat × Nat × Nat × Nat) (fun x => [(5, .int .i64 (x.2.1 : Int)), (0, .int .i64 (x.2.2.1 : Int)), (1, .int .i64 (x.2.2.2 : Int))]) (fun _ => F) (fun x => x.2.1 < 8192 ∧ x.2.2.1 < 8192 ∧ x.2.2.2 < 2 ^ x.1 ∧ x.1 ≤ 13 ∧ sH x.1 x.2.1 x.2.2.1 x.2.2.2 = FI a m) (fun x => x.1) (13, 1, a, m) ⟨by show 1 < 8192; decide, ha, hm, Nat.le_refl _, rfl⟩ (.cons rfl (.cons rfl (.cons rfl (.nil _)))) (fun w h => h) ?_
  rintro ⟨k, o, x, y⟩ ⟨h1, h2, h3, h3', h4⟩
  dsimp only at h1 h2 h3 h3' h4 ⊢
  have PE : (2 : Nat) ^ k ≤ 2 ^ 13 := Nat.pow_le_pow_right (by decide) h3'
  have hy : y < 8192 := by omega
  refine WC.seq (WC.sr (WL.mv rfl rfl (WL.val (V.gtr (OV.p rfl) (OV.p rfl)) rfl (WL.nil ?_))))
  refine WC.cond rfl (fun hc0 => ?_) (fun hc0 => ?_)
  ·simp only [decide_eq_true_eq, decide_eq_false_iff_not] at hc0
   have hy0 : y ≠ 0 := by omega
   obtain ⟨k', rfl⟩ : ∃ k', k = k' + 1 := ⟨k - 1, by rcases Nat.eq_zero_or_pos k with h | h; subst h; simp at h3; omega; omega⟩
   rw [sH, if_neg hy0] at h4
   have hy2 : y / 2 < 2 ^ k' := by rw [Nat.pow_succ] at h3; omega
   refine WC.skip (WC.seq (WC.block (WC.seq (WC.sr (WL.mv rfl rfl ?_)))))
   refine WL.val (V.aC (v' := .int .i64 ((y % 2 : Nat) : Int)) (V.and (OV.p rfl) (OV.p rfl)) (fun _ => by rw [and_one (by omega)])) rfl ?_
   refine WL.val (V.eql (OV.p rfl) (OV.p rfl)) rfl (WL.nil ?_)
   refine WC.cond rfl (fun hc1 => ?_) (fun hc1 => ?_)
   ·simp only [decide_eq_true_eq, decide_eq_false_iff_not] at hc1
    rw [if_pos (show y % 2 = 1 by omega)] at h4
    refine WC.region (WL.mv rfl rfl (WL.mv rfl rfl (WL.call (vs := [_, _]) Tryz.call176 ⟨OV.p rfl, OV.p rfl, trivial⟩ (DU h1 h2) rfl ?_)))
    rintro _ H0 ⟨rfl, h0⟩
    subst H0
    refine WL.sg rfl rfl (WL.nil (WC.region (WL.mv rfl rfl (WL.mv rfl rfl (WL.call (vs := [_, _]) Tryz.call176 ⟨OV.p rfl, OV.p rfl, trivial⟩ (DU h2 h2) rfl ?_)))))
    rintro _ H0 ⟨rfl, h0⟩
    subst H0
    refine WL.sg rfl rfl (WL.nil (WC.region (WL.mv rfl rfl ?_)))
    refine WL.val (V.aC (v' := .int .i64 ((y / 2 : Nat) : Int)) (V.shr (OV.p rfl) (OV.p rfl) (by decide)) (fun _ => by rw [rR])) rfl ?_
    refine WL.sg rfl rfl (WL.nil ?_)
    refine ⟨rfl, ?_⟩
    first
      | exact ⟨(k', aN o x, aN x x, y / 2), ⟨aR h1, aR h2, hy2, by show k' ≤ 13; omega, h4⟩, Nat.lt_succ_self _, .cons rfl (.cons rfl (.cons rfl (.nil _))), fun w h => h⟩
      | exact ⟨(k', o, aN x x, y / 2), ⟨h1, aR h2, hy2, by show k' ≤ 13; omega, h4⟩, Nat.lt_succ_self _, .cons rfl (.cons rfl (.cons rfl (.nil _))), fun w h => h⟩
   ·simp only [decide_eq_true_eq, decide_eq_false_iff_not] at hc1
    rw [if_neg (show ¬ y % 2 = 1 by omega)] at h4
    refine WC.skip (WC.region (WL.mv rfl rfl (WL.mv rfl rfl (WL.call (vs := [_, _]) Tryz.call176 ⟨OV.p rfl, OV.p rfl, trivial⟩ (DU h2 h2) rfl ?_))))
    rintro _ H0 ⟨rfl, h0⟩
    subst H0
    refine WL.sg rfl rfl (WL.nil (WC.region (WL.mv rfl rfl ?_)))
    refine WL.val (V.aC (v' := .int .i64 ((y / 2 : Nat) : Int)) (V.shr (OV.p rfl) (OV.p rfl) (by decide)) (fun _ => by rw [rR])) rfl ?_
    refine WL.sg rfl rfl (WL.nil ?_)
    refine ⟨rfl, ?_⟩
    first
      | exact ⟨(k', aN o x, aN x x, y / 2), ⟨aR h1, aR h2, hy2, by show k' ≤ 13; omega, h4⟩, Nat.lt_succ_self _, .cons rfl (.cons rfl (.cons rfl (.nil _))), fun w h => h⟩
      | exact ⟨(k', o, aN x x, y / 2), ⟨h1, aR h2, hy2, by show k' ≤ 13; omega, h4⟩, Nat.lt_succ_self _, .cons rfl (.cons rfl (.cons rfl (.nil _))), fun w h => h⟩
  ·simp only [decide_eq_true_eq, decide_eq_false_iff_not] at hc0
   have hy0 : y = 0 := by omega
   refine WC.exit (WC.sr (WL.mv rfl rfl (WL.sg rfl rfl (WL.nil (WC.ret ?_)))))
   refine au.ret (H' := F) (aO.tmp rfl rfl) (fun w h => h) ⟨?_, rfl⟩
   have : o = FI a m := by
     rw [← h4, hy0]
     cases k <;> simp [sH]
   rw [this]
theorem Jf (i : Int) (hi : -9223372036854775808 ≤ i ∧ i ≤ 9223372036854775807) : aL Tryz.prog 169 #[.int .i64 i] K F (.int .i64 (i % 8191)) := by
  have hb : -8191 < i.tmod 8191 ∧ i.tmod 8191 < 8191 := by
    rcases Int.le_total 0 i with h | h
    · rw [Int.tmod_eq_emod_of_nonneg h]; omega
    · have h1 : i.tmod 8191 = -((-i).tmod 8191) := by rw [Int.neg_tmod, Int.neg_neg]
      rw [Int.tmod_eq_emod_of_nonneg (a := -i) (by omega)] at h1
      omega
  have he := Int.tmod_def i 8191
  refine Does.enter Tryz.func169 rfl Tryz.ntmps169 rfl ?_
  simp only [aI, Nat.reduceAdd]
  refine WC.sr (WL.sg rfl rfl (WL.nil (WC.seq (WC.sr (WL.mv rfl rfl ?_)))))
  refine WL.val (V.rem (OV.p rfl) (OV.p rfl) (by decide)) rfl ?_
  refine WL.sg rfl rfl (WL.nil (WC.sr (WL.mv rfl rfl (WL.val (V.lss (OV.p rfl) (OV.p rfl)) rfl (WL.nil ?_)))))
  refine WC.cond rfl (fun hc0 => ?_) (fun hc0 => ?_)
  ·simp only [decide_eq_true_eq, decide_eq_false_iff_not] at hc0
   have h0 := hc0
   refine WC.region (WL.mv rfl rfl (WL.ad rfl rfl rfl ?_))
   refine WL.sg rfl rfl (WL.nil (WC.sr (WL.mv rfl rfl (WL.sg rfl rfl (WL.nil (WC.ret ?_))))))
   first
   | (refine au.ret (H' := F) (aO.tmp rfl rfl) (fun w h => h) ⟨?_, rfl⟩
      have : i.tmod 8191 + 8191 = i % 8191 := by rw [he] at h0 ⊢; omega
      rw [this])
   | (refine au.ret (H' := F) (aO.tmp rfl rfl) (fun w h => h) ⟨?_, rfl⟩
      have : i.tmod 8191 = i % 8191 := by rw [he] at h0 ⊢; omega
      rw [this])
  ·simp only [decide_eq_true_eq, decide_eq_false_iff_not] at hc0
   have h0 := hc0
   refine WC.skip (WC.sr (WL.mv rfl rfl (WL.sg rfl rfl (WL.nil (WC.ret ?_)))))
   first
   | (refine au.ret (H' := F) (aO.tmp rfl rfl) (fun w h => h) ⟨?_, rfl⟩
      have : i.tmod 8191 + 8191 = i % 8191 := by rw [he] at h0 ⊢; omega
      rw [this])
   | (refine au.ret (H' := F) (aO.tmp rfl rfl) (fun w h => h) ⟨?_, rfl⟩
      have : i.tmod 8191 = i % 8191 := by rw [he] at h0 ⊢; omega
      rw [this])
theorem GR (i : Int) (hi : -9223372036854775808 ≤ i ∧ i ≤ 9223372036854775807) : aL Tryz.prog 155 #[.int .i64 i] K F (.int .i64 (bX i : Nat)) := by
  have e1 : i % 8191 = (((i % 8191).toNat : Nat) : Int) := by omega
  refine Does.enter Tryz.func155 rfl Tryz.ntmps155 rfl ?_
  simp only [aI, Nat.reduceAdd]
  refine WC.sr (WL.sg rfl rfl (WL.nil (WC.sr (WL.mv rfl rfl ?_))))
  refine WL.call (vs := [_]) Tryz.call169 ⟨OV.p rfl, trivial⟩ (aL.eq (Jf i hi) (by rw [e1])) rfl ?_
  rintro _ H0 ⟨rfl, h0⟩
  subst H0
  refine WL.call (vs := [_, _]) Tryz.call168 ⟨OV.p rfl, OV.p rfl, trivial⟩ (Mi (a := 2) (m := (i % 8191).toNat) (by decide) (by omega)) rfl ?_
  rintro _ H0 ⟨rfl, h0⟩
  subst H0
  refine WL.sg rfl rfl (WL.nil (WC.ret ?_))
  exact au.ret (H' := F) (aO.tmp rfl rfl) (fun w h => h) ⟨rfl, rfl⟩
theorem O4 {a : Nat} (ha : a < 8192) (h0 : a ≠ 0) : aL Tryz.prog 166 #[.int .i64 (a : Int)] K F (.tuple #[.int .i64 (Er a : Nat), .int .i64 0]) := by
  refine Does.enter Tryz.func166 rfl Tryz.ntmps166 rfl ?_
  simp only [aI, Nat.reduceAdd]
  refine WC.sr (WL.sg rfl rfl (WL.sg rfl rfl (WL.nil (WC.seq (WC.block (WC.sr (WL.mv rfl rfl (WL.call (vs := [_]) Tryz.call175 ⟨OV.p rfl, trivial⟩ (AP ha) rfl ?_))))))))
  rintro _ H0 ⟨rfl, h0⟩
  subst H0
  refine WL.val (V.not (OV.p rfl)) rfl (WL.sg rfl rfl (WL.nil ?_))
  refine WC.aQ rfl (by first | rfl | (simp; done) | (simp; omega)) ?_
  refine WC.sr (WL.mv rfl rfl (WL.val (V.eql (OV.p rfl) (OV.p rfl)) rfl (WL.sg rfl rfl (WL.nil ?_))))
  refine WC.aQ rfl ((by simp only [decide_eq_false_iff_not]; omega)) ?_
  refine WC.skip (WC.sr (WL.mv rfl rfl ?_))
  refine WL.call (vs := [_, _]) Tryz.call168 ⟨OV.p rfl, OV.p rfl, trivial⟩ (Mi (a := a) (m := 8190) ha (by decide)) rfl ?_
  rintro _ H0 ⟨rfl, h0⟩
  subst H0
  refine WL.sg rfl rfl (WL.sg rfl rfl (WL.nil (WC.ret ?_)))
  exact au.ret (H' := F) (aO.fD rfl rfl rfl) (fun w h => h) ⟨rfl, rfl⟩
end
end Go.Proofs.YtcmojpiokjhmhaaGreat
