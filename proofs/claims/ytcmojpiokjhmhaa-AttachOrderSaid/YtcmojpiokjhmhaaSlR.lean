/- The symbolic executor, fourteenth part: a range over a function: its caller, its rounds, its iterator. -/
import Derived.Test.YtcmojpiokjhmhaaSlQ
import Derived.RangeFuncNested
namespace Go.Sl
open Go.RowKit Go.BigFrame
set_option linter.unusedVariables false
set_option linter.unusedSimpArgs false

/-- A loop's record. -/
structure LoopI where
  fn : FuncId
  tmps : Array Value
  ps : Array Tmp
  assign : Code
  body : Code
  D : Nat
def LoopI.recd (r : LoopI) (st : LoopState) (pe : Option Code) : Loop := { state := st, pending := pe, fn := r.fn, tmps := r.tmps, params := r.ps, assign := r.assign, body := r.body, defers := r.D }
def LoopI.A (r : LoopI) (l : Nat) (st : LoopState) (pe : Option Code) : Assn where
  foot x := x = l
  holds w := w.heap[l]? = some (.loop (r.recd st pe))
  loc w w' h hw := by rw [h l rfl]; exact hw
/-- The block for the rounds' deferred calls: none. -/
def DefA (D : Nat) : Assn where
  foot x := x = D
  holds w := w.heap[D]? = some (.deferred (some []))
  loc w w' h hw := by rw [h D rfl]; exact hw
abbrev markOf (D : Nat) : Deferred := { target := .collected D, args := #[] }

section
variable {K : World} {H : List Assn} {P : Program}
theorem Sat.putObj {w : World} {l : Nat} {A A' : Assn} {o : Obj} (hw : Sat K w (A :: H)) (hA : ∀ b, A.foot b ↔ b = l) (hf : ∀ b, A'.foot b → b = l) (hh : ∀ w' : World, w'.heap[l]? = some o → A'.holds w') : Sat K (w.putObj l o) (A' :: H) := by
  have hlt : l < w.heap.size := hw.2.2.1 l ((hA l).2 rfl)
  refine ⟨hw.1.grow rfl rfl rfl (by simp [World.putObj]), hw.2.set (by simp [World.putObj]) (fun b hb _ => ?_) (hh _ (World.putObj_heap_same hlt)) (fun b hb => .inl ((hA b).2 (hf b hb)))⟩
  exact World.putObj_heap_other (fun e => hb ((hA b).2 e))
theorem Sat.loopSet {w : World} {r : LoopI} {l : Nat} {st st' : LoopState} {pe pe' : Option Code} (hw : Sat K w (r.A l st pe :: H)) : Sat K (w.putObj l (.loop (r.recd st' pe'))) (r.A l st' pe' :: H) :=
  hw.putObj (fun b => Iff.rfl) (fun b h => h) (fun w' h => h)
theorem Sat.allocObj {w : World} {A : Assn} {o : Obj} (hw : Sat K w H) (hf : ∀ b, A.foot b → b = w.heap.size) (hh : ∀ w' : World, w'.heap[w.heap.size]? = some o → A.holds w') : Sat K (w.alloc o) (A :: H) := by
  refine ⟨hw.1.grow rfl rfl rfl (by simp), hw.2.push (by simp) (fun b hb => Below.heap_alloc _ _ _ hb) (hh _ (heap_alloc_new w _)) (fun b hb => ?_)⟩
  have := hf b hb
  subst this
  simp
/-- The block is shut: it is let go. -/
theorem Sat.shut {w : World} {D : Nat} {o : Obj} (hw : Sat K w (DefA D :: H)) : Sat K (w.putObj D o) H := by
  refine ⟨hw.1.grow rfl rfl rfl (by simp [World.putObj]), hw.2.tail.keep (by simp [World.putObj]) fun B hB b hb => World.putObj_heap_other fun e => hw.2.2.2.1 b e B hB hb⟩

/-- What a call of yield comes to. -/
def YieldsTo (P : Program) (K : World) (r : Option Nat) (l : Nat) (args : Array Value) (H : List Assn) (post : Bool → List Assn → Prop) : Prop :=
  ∀ w, Sat K w H → ∃ fn tmps assign body, (Instr.yield l args).run P w = .ok (.round l fn tmps assign body) w ∧ RoundIn (inF r) 0 P l fn tmps assign body w fun e w' => ∃ b H', e = .returned (.bool b) ∧ Sat K w' H' ∧ post b H'
theorem YieldsTo.mono {r : Option Nat} {l : Nat} {args : Array Value} {post post' : Bool → List Assn → Prop} (h : YieldsTo P K r l args H post) (hp : ∀ b H', post b H' → post' b H') : YieldsTo P K r l args H post' := fun w hw => by
  obtain ⟨fn, tmps, assign, body, h1, h2⟩ := h w hw
  exact ⟨fn, tmps, assign, body, h1, h2.mono fun e w' ⟨b, H', k1, k2, k3⟩ => ⟨b, H', k1, k2, hp b H' k3⟩⟩
theorem YieldsTo.sat {r : Option Nat} {l : Nat} {args : Array Value} {post : Bool → List Assn → Prop} {H' : List Assn} (h : YieldsTo P K r l args H' post) (hH : ∀ w, Sat K w H → Sat K w H') : YieldsTo P K r l args H post := fun w hw => h w (hH w hw)

variable {n : Nat} {e : Env} {Q : Post}
/-- How a round's body may be left. -/
def RoundQ (r : LoopI) (l : Nat) (K : World) (post : Option Code → List Assn → Prop) : Post
  | _, .normal, _, H' => ∃ H1, (∀ w, Sat K w H' → Sat K w (r.A l .busy none :: H1)) ∧ post none H1
  | _, .ret, _, H' => ∃ H1, (∀ w, Sat K w H' → Sat K w (r.A l .busy none :: H1)) ∧ post (some .ret) H1
  | _, .exit id, _, H' => ∃ H1, (∀ w, Sat K w H' → Sat K w (r.A l .busy none :: H1)) ∧ post (some (.exit id)) H1
  | _, .goto t, _, H' => ∃ H1, (∀ w, Sat K w H' → Sat K w (r.A l .busy none :: H1)) ∧ post (some (.goto t)) H1
  | _, _, _, _ => False
/-- Behind the assignment: the body, the record busy. -/
def AssignQ (P : Program) (n : Nat) (r : LoopI) (l : Nat) (K : World) (post : Option Code → List Assn → Prop) : Post
  | Mo, .normal, e', H' => ∃ H1, (∀ w, Sat K w H' → Sat K w (r.A l .ready none :: H1)) ∧ WC Mo P K n r.body (RoundQ r l K post) e' (r.A l .busy none :: H1)
  | _, _, _, _ => False
def putArgs (ps : List Tmp) (args : List Value) (e : Env) : Env := (ps.zip args).foldl (fun e p => (p.1, p.2) :: e) e
theorem agree_putArgs {Mo : Mode} : ∀ {ps : List Tmp} {args : List Value} {e : Env} {t : Array Value}, (∀ p ∈ ps, Nat.blt p n = true) → Agree Mo n e { tmps := t, defers := Mo.ds } →
    Agree Mo n (putArgs ps args e) { tmps := (ps.zip args).foldl (fun t p => t.setIfInBounds p.1 p.2) t, defers := Mo.ds }
  | [], _, _, _, _, h => h
  | p :: ps, [], _, _, _, h => h
  | p :: ps, v :: args, e, t, hp, h => by
    have h1 := h.put p (hp p (.head _)) v
    have h2 : Agree Mo n ((p, v) :: e) { tmps := t.setIfInBounds p v, defers := Mo.ds } := h1
    exact agree_putArgs (ps := ps) (fun q hq => hp q (List.mem_cons_of_mem _ hq)) h2
theorem yields_round {r : LoopI} {r0 : Option Nat} {l : Nat} {args : List Value} {post : Option Code → List Assn → Prop} (hargs : args.length = r.ps.size) (hps : ∀ p ∈ r.ps.toList, Nat.blt p n = true)
    (hA : Agree ⟨some (some l), []⟩ n e { tmps := r.tmps, defers := [] })
    (h : WC ⟨some (some l), []⟩ P K n r.assign (AssignQ P n r l K post) (putArgs r.ps.toList args e) (r.A l .ready none :: H)) :
    YieldsTo P K r0 l args.toArray (r.A l .ready none :: H) (fun b H' => ∃ j H1, b = Option.isNone j ∧ post j H1 ∧ H' = r.A l (if Option.isNone j then .ready else .done) j :: H1) := fun w hw => by
  have hl : w.heap[l]? = some (.loop (r.recd .ready none)) := hw.2.1
  refine ⟨r.fn, _, r.assign, r.body, run_yield (P := P) (args := args.toArray) hl (by simpa [LoopI.recd] using hargs), ?_⟩
  have hin : ∀ R : Ending → World → Prop, RoundIn (inF none) 0 P l r.fn ((r.ps.zip args.toArray).foldl (fun tmps (t, a) => tmps.setIfInBounds t a) r.tmps) r.assign r.body w R →
      RoundIn (inF r0) 0 P l r.fn ((r.ps.zip args.toArray).foldl (fun tmps (t, a) => tmps.setIfInBounds t a) r.tmps) r.assign r.body w R := fun R h => by
    cases r0
    · exact h
    · exact h
  refine hin _ ?_
  refine roundIn_of_wpIn (F := Fence.wide) (n := 0) trivial ?_
  have hAg : Agree ⟨some (some l), []⟩ n (putArgs r.ps.toList args e) { tmps := (r.ps.zip args.toArray).foldl (fun tmps (t, a) => tmps.setIfInBounds t a) r.tmps, defers := [] } := by
    have h1 := agree_putArgs (args := args) hps hA
    have h2 : (r.ps.zip args.toArray).foldl (fun tmps (t, a) => tmps.setIfInBounds t a) r.tmps = (r.ps.toList.zip args).foldl (fun t p => t.setIfInBounds p.1 p.2) r.tmps := by
      rw [← Array.foldl_toList]
      simp
    rw [h2]
    exact h1
  have h1 : r.assign.wpIn (inF (some l)) 0 P (lift (some (some l)) K n (AssignQ P n r l K post)) _ w := h _ w hAg hw
  refine wpIn_mono h1 ?_
  rintro x a1 w1 ⟨ds, e', H', k1, k2, k3⟩
  cases x
  case normal =>
    obtain ⟨H1, hs1, hb⟩ := k3
    have hs := hs1 w1 k2
    have hl1 : w1.heap[l]? = some (.loop (r.recd .ready none)) := hs.2.1
    refine ⟨_, run_beginRound hl1 rfl, ?_⟩
    have hb1 : r.body.wpIn (inF (some l)) 0 P (lift (some (some l)) K n (RoundQ r l K post)) a1 (w1.putObj l (.loop { r.recd .ready none with state := .busy })) := hb _ _ k1 hs.loopSet
    refine wpIn_mono hb1 ?_
    have fin : ∀ (j : Option Code) (w3 : World) (H1 : List Assn), Sat K w3 (r.A l .busy none :: H1) → ∃ v w', (Instr.endRound l j).run P w3 = .ok v w' ∧ v = .bool (Option.isNone j) ∧ Sat K w' (r.A l (if Option.isNone j then .ready else .done) j :: H1) := fun j w3 H1 hs => by
      have hl3 : w3.heap[l]? = some (.loop (r.recd .busy none)) := hs.2.1
      exact ⟨_, _, run_endRound (P := P) j hl3, rfl, hs.loopSet⟩
    rintro y a3 w3 ⟨ds3, e3, H3, m1, m2, m3⟩
    cases y
    case normal =>
      obtain ⟨H4, q1, q2⟩ := m3
      obtain ⟨v, w', q3, rfl, q5⟩ := fin none w3 H4 (q1 w3 m2)
      exact ⟨_, w', q3, true, _, rfl, q5, none, H4, rfl, q2, rfl⟩
    case ret =>
      obtain ⟨H4, q1, q2⟩ := m3
      obtain ⟨v, w', q3, rfl, q5⟩ := fin (some .ret) w3 H4 (q1 w3 m2)
      exact ⟨_, w', q3, false, _, rfl, q5, some .ret, H4, rfl, q2, rfl⟩
    case exit id =>
      obtain ⟨H4, q1, q2⟩ := m3
      obtain ⟨v, w', q3, rfl, q5⟩ := fin (some (.exit id)) w3 H4 (q1 w3 m2)
      exact ⟨_, w', q3, false, _, rfl, q5, some (.exit id), H4, rfl, q2, rfl⟩
    case goto t =>
      obtain ⟨H4, q1, q2⟩ := m3
      obtain ⟨v, w', q3, rfl, q5⟩ := fin (some (.goto t)) w3 H4 (q1 w3 m2)
      exact ⟨_, w', q3, false, _, rfl, q5, some (.goto t), H4, rfl, q2, rfl⟩
    case panic => exact m3.elim
    case outgrown => exact m3.elim
  all_goals exact k3.elim

/-- The statement. -/
theorem WC.range {g : Operand} {ps : Array Tmp} {assign body : Code} {gf : FuncId} {lb : List Value} {Done : List Assn → Prop} {X : Code → List Assn → Prop} (hg : opv e g = some (.func (.func gf) #[] lb.toArray)) (hc : Callable P gf)
    (hit : ∀ (r : LoopI) (l : Nat), r.ps = ps → r.assign = assign → r.body = body → Agree ⟨some (some l), []⟩ n e { tmps := r.tmps, defers := [] } →
      Does P gf (#[.func (.yield l) #[] #[]] ++ lb.toArray) K (r.A l .ready none :: DefA r.D :: H) (fun _ H' => ∃ j H1, H' = r.A l (if Option.isNone j then .ready else .done) j :: DefA r.D :: H1 ∧ (match j with | none => Done H1 | some c => X c H1)))
    (hdone : ∀ D H1, Done H1 → Q ⟨none, [markOf D]⟩ .normal e (DefA D :: H1))
    (hbrk : ∀ D c H1, X c H1 → WC ⟨none, [markOf D]⟩ P K n c Q e (DefA D :: H1)) : WC ⟨none, []⟩ P K n (.rangeFunc g ps assign body) Q e H := fun a w ha hw => by
  show (Code.rangeFunc g ps assign body).wp P _ a w
  refine (wpIn_wide (n := 0)).1 (wpIn_rangeFunc ?_)
  intro fn hfn
  have had : a.defers = [] := ha.defers
  obtain ⟨r, hr⟩ : ∃ r : LoopI, r = ⟨fn, a.tmps, ps, assign, body, w.heap.size⟩ := ⟨_, rfl⟩
  have hD : Sat K (w.alloc (.deferred (some []))) (DefA w.heap.size :: H) := hw.allocObj (fun b h => h) (fun w' h => h)
  have hL : Sat K ((w.alloc (.deferred (some []))).alloc (.loop (r.recd .ready none))) (r.A (w.heap.size + 1) .ready none :: DefA w.heap.size :: H) := by
    have := hD.allocObj (A := r.A (w.alloc (.deferred (some []))).heap.size .ready none) (o := .loop (r.recd .ready none)) (fun b h => h) (fun w' h => h)
    simpa using this
  have hrD : r.D = w.heap.size := by rw [hr]
  have hgv := ha.ev hg
  refine ⟨w.heap.size + 1, [markOf w.heap.size], (w.alloc (.deferred (some []))).alloc (.loop (r.recd .ready none)), { target := .fn (.func gf) lb.toArray, args := #[.func (.yield (w.heap.size + 1)) #[] #[]] }, (w.alloc (.deferred (some []))).alloc (.loop (r.recd .ready none)), gf,
    #[.func (.yield (w.heap.size + 1)) #[] #[]] ++ lb.toArray, (w.alloc (.deferred (some []))).alloc (.loop (r.recd .ready none)), ?_, ?_, fun f' _ => trivial, ?_, fun h => (by cases h), ?_⟩
  · rw [hr]; exact run_enterLoop_outer _ _ _ _ _
  · simp only [resolve, hgv]
    simp [go_sem]
  · show (callFunc gf (#[.func (.yield (w.heap.size + 1)) #[] #[]] ++ lb.toArray)).run P _ = _
    rw [hc]
  · refine callsIn_wide.2 ?_
    refine (hit r (w.heap.size + 1) (by rw [hr]) (by rw [hr]) (by rw [hr]) ?_ _ (by rw [hrD]; exact hL)).mono ?_
    · rw [hr]
      exact ⟨rfl, ha.size, ha.at_⟩
    · rintro _ w3 ⟨v, H', rfl, hs, j, H1, rfl, hj⟩
      have hl3 : w3.heap[w.heap.size + 1]? = some (.loop (r.recd (if Option.isNone j then .ready else .done) j)) := hs.2.1
      have hend := run_endLoop (P := P) hl3 (by show (if Option.isNone j then LoopState.ready else .done) ≠ .busy; split <;> simp)
      refine ⟨j, _, hend, ?_⟩
      have hs4 : Sat K (w3.putObj (w.heap.size + 1) (.loop { r.recd (if Option.isNone j then .ready else .done) j with state := .exhausted })) (DefA r.D :: H1) :=
        (hs.loopSet (st' := .exhausted) (pe' := j)).tail
      have hA4 : Agree ⟨none, [markOf w.heap.size]⟩ n e { a with defers := [markOf w.heap.size] ++ a.defers } := ⟨by rw [had]; rfl, ha.size, ha.at_⟩
      rw [hrD] at hs4
      cases j with
      | none => exact ⟨_, e, _, hA4, hs4, hdone _ _ hj⟩
      | some c => exact wpIn_wide.2 (hbrk _ c H1 hj _ _ hA4 hs4)

/-- A function whose body holds a range over a function. -/
def BodyQM (P : Program) (K : World) (n : Nat) (fn : Func) (post : Value → List Assn → Prop) : Post
  | Mo, .normal, e, H | Mo, .ret, e, H => (∃ v H', Res Mo P K n fn e H v ∧ (∀ w, Sat K w H → Sat K w H') ∧ post v H') ∧ Mo.ds = [] ∨
      (∃ D H1 v H', Mo.ds = [markOf D] ∧ (∀ w, Sat K w H → Sat K w (DefA D :: H1)) ∧ Res Mo P K n fn e H1 v ∧ (∀ w, Sat K w H1 → Sat K w H') ∧ post v H')
  | _, _, _, _ => False
theorem BodyQM.ret {fn : Func} {post : Value → List Assn → Prop} {v : Value} {H' : List Assn} {r : Option (Option Nat)} (hr : Res ⟨r, []⟩ P K n fn e H v) (hs : ∀ w, Sat K w H → Sat K w H') (hp : post v H') : BodyQM P K n fn post ⟨r, []⟩ .ret e H := .inl ⟨⟨v, H', hr, hs, hp⟩, rfl⟩
theorem BodyQM.retD {fn : Func} {post : Value → List Assn → Prop} {v : Value} {H' : List Assn} {D : Nat} (H1 : List Assn) (hH : ∀ w, Sat K w H → Sat K w (DefA D :: H1)) (hr : Res ⟨none, [markOf D]⟩ P K n fn e H1 v) (hs : ∀ w, Sat K w H1 → Sat K w H') (hp : post v H') :
    BodyQM P K n fn post ⟨none, [markOf D]⟩ .ret e H := .inr ⟨D, H1, v, H', rfl, hH, hr, hs, hp⟩
theorem BodyQM.normalD {fn : Func} {post : Value → List Assn → Prop} {v : Value} {H' : List Assn} {D : Nat} (H1 : List Assn) (hH : ∀ w, Sat K w H → Sat K w (DefA D :: H1)) (hr : Res ⟨none, [markOf D]⟩ P K n fn e H1 v) (hs : ∀ w, Sat K w H1 → Sat K w H') (hp : post v H') :
    BodyQM P K n fn post ⟨none, [markOf D]⟩ .normal e H := .inr ⟨D, H1, v, H', rfl, hH, hr, hs, hp⟩
theorem Does.enterM {f : FuncId} {fn : Func} {c : Code} {vs : List Value} {post : Value → List Assn → Prop} (hf : P.funcs[f]? = some fn) (hb : fn.body = some c) (hn : fn.ntmps = n) (hl : Nat.ble vs.length n = true)
    (h : WC ⟨none, []⟩ P K n c (BodyQM P K n fn post) (env0 0 vs) H) : Does P f vs.toArray K H post := by
  intro w hw
  refine callsIn_wide.1 (callsIn_of_wp_marks (F := Fence.wide) (n := 0) hf hb trivial ?_)
  have hAg : Agree ⟨none, []⟩ n (env0 0 vs) { tmps := vs.toArray ++ Array.replicate (fn.ntmps - vs.toArray.size) undef, defers := [] } := by
    have hl' : vs.length ≤ n := by simpa using hl
    refine ⟨rfl, by simp [hn]; omega, fun t v hv => ?_⟩
    obtain ⟨_, h2⟩ := look_env0 vs 0 t v hv
    simp only [Nat.sub_zero] at h2
    have ht : t < vs.length := by
      rcases Nat.lt_or_ge t vs.length with h | h
      · exact h
      · simp [List.getElem?_eq_none h] at h2
    rw [Array.getD_eq_getD_getElem?, Array.getElem?_append_left (by simpa using ht)]
    simp [h2]
  have h1 : c.wp P (lift none K n (BodyQM P K n fn post)) _ w := h _ w hAg hw
  refine wpIn_wide.2 (wp_mono h1 ?_)
  rintro x a w ⟨ds, e', H', h1, h2, h3⟩
  have key : ∀ x, (x = .normal ∨ x = .ret) → BodyQM P K n fn post ⟨none, ds⟩ x e' H' → LeavesInM Fence.wide 0 P fn a.tmps (fun e w' => ∃ v H', e = .returned v ∧ Sat K w' H' ∧ post v H') a.defers .returning w := by
    intro x hx h3
    have h4 : BodyQM P K n fn post ⟨none, ds⟩ .ret e' H' := by rcases hx with rfl | rfl <;> exact h3
    rcases h4 with ⟨⟨v, H'', k1, k2, k3⟩, k0⟩ | ⟨D, H1, v, H'', k0, k1, k2, k3, k4⟩
    · rw [h1.defers.trans k0]
      exact ⟨v, k1 a w h1 h2, v, H'', rfl, k2 w h2, k3⟩
    · rw [h1.defers.trans k0]
      have hs := k1 w h2
      refine ⟨by simp, .inl ⟨D, _, rfl, run_takeDeferred (P := P) hs.2.1, ?_⟩⟩
      have hs2 : Sat K (w.putObj D (.deferred none)) H1 := hs.shut
      exact ⟨v, k2 a _ h1 hs2, v, H'', rfl, k3 _ hs2, k4⟩
  cases x <;> first
    | exact key _ (.inl rfl) h3
    | exact key _ (.inr rfl) h3
    | exact h3.elim

/-! Iterators: walked where rounds may be called -/
theorem Does.enterY {f : FuncId} {fn : Func} {c : Code} {vs : List Value} {post : Value → List Assn → Prop} (hf : P.funcs[f]? = some fn) (hb : fn.body = some c) (hn : fn.ntmps = n) (hl : Nat.ble vs.length n = true)
    (h : WC ⟨some none, []⟩ P K n c (BodyQ P K n fn post) (env0 0 vs) H) : Does P f vs.toArray K H post := by
  intro w hw
  refine callsIn_wide.1 (callsIn_of_wp (F := Fence.wide) (n := 0) hf hb trivial ?_)
  have hAg : Agree ⟨some none, []⟩ n (env0 0 vs) { tmps := vs.toArray ++ Array.replicate (fn.ntmps - vs.toArray.size) undef, defers := [] } := by
    have hl' : vs.length ≤ n := by simpa using hl
    refine ⟨rfl, by simp [hn]; omega, fun t v hv => ?_⟩
    obtain ⟨_, h2⟩ := look_env0 vs 0 t v hv
    simp only [Nat.sub_zero] at h2
    have ht : t < vs.length := by
      rcases Nat.lt_or_ge t vs.length with h | h
      · exact h
      · simp [List.getElem?_eq_none h] at h2
    rw [Array.getD_eq_getD_getElem?, Array.getElem?_append_left (by simpa using ht)]
    simp [h2]
  have h1 : c.wpIn Fence.wide 0 P (lift (some none) K n (BodyQ P K n fn post)) _ w := h _ w hAg hw
  refine wpIn_mono h1 ?_
  rintro x a w ⟨ds, e', H', h1, h2, h3⟩
  cases x <;> first
    | (obtain ⟨k0, v, H'', k1, k2, k3⟩ := h3; exact ⟨h1.defers.trans k0, v, k1 a w h1 h2, v, H'', rfl, k2 w h2, k3⟩)
    | exact h3.elim
/-- A call of yield. -/
theorem WL.callY {r : Option Nat} {ds : List Deferred} {ops : Array Oper} {rest : List Oper} {ty : TypeId} {pos : String} {af : Array Edge} {d l : Nat} {y : Operand} {xs : List Operand} {vs : List Value} {ats : Array TypeId} {post : Bool → List Assn → Prop}
    (hy : OV true e y (.func (.yield l) #[] #[])) (hxs : OVs true e xs vs) (hY : YieldsTo P K r l vs.toArray H post) (hd : Nat.blt d n = true) (h : ∀ b H', post b H' → WL ⟨some r, ds⟩ P K n ops rest Q ((d, .bool b) :: e) H') :
    WL ⟨some r, ds⟩ P K n ops (⟨some d, .call ⟨.value y, xs.toArray, ats⟩, ty, pos, af, none⟩ :: rest) Q e H := fun a w ha hw => by
  obtain ⟨fn, tmps, assign, body, h1, h2⟩ := hY w hw
  refine lwp_plain rfl fun R hR => ?_
  have hrun : (execOp a.eval ⟨some d, .call ⟨.value y, xs.toArray, ats⟩, ty, pos, af, none⟩).run P w = .ok (.round l fn tmps assign body) w := by
    show ((do let d ← resolve a.eval ⟨.value y, xs.toArray, ats⟩ ty; invoke d.target d.args) : Sem Next).run P w = _
    have k1 : resolve a.eval ⟨.value y, xs.toArray, ats⟩ ty = pure { target := .fn (.yield l) #[], args := vs.toArray } := by
      simp only [resolve, hy.ev rfl ha, List.map_toArray, hxs.ev ha rfl]
      show (pure { target := .fn (.yield l) #[], args := #[] ++ vs.toArray } : Sem Deferred) = _
      rw [Array.empty_append]
    rw [k1]
    exact h1
  show Oper.wpIn (inF r) 0 P _ a w R _
  refine ⟨fun f _ => inF_fn _ f, ?_⟩
  rw [Oper.semAt_eq _ _ _ (fun c => by simp), hrun, Oper.uponIn_round]
  refine ⟨inF_depth r, h2.mono ?_⟩
  rintro _ w' ⟨b, H', rfl, k2, k3⟩
  exact hR _ _ (h b H' k3 _ w' (ha.put d hd (.bool b)) k2)
end
end Go.Sl
