/- The symbolic executor, fifth part: regions that draw their order. -/
import Derived.Test.YtcmojpiokjhmhaaSlD
import Derived.Orders
namespace Go.Sl
open Go.RowKit Go.BigFrame
set_option linter.unusedVariables false

section
variable {Mo : Mode} {P : Program} {K : World} {n : Nat} {Q : Post} {R : Env → Prop} {e : Env} {H : List Assn} {c : Bool} {dst : Option Tmp} {ty : TypeId} {pos : String} {af : Array Edge} {gd : Option (Nat × Bool)} {ops : Array Oper} {rest : List Oper}

def WQ (Mo : Mode) (P : Program) (K : World) (n : Nat) (ops : Array Oper) (rest : List Oper) (R : Env → Prop) (e : Env) (H : List Assn) : Prop :=
  ∀ a, Agree Mo n e a → wpQuiet P ops (fun w => Sat K w H) (fun a' => ∃ e', Agree Mo n e' a' ∧ R e') rest a
theorem wpQuiet_mono {C : World → Prop} {S S' : Act → Prop} (h : ∀ a, S a → S' a) : ∀ (l : List Oper) (a : Act), wpQuiet P ops C S l a → wpQuiet P ops C S' l a
  | [], a, hh => h a hh
  | o :: l, a, hh => by
    simp only [wpQuiet] at hh ⊢
    split
    · rename_i hw
      rw [if_pos hw] at hh
      obtain ⟨v, h1, h2⟩ := hh
      exact ⟨v, h1, wpQuiet_mono h l _ h2⟩
    · rename_i hw
      rw [if_neg hw] at hh
      exact wpQuiet_mono h l _ hh
theorem WC.regionQ {id : Nat} {l : List Oper} {ds : List Deferred} (hm : P.follows .mixedOrders = true) (hB : Region.lexB .any l.toArray = true) (h : WQ ⟨none, ds⟩ P K n l.toArray l (fun e' => Q ⟨none, ds⟩ .normal e' H) e H) : WC ⟨none, ds⟩ P K n (.region id l.toArray true) Q e H := fun a w ha hw => by
  show (Code.region id l.toArray true).wp P _ a w
  refine wp_region_quiet (C := fun w => Sat K w H) hm hB hw.drew ?_
  have := h a ha
  refine wpQuiet_mono ?_ _ a this
  rintro a' ⟨e', h1, h2⟩ w' hw'
  exact ⟨ds, e', H, h1, hw', h2⟩
theorem WQ.nil (h : R e) : WQ Mo P K n ops [] R e H := fun a ha => ⟨e, ha, h⟩
theorem WQ.val {d : Nat} {op : Op} {v : Value} (hv : Val Mo P K n true e H ⟨some d, op, ty, pos, af, none⟩ v) (hd : Nat.blt d n = true) (h : WQ Mo P K n ops rest R ((d, v) :: e) H) : WQ Mo P K n ops (⟨some d, op, ty, pos, af, none⟩ :: rest) R e H := fun a ha => by
  refine wpQuiet_step fun S hS => ?_
  simp only [Region.wanted, if_true]
  refine ⟨v, fun w hw => ?_, hS _ (h _ (ha.put d hd v))⟩
  unfold Oper.quietAt
  rw [hv rfl a w ha hw]
  exact ⟨rfl, rfl⟩
theorem WQ.valG {d j dj : Nat} {want : Bool} {oj : Oper} {op : Op} {v gv : Value} (hj : ops[j]? = some oj) (hdj : oj.dst = some dj) (hl : look e dj = some gv) (hG : GC gv want c)
    (hv : Val Mo P K n c e H ⟨some d, op, ty, pos, af, some (j, want)⟩ v) (hd : Nat.blt d n = true) (h : WQ Mo P K n ops rest R ((d, cv c v) :: e) H) : WQ Mo P K n ops (⟨some d, op, ty, pos, af, some (j, want)⟩ :: rest) R e H := fun a ha => by
  refine wpQuiet_step fun S hS => ?_
  rw [Region.wanted_iff (o := ⟨some d, op, ty, pos, af, some (j, want)⟩) rfl hj hdj hl ha hG]
  cases c with
  | false => exact hS _ (h _ (ha.put d hd _))
  | true =>
    simp only [if_true]
    refine ⟨v, fun w hw => ?_, hS _ (h _ (ha.put d hd v))⟩
    unfold Oper.quietAt
    rw [hv rfl a w ha hw]
    exact ⟨rfl, rfl⟩
theorem WQ.call {d : Nat} {f : FuncId} {xs : List Operand} {vs : List Value} {ats : Array TypeId} {v : Value} (hf : Callable P f) (hxs : OVs true e xs vs)
    (hF : Tells P f vs.toArray K H v) (hd : Nat.blt d n = true) (h : WQ Mo P K n ops rest R ((d, v) :: e) H) : WQ Mo P K n ops (⟨some d, .call ⟨.value (.func f), xs.toArray, ats⟩, ty, pos, af, none⟩ :: rest) R e H := fun a ha => by
  refine wpQuiet_step fun S hS => ?_
  simp only [Region.wanted, if_true]
  refine ⟨v, fun w hw => ?_, hS _ (h _ (ha.put d hd v))⟩
  unfold Oper.quietAt
  rw [run_call hf (hxs.ev ha rfl)]
  exact ⟨rfl, hF.call hw⟩
theorem WQ.callG {d j dj : Nat} {want : Bool} {oj : Oper} {f : FuncId} {xs : List Operand} {vs : List Value} {ats : Array TypeId} {v gv : Value}
    (hj : ops[j]? = some oj) (hdj : oj.dst = some dj) (hl : look e dj = some gv) (hG : GC gv want c) (hf : Callable P f) (hxs : OVs c e xs vs) (hF : c = true → Tells P f vs.toArray K H v) (hd : Nat.blt d n = true)
    (h : WQ Mo P K n ops rest R ((d, cv c v) :: e) H) : WQ Mo P K n ops (⟨some d, .call ⟨.value (.func f), xs.toArray, ats⟩, ty, pos, af, some (j, want)⟩ :: rest) R e H := fun a ha => by
  refine wpQuiet_step fun S hS => ?_
  rw [Region.wanted_iff (o := ⟨some d, .call ⟨.value (.func f), xs.toArray, ats⟩, ty, pos, af, some (j, want)⟩) rfl hj hdj hl ha hG]
  cases c with
  | false => exact hS _ (h _ (ha.put d hd _))
  | true =>
    simp only [if_true]
    refine ⟨v, fun w hw => ?_, hS _ (h _ (ha.put d hd v))⟩
    unfold Oper.quietAt
    rw [run_call hf (hxs.ev ha rfl)]
    exact ⟨rfl, (hF rfl).call hw⟩
/-! Whatever order: the operations that may come up, one after another -/
/-- In every world of the class the operation yields v and leaves the world. -/
def YieldsV (P : Program) (ops : Array Oper) (C : World → Prop) (o : Oper) (v : Value) (a : Act) : Prop :=
  (Region.wanted o (yielded ops a.tmps) = true ∧ ∀ w, C w → (execOp a.eval o).run P w = .ok (.value v) w) ∨ (Region.wanted o (yielded ops a.tmps) = false ∧ v = undef)
theorem YieldsV.wpOp {C : World → Prop} {q : Exit → Act → World → Prop} {i : Nat} {o : Oper} {v : Value} {a : Act} (hi : ops[i]? = some o) (hy : YieldsV P ops C o v a) {S : Act → World → Prop} {w : World} (hC : C w) (h : S (a.put o.dst v) w) : wpOp P ops q i S a w := by
  unfold Go.wpOp
  simp only [hi]
  rcases hy with ⟨hw, hv⟩ | ⟨hw, rfl⟩
  · simp only [hw, if_true, Oper.wp, hv w hC, Oper.upon]; exact .inl h
  · simp only [hw, Bool.false_eq_true, if_false]; exact h
theorem YieldsV.of_same {C : World → Prop} {o : Oper} {v : Value} {a a' : Act} (hy : YieldsV P ops C o v a) (he : execOp a'.eval o = execOp a.eval o)
    (hw : Region.wanted o (yielded ops a'.tmps) = Region.wanted o (yielded ops a.tmps)) : YieldsV P ops C o v a' := by
  unfold YieldsV at *
  rw [he, hw]
  exact hy
theorem wpOp_putV {C : World → Prop} {q : Exit → Act → World → Prop} {j : Nat} {oi oj : Oper} {v : Value} (hj : ops[j]? = some oj) (hap : oi.apart ops oj = true)
    (hsi : ∀ cs b, oi.op ≠ .select cs b) (hsj : ∀ cs b, oj.op ≠ .select cs b)
    (hQ : ∀ c a w, q (.panic c) (a.put oi.dst v) w → q (.panic c) a w) {S : Act → World → Prop} {a : Act} {w : World}
    (hy : YieldsV P ops C oi v a) (h : wpOp P ops q j S (a.put oi.dst v) w) :
    wpOp P ops q j (fun a' w' => YieldsV P ops C oi v a' ∧ S (a'.put oi.dst v) w') a w := by
  obtain ⟨h1, h2, h3⟩ := Oper.apart_spec hap
  have keep : ∀ (a : Act), YieldsV P ops C oi v a → ∀ u, YieldsV P ops C oi v (a.put oj.dst u) := fun a hy u =>
    hy.of_same (execOp_put oi hsi a oj.dst u h3) (wanted_put oi a oj.dst u h3)
  have keepD : ∀ d, YieldsV P ops C oi v { a with defers := d :: a.defers } := fun d => hy.of_same rfl rfl
  unfold wpOp at *
  simp only [hj] at *
  rw [wanted_put oj a oi.dst v h1] at h
  split
  · rename_i hw
    simp only [hw, if_true] at h
    rcases h with h | ⟨hasks, hlets⟩
    case inr => exact .inr ⟨by unfold Oper.asks at *; rw [execOp_put oj hsj a oi.dst v h1] at hasks; exact hasks, hlets⟩
    refine .inl ?_
    unfold Oper.wp at *
    rw [execOp_put oj hsj a oi.dst v h1] at h
    generalize (execOp a.eval oj).run P w = r at *
    cases r with
    | ok n w' =>
      cases n <;> simp only [Oper.upon] at h ⊢
      case value u => exact ⟨keep a hy u, by rw [← Act.put_comm a v u h2]; exact h⟩
      case skip => exact ⟨keep a hy _, by rw [← Act.put_comm a v undef h2]; exact h⟩
      case defer d =>
        refine ⟨keep _ (keepD d) _, ?_⟩
        rw [← Act.put_comm _ v undef h2, ← Act.put_defers]
        exact h
      case enter f args =>
        refine Calls.mono h fun e w'' he => ?_
        cases e with
        | returned u => exact ⟨keep a hy u, by rw [← Act.put_comm a v u h2]; exact he⟩
        | panicked c => exact hQ _ _ _ he
        | outgrown => exact he
      case row row args => exact Rows.mono h fun u w'' he => ⟨keep a hy u, by rw [← Act.put_comm a v u h2]; exact he⟩
    | halt x w' =>
      cases x <;> simp only [Oper.upon] at h ⊢
      case panic u => exact hQ _ _ _ h
  · rename_i hw
    simp only [hw] at h
    exact ⟨keep a hy _, by rw [← Act.put_comm a v undef h2]; exact h⟩
/-- wpAny, the class holding ahead of each operation. -/
def wpAnyC (P : Program) (md : Region.Mode) (ops : Array Oper) (C : World → Prop) (q : Exit → Act → World → Prop) : Nat → Array Bool → Act → World → Prop
  | 0, listed, a, w => C w ∧ Region.ready md ops listed = [] ∧ q .normal a w
  | fuel + 1, listed, a, w => C w ∧ (Region.ready md ops listed = [] → q .normal a w) ∧
    ∀ i ∈ Region.ready md ops listed, wpOp P ops q i (wpAnyC P md ops C q fuel (listed.setIfInBounds i true)) a w
theorem wpAny_of_C {md : Region.Mode} {C : World → Prop} {q : Exit → Act → World → Prop} : ∀ (fuel : Nat) (listed : Array Bool) (a : Act) (w : World), wpAnyC P md ops C q fuel listed a w → wpAny P md ops q fuel listed a w
  | 0, _, _, _, h => h.2
  | fuel + 1, _, _, _, h => ⟨h.2.1, fun i hi => wpOp_mono (fun a w hh => wpAny_of_C fuel _ a w hh) (h.2.2 i hi)⟩
theorem wpAnyC_C {md : Region.Mode} {C : World → Prop} {q : Exit → Act → World → Prop} : ∀ {fuel : Nat} {listed : Array Bool} {a : Act} {w : World}, wpAnyC P md ops C q fuel listed a w → C w
  | 0, _, _, _, h => h.1
  | _ + 1, _, _, _, h => h.1
theorem wpAnyC_first {md : Region.Mode} {C : World → Prop} {q : Exit → Act → World → Prop} {i : Nat} {oi : Oper} {v : Value} (hi : ops[i]? = some oi) (hsel : ∀ (j : Nat) (o : Oper) cs b, ops[j]? = some o → o.op ≠ .select cs b)
    (hQ : ∀ c a w, q (.panic c) (a.put oi.dst v) w → q (.panic c) a w) :
    ∀ (fuel : Nat) (listed : Array Bool) (a : Act) (w : World),
      (∀ j oj, ops[j]? = some oj → j ≠ i → listed.getD j true = false → (∀ e ∈ oj.after, Region.binds md e = true → e.on ≠ i) → oi.apart ops oj = true) →
      i ∈ Region.ready md ops listed → YieldsV P ops C oi v a → C w →
      wpAnyC P md ops C q fuel (listed.setIfInBounds i true) (a.put oi.dst v) w → wpAnyC P md ops C q (fuel + 1) listed a w := by
  intro fuel
  induction fuel with
  | zero =>
    intro listed a w _ hr hy hC H
    refine ⟨hC, fun h => (by rw [h] at hr; cases hr), fun j hj => ?_⟩
    by_cases hji : j = i
    · subst hji; exact hy.wpOp hi hC H
    · have := ready_mono hj hji
      rw [H.2.1] at this
      cases this
  | succ fuel ih =>
    intro listed a w hfree hr hy hC H
    refine ⟨hC, fun h => (by rw [h] at hr; cases hr), fun j hj => ?_⟩
    by_cases hji : j = i
    · subst hji; exact hy.wpOp hi hC H
    · have h1 := H.2.2 j (ready_mono hj hji)
      obtain ⟨hjun, oj, hoj, hall⟩ := mem_ready.1 hj
      have hnot : ∀ e ∈ oj.after, Region.binds md e = true → e.on ≠ i := fun e he hb heq => by
        have h1 := hall e he hb
        have h0 := (mem_ready.1 hr).1
        rw [heq] at h1
        rcases Nat.lt_or_ge i listed.size with h' | h'
        · simp [h'] at h0 h1; rw [h0] at h1; cases h1
        · simp [Array.getElem?_eq_none h'] at h1
      have h2 := wpOp_putV hoj (hfree j oj hoj hji hjun hnot) (fun cs b => hsel i oi cs b hi) (fun cs b => hsel j oj cs b hoj) hQ hy h1
      have hfree' : ∀ k ok, ops[k]? = some ok → k ≠ i → (listed.setIfInBounds j true).getD k true = false →
          (∀ e ∈ ok.after, Region.binds md e = true → e.on ≠ i) → oi.apart ops ok = true := fun k ok hk hki hun hno => by
        refine hfree k ok hk hki ?_ hno
        by_cases hjk : j = k
        · subst hjk; exact hjun
        · rw [getD_set_ne true hjk] at hun; exact hun
      refine wpOp_mono (fun a' w' h3 => ?_) h2
      have hrun : wpAnyC P md ops C q fuel ((listed.setIfInBounds j true).setIfInBounds i true) (a'.put oi.dst v) w' := by
        rw [Array.setIfInBounds_comm _ _ hji]
        exact h3.2
      exact ih (listed.setIfInBounds j true) a' w' hfree' (ready_mono hr (Ne.symm hji)) h3.1 (wpAnyC_C hrun) hrun

def WA (Mo : Mode) (P : Program) (K : World) (n : Nat) (F0 : List Assn) (ops : Array Oper) (Q : Post) (fuel : Nat) (listed : Array Bool) (e : Env) (H : List Assn) : Prop :=
  ∀ a w, Agree Mo n e a → Sat K w H → wpAnyC P .any ops (fun w => Sat K w F0) (lift Mo.round K n Q) fuel listed a w
theorem WC.regionA {id : Nat} {l : List Oper} {ds : List Deferred} (F0 : List Assn) (hm : P.follows .mixedOrders = true) (h : WA ⟨none, ds⟩ P K n F0 l.toArray Q l.length (Array.replicate l.length false) e H) : WC ⟨none, ds⟩ P K n (.region id l.toArray true) Q e H := fun a w ha hw => by
  show (Code.region id l.toArray true).wp P _ a w
  refine wp_region_any hm (wpAny_of_C (C := fun w => Sat K w F0) _ _ _ _ ?_)
  have := h a _ ha hw.drew
  simpa using this
theorem WC.regionH {id : Nat} {l : List Oper} {ds : List Deferred} (hm : P.follows .mixedOrders = true) (h : WA ⟨none, ds⟩ P K n H l.toArray Q l.length (Array.replicate l.length false) e H) : WC ⟨none, ds⟩ P K n (.region id l.toArray true) Q e H := WC.regionA H hm h
variable {F0 : List Assn}
theorem WA.done {fuel : Nat} {listed : Array Bool} (hr : Region.ready .any ops listed = []) (hF : ∀ w, Sat K w H → Sat K w F0) (h : Q Mo .normal e H) : WA Mo P K n F0 ops Q fuel listed e H := fun a w ha hw => by
  cases fuel with
  | zero => exact ⟨hF w hw, hr, Mo.ds, e, H, ha, hw, h⟩
  | succ fuel => exact ⟨hF w hw, fun _ => ⟨Mo.ds, e, H, ha, hw, h⟩, by rw [hr]; simp⟩
theorem WA.take {fuel : Nat} {listed : Array Bool} {d : Nat} {op : Op} {v : Value} (i : Nat) (hF : ∀ w, Sat K w H → Sat K w F0) (hi : ops[i]? = some ⟨some d, op, ty, pos, af, none⟩) (hs : Region.noSelect ops = true) (hf : Region.free .any ops listed i = true)
    (hr : (Region.ready .any ops listed).contains i = true) (hQ : ∀ c (p : Mode × Env) H, ¬ Q p.1 (.panic c) p.2 H) (hv : Val Mo P K n true e F0 ⟨some d, op, ty, pos, af, none⟩ v) (hd : Nat.blt d n = true)
    (h : WA Mo P K n F0 ops Q fuel (listed.setIfInBounds i true) ((d, v) :: e) H) : WA Mo P K n F0 ops Q (fuel + 1) listed e H := fun a w ha hw => by
  refine wpAnyC_first hi (Region.noSelect_spec hs) (fun c a w hh => ?_) fuel listed a w (Region.free_spec hi hf) (by simpa using hr) (.inl ⟨rfl, fun w' hw' => hv rfl a w' ha hw'⟩) (hF w hw) (h _ w (ha.put d hd v) hw)
  obtain ⟨ds', e', H', _, _, h3⟩ := hh
  exact (hQ c (⟨Mo.round, ds'⟩, e') H' h3).elim
theorem WA.takeG {fuel : Nat} {listed : Array Bool} {d j dj : Nat} {want : Bool} {oj : Oper} {op : Op} {v gv : Value} (i : Nat) (hF : ∀ w, Sat K w H → Sat K w F0) (hi : ops[i]? = some ⟨some d, op, ty, pos, af, some (j, want)⟩) (hs : Region.noSelect ops = true) (hf : Region.free .any ops listed i = true)
    (hr : (Region.ready .any ops listed).contains i = true) (hQ : ∀ c (p : Mode × Env) H, ¬ Q p.1 (.panic c) p.2 H) (hj : ops[j]? = some oj) (hdj : oj.dst = some dj) (hl : look e dj = some gv) (hG : GC gv want c)
    (hv : Val Mo P K n c e F0 ⟨some d, op, ty, pos, af, some (j, want)⟩ v) (hd : Nat.blt d n = true)
    (h : WA Mo P K n F0 ops Q fuel (listed.setIfInBounds i true) ((d, cv c v) :: e) H) : WA Mo P K n F0 ops Q (fuel + 1) listed e H := fun a w ha hw => by
  refine wpAnyC_first (v := cv c v) hi (Region.noSelect_spec hs) (fun c a w hh => ?_) fuel listed a w (Region.free_spec hi hf) (by simpa using hr) ?_ (hF w hw) (h _ w (ha.put d hd _) hw)
  · obtain ⟨ds', e', H', _, _, h3⟩ := hh
    exact (hQ c (⟨Mo.round, ds'⟩, e') H' h3).elim
  · have hw' := Region.wanted_iff (o := ⟨some d, op, ty, pos, af, some (j, want)⟩) rfl hj hdj hl ha hG
    cases hc : c with
    | true => subst hc; exact .inl ⟨hw', fun w' k => hv rfl a w' ha k⟩
    | false => subst hc; exact .inr ⟨hw', rfl⟩
theorem WA.takeK {fuel : Nat} {listed : Array Bool} {d j dj : Nat} {want : Bool} {oj : Oper} {op : Op} {v gv : Value} (i : Nat) (hF : ∀ w, Sat K w H → Sat K w F0) (hi : ops[i]? = some ⟨some d, op, ty, pos, af, some (j, want)⟩) (hs : Region.noSelect ops = true) (hf : Region.free .any ops listed i = true)
    (hr : (Region.ready .any ops listed).contains i = true) (hQ : ∀ c (p : Mode × Env) H, ¬ Q p.1 (.panic c) p.2 H) (hj : ops[j]? = some oj) (hdj : oj.dst = some dj) (hl : look e dj = some gv) (hG : GC gv want true)
    (hv : Val Mo P K n true e F0 ⟨some d, op, ty, pos, af, some (j, want)⟩ v) (hd : Nat.blt d n = true)
    (h : WA Mo P K n F0 ops Q fuel (listed.setIfInBounds i true) ((d, v) :: e) H) : WA Mo P K n F0 ops Q (fuel + 1) listed e H := WA.takeG i hF hi hs hf hr hQ hj hdj hl hG hv hd h
theorem WA.takeF {fuel : Nat} {listed : Array Bool} {d j dj : Nat} {want : Bool} {oj : Oper} {op : Op} {gv : Value} (i : Nat) (hF : ∀ w, Sat K w H → Sat K w F0) (hi : ops[i]? = some ⟨some d, op, ty, pos, af, some (j, want)⟩) (hs : Region.noSelect ops = true) (hf : Region.free .any ops listed i = true)
    (hr : (Region.ready .any ops listed).contains i = true) (hQ : ∀ c (p : Mode × Env) H, ¬ Q p.1 (.panic c) p.2 H) (hj : ops[j]? = some oj) (hdj : oj.dst = some dj) (hl : look e dj = some gv) (hG : GC gv want false) (hd : Nat.blt d n = true)
    (h : WA Mo P K n F0 ops Q fuel (listed.setIfInBounds i true) ((d, undef) :: e) H) : WA Mo P K n F0 ops Q (fuel + 1) listed e H :=
  WA.takeG (v := undef) i hF hi hs hf hr hQ hj hdj hl hG (fun h => by cases h) hd h
/-- Its guard is known to say yes. -/
theorem WL.known {ops : Array Oper} {rest : List Oper} {j dj : Nat} {want : Bool} {oj : Oper} {op : Op} {gv : Value} (hj : ops[j]? = some oj) (hdj : oj.dst = some dj) (hl : look e dj = some gv) (hG : GC gv want true)
    (h : WL Mo P K n ops (⟨dst, op, ty, pos, af, none⟩ :: rest) Q e H) : WL Mo P K n ops (⟨dst, op, ty, pos, af, some (j, want)⟩ :: rest) Q e H := fun a w ha hw => by
  have h1 := h a w ha hw
  have hw' := Region.wanted_iff (o := ⟨dst, op, ty, pos, af, some (j, want)⟩) rfl hj hdj hl ha hG
  obtain ⟨r, ds⟩ := Mo
  cases r with
  | none =>
    have h2 : wpList P ops (lift none K n Q) (⟨dst, op, ty, pos, af, none⟩ :: rest) a w := h1
    show wpList P ops (lift none K n Q) (⟨dst, op, ty, pos, af, some (j, want)⟩ :: rest) a w
    unfold wpList at h2 ⊢
    rw [if_pos hw']
    rw [if_pos (by simp [Region.wanted])] at h2
    exact h2
  | some l =>
    have h2 : wpListIn (inF l) 0 P ops (lift (some l) K n Q) (⟨dst, op, ty, pos, af, none⟩ :: rest) a w := h1
    show wpListIn (inF l) 0 P ops (lift (some l) K n Q) (⟨dst, op, ty, pos, af, some (j, want)⟩ :: rest) a w
    unfold wpListIn at h2 ⊢
    rw [if_pos hw']
    rw [if_pos (by simp [Region.wanted])] at h2
    exact h2
theorem wpOp_of_WL {ds : List Deferred} {o : Oper} {i : Nat} {R : Mode → Env → List Assn → Prop} {S : Act → World → Prop} (hi : ops[i]? = some o) (h : WL ⟨none, ds⟩ P K n ops [o] (Then R Q) e H) {a : Act} {w : World} (ha : Agree ⟨none, ds⟩ n e a) (hw : Sat K w H)
    (hS : ∀ a w ds' e' H', Agree ⟨none, ds'⟩ n e' a → Sat K w H' → R ⟨none, ds'⟩ e' H' → S a w) : wpOp P ops (lift none K n Q) i S a w := by
  have h1 : wpList P ops (lift none K n (Then R Q)) [o] a w := h a w ha hw
  unfold wpOp
  simp only [hi]
  unfold wpList at h1
  have hQ : ∀ x a w, lift none K n (Then R Q) x a w → (x = .normal → S a w) ∧ (x ≠ .normal → lift none K n Q x a w) := by
    rintro x a w ⟨ds', e', H', k1, k2, k3⟩
    cases x <;> first | exact ⟨fun _ => hS a w ds' e' H' k1 k2 k3, fun k => (k rfl).elim⟩ | exact ⟨(fun k => by cases k), fun _ => ⟨ds', e', H', k1, k2, k3⟩⟩
  split
  · rename_i hw'
    rw [if_pos hw'] at h1
    rcases h1 with h1 | ⟨h1, h2⟩
    · refine .inl ?_
      unfold Oper.wp at h1 ⊢
      generalize (execOp a.eval o).run P w = r at h1 ⊢
      cases r with
      | ok nx w' =>
        cases nx <;> simp only [Oper.upon] at h1 ⊢ <;> first
          | exact (hQ _ _ _ h1).1 rfl
          | exact h1
          | (refine h1.mono ?_
             rintro x w'' hx
             cases x <;> first
               | exact (hQ _ _ _ hx).1 rfl
               | exact (hQ _ _ _ hx).2 (by simp)
               | (obtain ⟨a2, w2, k⟩ := hx; exact ⟨a2, w2, (hQ _ _ _ k).2 (by simp)⟩))
          | exact h1.mono fun v w'' hx => (hQ _ _ _ hx).1 rfl
      | halt x w' =>
        cases x <;> simp only [Oper.upon] at h1 ⊢ <;> first
          | exact (hQ _ _ _ h1).2 (by simp)
          | exact h1
    · obtain ⟨a2, w2, k⟩ := h2
      exact .inr ⟨h1, a2, w2, (hQ _ _ _ k).2 (by simp)⟩
  · rename_i hw'
    rw [if_neg hw'] at h1
    exact (hQ _ _ _ h1).1 rfl
section
variable {ds : List Deferred}
theorem WA.step {fuel : Nat} {listed : Array Bool} {rs : List Nat} (hF : ∀ w, Sat K w H → Sat K w F0) (hr : Region.ready .any ops listed = rs) (hne : rs.isEmpty = false)
    (h : ∀ i ∈ rs, ∃ o, ops[i]? = some o ∧ WL ⟨none, ds⟩ P K n ops [o] (Then (fun Mo => WA Mo P K n F0 ops Q fuel (listed.setIfInBounds i true)) Q) e H) : WA ⟨none, ds⟩ P K n F0 ops Q (fuel + 1) listed e H := fun a w ha hw => by
  refine ⟨hF w hw, (fun h0 => by rw [hr] at h0; rw [h0] at hne; cases hne), fun i hi => ?_⟩
  rw [hr] at hi
  obtain ⟨o, h1, h2⟩ := h i hi
  exact wpOp_of_WL h1 h2 ha hw fun a w ds' e' H' k1 k2 k3 => k3 a w k1 k2
theorem WA.one {fuel : Nat} {listed : Array Bool} {i : Nat} {o : Oper} (hF : ∀ w, Sat K w H → Sat K w F0) (hr : Region.ready .any ops listed = [i]) (hi : ops[i]? = some o)
    (h : WL ⟨none, ds⟩ P K n ops [o] (Then (fun Mo => WA Mo P K n F0 ops Q fuel (listed.setIfInBounds i true)) Q) e H) : WA ⟨none, ds⟩ P K n F0 ops Q (fuel + 1) listed e H :=
  WA.step hF hr rfl fun j hj => by simp at hj; subst hj; exact ⟨o, hi, h⟩
/-! short forms for printed walks -/
theorem WA.t {fuel : Nat} {listed : Array Bool} {d : Nat} {op : Op} {v : Value} (i : Nat) (hi : ops[i]? = some ⟨some d, op, ty, pos, af, none⟩) (hv : Val Mo P K n true e F0 ⟨some d, op, ty, pos, af, none⟩ v)
    (h : WA Mo P K n F0 ops Q fuel (listed.setIfInBounds i true) ((d, v) :: e) H) (hd : Nat.blt d n = true := by rfl) (hF : ∀ w, Sat K w H → Sat K w F0 := by intro w h; repeat (first | exact h | replace h := h.tail)) (hs : Region.noSelect ops = true := by kernel_rfl) (hf : Region.free .any ops listed i = true := by kernel_rfl)
    (hr : (Region.ready .any ops listed).contains i = true := by kernel_rfl) (hQ : ∀ c (p : Mode × Env) H, ¬ Q p.1 (.panic c) p.2 H := by exact fun _ _ _ h => h) : WA Mo P K n F0 ops Q (fuel + 1) listed e H := WA.take i hF hi hs hf hr hQ hv hd h
theorem WA.tG {fuel : Nat} {listed : Array Bool} {d j dj : Nat} {want : Bool} {oj : Oper} {op : Op} {v gv : Value} (i : Nat) (hi : ops[i]? = some ⟨some d, op, ty, pos, af, some (j, want)⟩) (hj : ops[j]? = some oj) (hdj : oj.dst = some dj) (hl : look e dj = some gv) (hG : GC gv want c)
    (hv : Val Mo P K n c e F0 ⟨some d, op, ty, pos, af, some (j, want)⟩ v) (h : WA Mo P K n F0 ops Q fuel (listed.setIfInBounds i true) ((d, cv c v) :: e) H) (hd : Nat.blt d n = true := by rfl) (hF : ∀ w, Sat K w H → Sat K w F0 := by intro w h; repeat (first | exact h | replace h := h.tail)) (hs : Region.noSelect ops = true := by kernel_rfl) (hf : Region.free .any ops listed i = true := by kernel_rfl)
    (hr : (Region.ready .any ops listed).contains i = true := by kernel_rfl) (hQ : ∀ c (p : Mode × Env) H, ¬ Q p.1 (.panic c) p.2 H := by exact fun _ _ _ h => h) : WA Mo P K n F0 ops Q (fuel + 1) listed e H := WA.takeG i hF hi hs hf hr hQ hj hdj hl hG hv hd h
theorem WA.tK {fuel : Nat} {listed : Array Bool} {d j dj : Nat} {want : Bool} {oj : Oper} {op : Op} {v gv : Value} (i : Nat) (hi : ops[i]? = some ⟨some d, op, ty, pos, af, some (j, want)⟩) (hj : ops[j]? = some oj) (hdj : oj.dst = some dj) (hl : look e dj = some gv) (hG : GC gv want true)
    (hv : Val Mo P K n true e F0 ⟨some d, op, ty, pos, af, some (j, want)⟩ v) (h : WA Mo P K n F0 ops Q fuel (listed.setIfInBounds i true) ((d, v) :: e) H) (hd : Nat.blt d n = true := by rfl) (hF : ∀ w, Sat K w H → Sat K w F0 := by intro w h; repeat (first | exact h | replace h := h.tail)) (hs : Region.noSelect ops = true := by kernel_rfl) (hf : Region.free .any ops listed i = true := by kernel_rfl)
    (hr : (Region.ready .any ops listed).contains i = true := by kernel_rfl) (hQ : ∀ c (p : Mode × Env) H, ¬ Q p.1 (.panic c) p.2 H := by exact fun _ _ _ h => h) : WA Mo P K n F0 ops Q (fuel + 1) listed e H := WA.takeK i hF hi hs hf hr hQ hj hdj hl hG hv hd h
theorem WA.tF {fuel : Nat} {listed : Array Bool} {d j dj : Nat} {want : Bool} {oj : Oper} {op : Op} {gv : Value} (i : Nat) (hi : ops[i]? = some ⟨some d, op, ty, pos, af, some (j, want)⟩) (hj : ops[j]? = some oj) (hdj : oj.dst = some dj) (hl : look e dj = some gv) (hG : GC gv want false)
    (h : WA Mo P K n F0 ops Q fuel (listed.setIfInBounds i true) ((d, undef) :: e) H) (hd : Nat.blt d n = true := by rfl) (hF : ∀ w, Sat K w H → Sat K w F0 := by intro w h; repeat (first | exact h | replace h := h.tail)) (hs : Region.noSelect ops = true := by kernel_rfl) (hf : Region.free .any ops listed i = true := by kernel_rfl)
    (hr : (Region.ready .any ops listed).contains i = true := by kernel_rfl) (hQ : ∀ c (p : Mode × Env) H, ¬ Q p.1 (.panic c) p.2 H := by exact fun _ _ _ h => h) : WA Mo P K n F0 ops Q (fuel + 1) listed e H := WA.takeF i hF hi hs hf hr hQ hj hdj hl hG hd h
theorem WA.o {fuel : Nat} {listed : Array Bool} {o : Oper} (i : Nat) (hi : ops[i]? = some o) (h : WL ⟨none, ds⟩ P K n ops [o] (Then (fun Mo => WA Mo P K n F0 ops Q fuel (listed.setIfInBounds i true)) Q) e H)
    (hF : ∀ w, Sat K w H → Sat K w F0 := by intro w h; repeat (first | exact h | replace h := h.tail)) (hr : Region.ready .any ops listed = [i] := by kernel_rfl) : WA ⟨none, ds⟩ P K n F0 ops Q (fuel + 1) listed e H := WA.one hF hr hi h
theorem WA.fin {fuel : Nat} {listed : Array Bool} (h : Q Mo .normal e H) (hF : ∀ w, Sat K w H → Sat K w F0 := by intro w h; repeat (first | exact h | replace h := h.tail)) (hr : Region.ready .any ops listed = [] := by kernel_rfl) : WA Mo P K n F0 ops Q fuel listed e H := WA.done hr hF h
theorem WC.sr {id : Nat} {l : List Oper} {y : Code} (h : WL Mo P K n l.toArray l (Then (fun Mo => WC Mo P K n y Q) Q) e H) : WC Mo P K n (.seq (.region id l.toArray false) y) Q e H := WC.seq (WC.region h)
theorem WL.mv {rest : List Oper} {d : Nat} {x : Operand} {v : Value} (hx : opv e x = some v) (hd : Nat.blt d n = true) (h : WL Mo P K n ops rest Q ((d, v) :: e) H) : WL Mo P K n ops (⟨some d, .move x, ty, pos, af, none⟩ :: rest) Q e H := WL.val (V.move (OV.p hx)) hd h
theorem WL.sg {rest : List Oper} {d : Nat} {x : Operand} {v : Value} (hx : opv e x = some v) (hd : Nat.blt d n = true) (h : WL Mo P K n ops rest Q ((d, v) :: e) H) : WL Mo P K n ops (⟨some d, .assign x, ty, pos, af, none⟩ :: rest) Q e H := WL.val (V.assign (OV.p hx)) hd h
theorem WL.ld {rest : List Oper} {d : Nat} {x : Operand} {T : Nat} {q : Option Addr} {v : Value} (hT : Scal P T) (hx : opv e x = some (.pointer q)) (hd : Nat.blt d n = true) (h : WL Mo P K n ops rest Q ((d, v) :: e) H) (hr : Rd K H q v := by repeat (first | exact Rd.here rfl | apply Rd.up)) : WL Mo P K n ops (⟨some d, .load T x, ty, pos, af, none⟩ :: rest) Q e H := WL.val (V.load hT (OV.p hx) (fun _ => hr)) hd h
theorem WL.xt {rest : List Oper} {d i : Nat} {x : Operand} {vs : List Value} {v : Value} (hx : opv e x = some (.tuple vs.toArray)) (hv : vs[i]? = some v) (hd : Nat.blt d n = true) (h : WL Mo P K n ops rest Q ((d, v) :: e) H) : WL Mo P K n ops (⟨some d, .extract x i, ty, pos, af, none⟩ :: rest) Q e H := WL.val (V.extract (OV.p hx) hv) hd h
theorem WL.ad {rest : List Oper} {d t t' : Nat} {x y : Operand} {i j : Int} (hx : opv e x = some (.int .i64 i)) (hy : opv e y = some (.int .i64 j)) (hd : Nat.blt d n = true) (h : WL Mo P K n ops rest Q ((d, .int .i64 (i + j)) :: e) H) (hb : -9223372036854775808 ≤ i + j ∧ i + j ≤ 9223372036854775807 := by omega) : WL Mo P K n ops (⟨some d, .binOp .add t x y t', ty, pos, af, none⟩ :: rest) Q e H := WL.val (V.addI (OV.p hx) (OV.p hy) (fun _ => hb)) hd h
theorem WL.sb {rest : List Oper} {d t t' : Nat} {x y : Operand} {i j : Int} (hx : opv e x = some (.int .i64 i)) (hy : opv e y = some (.int .i64 j)) (hd : Nat.blt d n = true) (h : WL Mo P K n ops rest Q ((d, .int .i64 (i - j)) :: e) H) (hb : -9223372036854775808 ≤ i - j ∧ i - j ≤ 9223372036854775807 := by omega) : WL Mo P K n ops (⟨some d, .binOp .sub t x y t', ty, pos, af, none⟩ :: rest) Q e H := WL.val (V.subI (OV.p hx) (OV.p hy) (fun _ => hb)) hd h
theorem WL.nc {rest : List Oper} {d : Nat} {x : Operand} {p : Addr} (hx : opv e x = some (.pointer (some p))) (hd : Nat.blt d n = true) (h : WL Mo P K n ops rest Q ((d, .pointer (some p)) :: e) H) : WL Mo P K n ops (⟨some d, .nilCheck x, ty, pos, af, none⟩ :: rest) Q e H := WL.val (V.nilCheck (OV.p hx)) hd h
theorem WA.two {fuel : Nat} {listed : Array Bool} {i j : Nat} {o o' : Oper} (hF : ∀ w, Sat K w H → Sat K w F0) (hr : Region.ready .any ops listed = [i, j]) (hi : ops[i]? = some o) (hj : ops[j]? = some o')
    (h : WL ⟨none, ds⟩ P K n ops [o] (Then (fun Mo => WA Mo P K n F0 ops Q fuel (listed.setIfInBounds i true)) Q) e H) (h' : WL ⟨none, ds⟩ P K n ops [o'] (Then (fun Mo => WA Mo P K n F0 ops Q fuel (listed.setIfInBounds j true)) Q) e H) : WA ⟨none, ds⟩ P K n F0 ops Q (fuel + 1) listed e H :=
  WA.step hF hr rfl fun k hk => by
    simp at hk
    rcases hk with rfl | rfl
    · exact ⟨o, hi, h⟩
    · exact ⟨o', hj, h'⟩
theorem WA.three {fuel : Nat} {listed : Array Bool} {i j l : Nat} {o o' o'' : Oper} (hF : ∀ w, Sat K w H → Sat K w F0) (hr : Region.ready .any ops listed = [i, j, l]) (hi : ops[i]? = some o) (hj : ops[j]? = some o') (hl : ops[l]? = some o'')
    (h : WL ⟨none, ds⟩ P K n ops [o] (Then (fun Mo => WA Mo P K n F0 ops Q fuel (listed.setIfInBounds i true)) Q) e H) (h' : WL ⟨none, ds⟩ P K n ops [o'] (Then (fun Mo => WA Mo P K n F0 ops Q fuel (listed.setIfInBounds j true)) Q) e H)
    (h'' : WL ⟨none, ds⟩ P K n ops [o''] (Then (fun Mo => WA Mo P K n F0 ops Q fuel (listed.setIfInBounds l true)) Q) e H) : WA ⟨none, ds⟩ P K n F0 ops Q (fuel + 1) listed e H :=
  WA.step hF hr rfl fun k hk => by
    simp at hk
    rcases hk with rfl | rfl | rfl
    · exact ⟨o, hi, h⟩
    · exact ⟨o', hj, h'⟩
    · exact ⟨o'', hl, h''⟩
end
/-- A test that is known. -/
theorem WC.condT' {x : Operand} {y z : Code} {t : Bool} (hc : opv e x = some (.bool t)) (ht : t = true) (h : WC Mo P K n y Q e H) : WC Mo P K n (.cond x y z) Q e H := WC.cond hc (fun _ => h) (fun k => by rw [ht] at k; cases k)
theorem WC.condF' {x : Operand} {y z : Code} {t : Bool} (hc : opv e x = some (.bool t)) (ht : t = false) (h : WC Mo P K n z Q e H) : WC Mo P K n (.cond x y z) Q e H := WC.cond hc (fun k => by rw [ht] at k; cases k) (fun _ => h)
theorem and1 {a b : Bool} (h : (a && b) = true) : a = true := by cases a <;> simp_all
theorem and2 {a b : Bool} (h : (a && b) = true) : b = true := by cases a <;> simp_all
/-- n rounds laid open. -/
def Rounds (P : Program) (K : World) (n : Nat) (x : Code) (Q : Post) : Nat → Mode → Env → List Assn → Prop
  | 0, _, _, _ => False
  | m + 1, Mo, e, H => WC Mo P K n x (Then (Rounds P K n x Q m) Q) e H
theorem WC.rounds {x : Code} (m : Nat) (h : Rounds P K n x Q m Mo e H) : WC Mo P K n (.loop x) Q e H := fun a w ha hw => by
  refine cwp_loop (fun j a w => ∃ ds e H, Rounds P K n x Q j ⟨Mo.round, ds⟩ e H ∧ Agree ⟨Mo.round, ds⟩ n e a ∧ Sat K w H) m ⟨Mo.ds, e, H, h, ha, hw⟩ ?_
  rintro j a w ⟨ds, e, H, h, ha, hw⟩
  cases j with
  | zero => exact h.elim
  | succ j =>
    have h1 := h a w ha hw
    have h2 : cwp Mo P x (lift Mo.round K n (Then (Rounds P K n x Q j) Q)) a w := by
      obtain ⟨r, ds0⟩ := Mo
      cases r <;> exact h1
    refine cwp_mono h2 ?_
    rintro y a w ⟨ds', e', H', k1, k2, k3⟩
    cases y
    case normal => exact ⟨j, Nat.lt_succ_self _, ds', e', H', k3, k1, k2⟩
    all_goals exact ⟨ds', e', H', k1, k2, k3⟩
end
end Go.Sl
