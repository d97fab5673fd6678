import Derived.Test.YtcedojacbhnbiaaGreatP1
import Derived.Orders
import Derived.Laws.BytesArg
import Derived.Lib.Bytes
namespace Go.Sl
open Go.RowKit Go.BigFrame
set_option linter.unusedVariables false
section
variable {Mo : Mode} {P : Program} {K : World} {n : Nat} {Q : Post} {R : Env → Prop} {e : Env} {H : List au} {c : Bool} {dst : Option Tmp} {ty : TypeId} {pos : String} {af : Array Edge} {gd : Option (Nat × Bool)} {ops : Array Oper} {rest : List Oper}
def WQ (Mo : Mode) (P : Program) (K : World) (n : Nat) (ops : Array Oper) (rest : List Oper) (R : Env → Prop) (e : Env) (H : List au) : Prop :=
  ∀ a, Agree Mo n e a → wpQuiet P ops (fun w => Sat K w H) (fun a' => ∃ e', Agree Mo n e' a' ∧ R e') rest a
theorem nH {C : World → Prop} {S S' : Act → Prop} (h : ∀ a, S a → S' a) : ∀ (l : List Oper) (a : Act), wpQuiet P ops C S l a → wpQuiet P ops C S' l a
  | [], a, hh => h a hh
  | o :: l, a, hh => by
    simp only [wpQuiet] at hh ⊢
    split
    · rename_i hw
      rw [if_pos hw] at hh
      obtain ⟨v, h1, h2⟩ := hh
      exact ⟨v, h1, nH h l _ h2⟩
    · rename_i hw
      rw [if_neg hw] at hh
      exact nH h l _ hh
theorem WC.fK {id : Nat} {l : List Oper} {ds : List Deferred} (hm : P.follows .mixedOrders = true) (hB : Region.lexB .any l.toArray = true) (h : WQ ⟨none, ds⟩ P K n l.toArray l (fun e' => Q ⟨none, ds⟩ .normal e' H) e H) : WC ⟨none, ds⟩ P K n (.region id l.toArray true) Q e H := fun a w ha hw => by
  show (Code.region id l.toArray true).wp P _ a w
  refine wp_region_quiet (C := fun w => Sat K w H) hm hB hw.drew ?_
  have := h a ha
  refine nH ?_ _ a this
  rintro a' ⟨e', h1, h2⟩ w' hw'
  exact ⟨ds, e', H, h1, hw', h2⟩
theorem WQ.nil (h : R e) : WQ Mo P K n ops [] R e H := fun a ha => ⟨e, ha, h⟩
theorem WQ.val {d : Nat} {op : Op} {v : Value} (hv : Val Mo P K n true e H ⟨some d, op, ty, pos, af, none⟩ v) (hd : Nat.blt d n = true) (h : WQ Mo P K n ops rest R ((d, v) :: e) H) : WQ Mo P K n ops (⟨some d, op, ty, pos, af, none⟩ :: rest) R e H := fun a ha => by
  refine wpQuiet_step fun S hS => ?_
  simp only [Region.wanted, if_true]
  refine ⟨v, fun w hw => ?_, hS _ (h _ (ha.put d hd v))⟩
  unfold Oper.quietAt
  rw [hv rfl a w ha hw]
  exact ⟨rfl, rfl⟩
theorem WQ.ah {d j dj : Nat} {want : Bool} {oj : Oper} {op : Op} {v gv : Value} (hj : ops[j]? = some oj) (hdj : oj.dst = some dj) (hl : look e dj = some gv) (hG : GC gv want c)
    (hv : Val Mo P K n c e H ⟨some d, op, ty, pos, af, some (j, want)⟩ v) (hd : Nat.blt d n = true) (h : WQ Mo P K n ops rest R ((d, cv c v) :: e) H) : WQ Mo P K n ops (⟨some d, op, ty, pos, af, some (j, want)⟩ :: rest) R e H := fun a ha => by
  refine wpQuiet_step fun S hS => ?_
  rw [Region.iI (o := ⟨some d, op, ty, pos, af, some (j, want)⟩) rfl hj hdj hl ha hG]
  cases c with
  | false => exact hS _ (h _ (ha.put d hd _))
  | true =>
    simp only [if_true]
    refine ⟨v, fun w hw => ?_, hS _ (h _ (ha.put d hd v))⟩
    unfold Oper.quietAt
    rw [hv rfl a w ha hw]
    exact ⟨rfl, rfl⟩
theorem WQ.call {d : Nat} {f : FuncId} {xs : List Operand} {vs : List Value} {ats : Array TypeId} {v : Value} (hf : eP P f) (hxs : Fh true e xs vs)
    (hF : aG P f vs.toArray K H v) (hd : Nat.blt d n = true) (h : WQ Mo P K n ops rest R ((d, v) :: e) H) : WQ Mo P K n ops (⟨some d, .call ⟨.value (.func f), xs.toArray, ats⟩, ty, pos, af, none⟩ :: rest) R e H := fun a ha => by
  refine wpQuiet_step fun S hS => ?_
  simp only [Region.wanted, if_true]
  refine ⟨v, fun w hw => ?_, hS _ (h _ (ha.put d hd v))⟩
  unfold Oper.quietAt
  rw [tq hf (hxs.ev ha rfl)]
  exact ⟨rfl, hF.call hw⟩
theorem WQ.kN {d j dj : Nat} {want : Bool} {oj : Oper} {f : FuncId} {xs : List Operand} {vs : List Value} {ats : Array TypeId} {v gv : Value}
    (hj : ops[j]? = some oj) (hdj : oj.dst = some dj) (hl : look e dj = some gv) (hG : GC gv want c) (hf : eP P f) (hxs : Fh c e xs vs) (hF : c = true → aG P f vs.toArray K H v) (hd : Nat.blt d n = true)
    (h : WQ Mo P K n ops rest R ((d, cv c v) :: e) H) : WQ Mo P K n ops (⟨some d, .call ⟨.value (.func f), xs.toArray, ats⟩, ty, pos, af, some (j, want)⟩ :: rest) R e H := fun a ha => by
  refine wpQuiet_step fun S hS => ?_
  rw [Region.iI (o := ⟨some d, .call ⟨.value (.func f), xs.toArray, ats⟩, ty, pos, af, some (j, want)⟩) rfl hj hdj hl ha hG]
  cases c with
  | false => exact hS _ (h _ (ha.put d hd _))
  | true =>
    simp only [if_true]
    refine ⟨v, fun w hw => ?_, hS _ (h _ (ha.put d hd v))⟩
    unfold Oper.quietAt
    rw [tq hf (hxs.ev ha rfl)]
    exact ⟨rfl, (hF rfl).call hw⟩
def iF (P : Program) (ops : Array Oper) (C : World → Prop) (o : Oper) (v : Value) (a : Act) : Prop :=
  (Region.wanted o (yielded ops a.tmps) = true ∧ ∀ w, C w → (execOp a.eval o).run P w = .ok (.value v) w) ∨ (Region.wanted o (yielded ops a.tmps) = false ∧ v = undef)
theorem iF.wpOp {C : World → Prop} {q : Exit → Act → World → Prop} {i : Nat} {o : Oper} {v : Value} {a : Act} (hi : ops[i]? = some o) (hy : iF P ops C o v a) {S : Act → World → Prop} {w : World} (hC : C w) (h : S (a.put o.dst v) w) : wpOp P ops q i S a w := by
  unfold Go.wpOp
  simp only [hi]
  rcases hy with ⟨hw, hv⟩ | ⟨hw, rfl⟩
  · simp only [hw, if_true, Oper.wp, hv w hC, Oper.upon]; exact .inl h
  · simp only [hw, Bool.false_eq_true, if_false]; exact h
theorem iF.of_same {C : World → Prop} {o : Oper} {v : Value} {a a' : Act} (hy : iF P ops C o v a) (he : execOp a'.eval o = execOp a.eval o)
    (hw : Region.wanted o (yielded ops a'.tmps) = Region.wanted o (yielded ops a.tmps)) : iF P ops C o v a' := by
  unfold iF at *
  rw [he, hw]
  exact hy
theorem IZ {C : World → Prop} {q : Exit → Act → World → Prop} {j : Nat} {oi oj : Oper} {v : Value} (hj : ops[j]? = some oj) (hap : oi.apart ops oj = true)
    (hsi : ∀ cs b, oi.op ≠ .select cs b) (hsj : ∀ cs b, oj.op ≠ .select cs b)
    (hQ : ∀ c a w, q (.panic c) (a.put oi.dst v) w → q (.panic c) a w) {S : Act → World → Prop} {a : Act} {w : World}
    (hy : iF P ops C oi v a) (h : wpOp P ops q j S (a.put oi.dst v) w) :
    wpOp P ops q j (fun a' w' => iF P ops C oi v a' ∧ S (a'.put oi.dst v) w') a w := by
  obtain ⟨h1, h2, h3⟩ := Oper.apart_spec hap
  have keep : ∀ (a : Act), iF P ops C oi v a → ∀ u, iF P ops C oi v (a.put oj.dst u) := fun a hy u =>
    hy.of_same (execOp_put oi hsi a oj.dst u h3) (wanted_put oi a oj.dst u h3)
  have keepD : ∀ d, iF P ops C oi v { a with defers := d :: a.defers } := fun d => hy.of_same rfl rfl
  unfold wpOp at *
  simp only [hj] at *
  rw [wanted_put oj a oi.dst v h1] at h
  split
  · rename_i hw
    simp only [hw, if_true] at h
    rcases h with h | ⟨hasks, hlets⟩
    case inr => exact .inr ⟨by unfold Oper.asks at *; rw [execOp_put oj hsj a oi.dst v h1] at hasks; exact hasks, hlets⟩
    refine .inl ?_
    unfold Oper.wp at *
    rw [execOp_put oj hsj a oi.dst v h1] at h
    generalize (execOp a.eval oj).run P w = r at *
    cases r with
    | ok n w' =>
      cases n <;> simp only [Oper.upon] at h ⊢
      case value u => exact ⟨keep a hy u, by rw [← Act.put_comm a v u h2]; exact h⟩
      case skip => exact ⟨keep a hy _, by rw [← Act.put_comm a v undef h2]; exact h⟩
      case defer d =>
        refine ⟨keep _ (keepD d) _, ?_⟩
        rw [← Act.put_comm _ v undef h2, ← Act.put_defers]
        exact h
      case enter f args =>
        refine Calls.mono h fun e w'' he => ?_
        cases e with
        | returned u => exact ⟨keep a hy u, by rw [← Act.put_comm a v u h2]; exact he⟩
        | panicked c => exact hQ _ _ _ he
        | outgrown => exact he
      case row row args => exact Rows.mono h fun u w'' he => ⟨keep a hy u, by rw [← Act.put_comm a v u h2]; exact he⟩
    | halt x w' =>
      cases x <;> simp only [Oper.upon] at h ⊢
      case panic u => exact hQ _ _ _ h
  · rename_i hw
    simp only [hw] at h
    exact ⟨keep a hy _, by rw [← Act.put_comm a v undef h2]; exact h⟩
def rF (P : Program) (md : Region.Mode) (ops : Array Oper) (C : World → Prop) (q : Exit → Act → World → Prop) : Nat → Array Bool → Act → World → Prop
  | 0, listed, a, w => C w ∧ Region.ready md ops listed = [] ∧ q .normal a w
  | fuel + 1, listed, a, w => C w ∧ (Region.ready md ops listed = [] → q .normal a w) ∧
    ∀ i ∈ Region.ready md ops listed, wpOp P ops q i (rF P md ops C q fuel (listed.setIfInBounds i true)) a w
theorem su {md : Region.Mode} {C : World → Prop} {q : Exit → Act → World → Prop} : ∀ (fuel : Nat) (listed : Array Bool) (a : Act) (w : World), rF P md ops C q fuel listed a w → wpAny P md ops q fuel listed a w
  | 0, _, _, _, h => h.2
  | fuel + 1, _, _, _, h => ⟨h.2.1, fun i hi => wpOp_mono (fun a w hh => su fuel _ a w hh) (h.2.2 i hi)⟩
theorem KG {md : Region.Mode} {C : World → Prop} {q : Exit → Act → World → Prop} : ∀ {fuel : Nat} {listed : Array Bool} {a : Act} {w : World}, rF P md ops C q fuel listed a w → C w
  | 0, _, _, _, h => h.1
  | _ + 1, _, _, _, h => h.1
theorem Bw {md : Region.Mode} {C : World → Prop} {q : Exit → Act → World → Prop} {i : Nat} {oi : Oper} {v : Value} (hi : ops[i]? = some oi) (hsel : ∀ (j : Nat) (o : Oper) cs b, ops[j]? = some o → o.op ≠ .select cs b)
    (hQ : ∀ c a w, q (.panic c) (a.put oi.dst v) w → q (.panic c) a w) :
    ∀ (fuel : Nat) (listed : Array Bool) (a : Act) (w : World),
      (∀ j oj, ops[j]? = some oj → j ≠ i → listed.getD j true = false → (∀ e ∈ oj.after, Region.binds md e = true → e.on ≠ i) → oi.apart ops oj = true) →
      i ∈ Region.ready md ops listed → iF P ops C oi v a → C w →
      rF P md ops C q fuel (listed.setIfInBounds i true) (a.put oi.dst v) w → rF P md ops C q (fuel + 1) listed a w := by
  intro fuel
  induction fuel with
  | zero =>
    intro listed a w _ hr hy hC H
    refine ⟨hC, fun h => (by rw [h] at hr; cases hr), fun j hj => ?_⟩
    by_cases hji : j = i
    · subst hji; exact hy.wpOp hi hC H
    · have := ready_mono hj hji
      rw [H.2.1] at this
      cases this
  | succ fuel ih =>
    intro listed a w hfree hr hy hC H
    refine ⟨hC, fun h => (by rw [h] at hr; cases hr), fun j hj => ?_⟩
    by_cases hji : j = i
    · subst hji; exact hy.wpOp hi hC H
    · have h1 := H.2.2 j (ready_mono hj hji)
      obtain ⟨hjun, oj, hoj, hall⟩ := mem_ready.1 hj
      have hnot : ∀ e ∈ oj.after, Region.binds md e = true → e.on ≠ i := fun e he hb heq => by
        have h1 := hall e he hb
        have h0 := (mem_ready.1 hr).1
        rw [heq] at h1
        rcases Nat.lt_or_ge i listed.size with h' | h'
        · simp [h'] at h0 h1; rw [h0] at h1; cases h1
        · simp [Array.getElem?_eq_none h'] at h1
      have h2 := IZ hoj (hfree j oj hoj hji hjun hnot) (fun cs b => hsel i oi cs b hi) (fun cs b => hsel j oj cs b hoj) hQ hy h1
      have hfree' : ∀ k ok, ops[k]? = some ok → k ≠ i → (listed.setIfInBounds j true).getD k true = false →
          (∀ e ∈ ok.after, Region.binds md e = true → e.on ≠ i) → oi.apart ops ok = true := fun k ok hk hki hun hno => by
        refine hfree k ok hk hki ?_ hno
        by_cases hjk : j = k
        · subst hjk; exact hjun
        · rw [getD_set_ne true hjk] at hun; exact hun
      refine wpOp_mono (fun a' w' h3 => ?_) h2
      have hrun : rF P md ops C q fuel ((listed.setIfInBounds j true).setIfInBounds i true) (a'.put oi.dst v) w' := by
        rw [Array.setIfInBounds_comm _ _ hji]
        exact h3.2
      exact ih (listed.setIfInBounds j true) a' w' hfree' (ready_mono hr (Ne.symm hji)) h3.1 (KG hrun) hrun
def WA (Mo : Mode) (P : Program) (K : World) (n : Nat) (F0 : List au) (ops : Array Oper) (Q : Post) (fuel : Nat) (listed : Array Bool) (e : Env) (H : List au) : Prop :=
  ∀ a w, Agree Mo n e a → Sat K w H → rF P .any ops (fun w => Sat K w F0) (lift Mo.round K n Q) fuel listed a w
theorem WC.dY {id : Nat} {l : List Oper} {ds : List Deferred} (F0 : List au) (hm : P.follows .mixedOrders = true) (h : WA ⟨none, ds⟩ P K n F0 l.toArray Q l.length (Array.replicate l.length false) e H) : WC ⟨none, ds⟩ P K n (.region id l.toArray true) Q e H := fun a w ha hw => by
  show (Code.region id l.toArray true).wp P _ a w
  refine wp_region_any hm (su (C := fun w => Sat K w F0) _ _ _ _ ?_)
  have := h a _ ha hw.drew
  simpa using this
theorem WC.xC {id : Nat} {l : List Oper} {ds : List Deferred} (hm : P.follows .mixedOrders = true) (h : WA ⟨none, ds⟩ P K n H l.toArray Q l.length (Array.replicate l.length false) e H) : WC ⟨none, ds⟩ P K n (.region id l.toArray true) Q e H := WC.dY H hm h
variable {F0 : List au}
theorem WA.done {fuel : Nat} {listed : Array Bool} (hr : Region.ready .any ops listed = []) (hF : ∀ w, Sat K w H → Sat K w F0) (h : Q Mo .normal e H) : WA Mo P K n F0 ops Q fuel listed e H := fun a w ha hw => by
  cases fuel with
  | zero => exact ⟨hF w hw, hr, Mo.ds, e, H, ha, hw, h⟩
  | succ fuel => exact ⟨hF w hw, fun _ => ⟨Mo.ds, e, H, ha, hw, h⟩, by rw [hr]; simp⟩
theorem WA.take {fuel : Nat} {listed : Array Bool} {d : Nat} {op : Op} {v : Value} (i : Nat) (hF : ∀ w, Sat K w H → Sat K w F0) (hi : ops[i]? = some ⟨some d, op, ty, pos, af, none⟩) (hs : Region.noSelect ops = true) (hf : Region.free .any ops listed i = true)
    (hr : (Region.ready .any ops listed).contains i = true) (hQ : ∀ c (p : Mode × Env) H, ¬ Q p.1 (.panic c) p.2 H) (hv : Val Mo P K n true e F0 ⟨some d, op, ty, pos, af, none⟩ v) (hd : Nat.blt d n = true)
    (h : WA Mo P K n F0 ops Q fuel (listed.setIfInBounds i true) ((d, v) :: e) H) : WA Mo P K n F0 ops Q (fuel + 1) listed e H := fun a w ha hw => by
  refine Bw hi (Region.noSelect_spec hs) (fun c a w hh => ?_) fuel listed a w (Region.free_spec hi hf) (by simpa using hr) (.inl ⟨rfl, fun w' hw' => hv rfl a w' ha hw'⟩) (hF w hw) (h _ w (ha.put d hd v) hw)
  obtain ⟨ds', e', H', _, _, h3⟩ := hh
  exact (hQ c (⟨Mo.round, ds'⟩, e') H' h3).elim
theorem WL.known {ops : Array Oper} {rest : List Oper} {j dj : Nat} {want : Bool} {oj : Oper} {op : Op} {gv : Value} (hj : ops[j]? = some oj) (hdj : oj.dst = some dj) (hl : look e dj = some gv) (hG : GC gv want true)
    (h : WL Mo P K n ops (⟨dst, op, ty, pos, af, none⟩ :: rest) Q e H) : WL Mo P K n ops (⟨dst, op, ty, pos, af, some (j, want)⟩ :: rest) Q e H := fun a w ha hw => by
  have h1 := h a w ha hw
  have hw' := Region.iI (o := ⟨dst, op, ty, pos, af, some (j, want)⟩) rfl hj hdj hl ha hG
  obtain ⟨r, ds⟩ := Mo
  cases r with
  | none =>
    have h2 : wpList P ops (lift none K n Q) (⟨dst, op, ty, pos, af, none⟩ :: rest) a w := h1
    show wpList P ops (lift none K n Q) (⟨dst, op, ty, pos, af, some (j, want)⟩ :: rest) a w
    unfold wpList at h2 ⊢
    rw [if_pos hw']
    rw [if_pos (by simp [Region.wanted])] at h2
    exact h2
  | some l =>
    have h2 : wpListIn (zu l) 0 P ops (lift (some l) K n Q) (⟨dst, op, ty, pos, af, none⟩ :: rest) a w := h1
    show wpListIn (zu l) 0 P ops (lift (some l) K n Q) (⟨dst, op, ty, pos, af, some (j, want)⟩ :: rest) a w
    unfold wpListIn at h2 ⊢
    rw [if_pos hw']
    rw [if_pos (by simp [Region.wanted])] at h2
    exact h2
theorem FY {ds : List Deferred} {o : Oper} {i : Nat} {R : Mode → Env → List au → Prop} {S : Act → World → Prop} (hi : ops[i]? = some o) (h : WL ⟨none, ds⟩ P K n ops [o] (Then R Q) e H) {a : Act} {w : World} (ha : Agree ⟨none, ds⟩ n e a) (hw : Sat K w H)
    (hS : ∀ a w ds' e' H', Agree ⟨none, ds'⟩ n e' a → Sat K w H' → R ⟨none, ds'⟩ e' H' → S a w) : wpOp P ops (lift none K n Q) i S a w := by
  have h1 : wpList P ops (lift none K n (Then R Q)) [o] a w := h a w ha hw
  unfold wpOp
  simp only [hi]
  unfold wpList at h1
  have hQ : ∀ x a w, lift none K n (Then R Q) x a w → (x = .normal → S a w) ∧ (x ≠ .normal → lift none K n Q x a w) := by
    rintro x a w ⟨ds', e', H', k1, k2, k3⟩
    cases x <;> first | exact ⟨fun _ => hS a w ds' e' H' k1 k2 k3, fun k => (k rfl).elim⟩ | exact ⟨(fun k => by cases k), fun _ => ⟨ds', e', H', k1, k2, k3⟩⟩
  split
  · rename_i hw'
    rw [if_pos hw'] at h1
    rcases h1 with h1 | ⟨h1, h2⟩
    · refine .inl ?_
      unfold Oper.wp at h1 ⊢
      generalize (execOp a.eval o).run P w = r at h1 ⊢
      cases r with
      | ok nx w' =>
        cases nx <;> simp only [Oper.upon] at h1 ⊢ <;> first
          | exact (hQ _ _ _ h1).1 rfl
          | exact h1
          | (refine h1.mono ?_
             rintro x w'' hx
             cases x <;> first
               | exact (hQ _ _ _ hx).1 rfl
               | exact (hQ _ _ _ hx).2 (by simp)
               | (obtain ⟨a2, w2, k⟩ := hx; exact ⟨a2, w2, (hQ _ _ _ k).2 (by simp)⟩))
          | exact h1.mono fun v w'' hx => (hQ _ _ _ hx).1 rfl
      | halt x w' =>
        cases x <;> simp only [Oper.upon] at h1 ⊢ <;> first
          | exact (hQ _ _ _ h1).2 (by simp)
          | exact h1
    · obtain ⟨a2, w2, k⟩ := h2
      exact .inr ⟨h1, a2, w2, (hQ _ _ _ k).2 (by simp)⟩
  · rename_i hw'
    rw [if_neg hw'] at h1
    exact (hQ _ _ _ h1).1 rfl
section
variable {ds : List Deferred}
theorem WA.step {fuel : Nat} {listed : Array Bool} {rs : List Nat} (hF : ∀ w, Sat K w H → Sat K w F0) (hr : Region.ready .any ops listed = rs) (hne : rs.isEmpty = false)
    (h : ∀ i ∈ rs, ∃ o, ops[i]? = some o ∧ WL ⟨none, ds⟩ P K n ops [o] (Then (fun Mo => WA Mo P K n F0 ops Q fuel (listed.setIfInBounds i true)) Q) e H) : WA ⟨none, ds⟩ P K n F0 ops Q (fuel + 1) listed e H := fun a w ha hw => by
  refine ⟨hF w hw, (fun h0 => by rw [hr] at h0; rw [h0] at hne; cases hne), fun i hi => ?_⟩
  rw [hr] at hi
  obtain ⟨o, h1, h2⟩ := h i hi
  exact FY h1 h2 ha hw fun a w ds' e' H' k1 k2 k3 => k3 a w k1 k2
theorem WA.one {fuel : Nat} {listed : Array Bool} {i : Nat} {o : Oper} (hF : ∀ w, Sat K w H → Sat K w F0) (hr : Region.ready .any ops listed = [i]) (hi : ops[i]? = some o)
    (h : WL ⟨none, ds⟩ P K n ops [o] (Then (fun Mo => WA Mo P K n F0 ops Q fuel (listed.setIfInBounds i true)) Q) e H) : WA ⟨none, ds⟩ P K n F0 ops Q (fuel + 1) listed e H :=
  WA.step hF hr rfl fun j hj => by simp at hj; subst hj; exact ⟨o, hi, h⟩
theorem WA.t {fuel : Nat} {listed : Array Bool} {d : Nat} {op : Op} {v : Value} (i : Nat) (hi : ops[i]? = some ⟨some d, op, ty, pos, af, none⟩) (hv : Val Mo P K n true e F0 ⟨some d, op, ty, pos, af, none⟩ v)
    (h : WA Mo P K n F0 ops Q fuel (listed.setIfInBounds i true) ((d, v) :: e) H) (hd : Nat.blt d n = true := by rfl) (hF : ∀ w, Sat K w H → Sat K w F0 := by intro w h; repeat (first | exact h | replace h := h.tail)) (hs : Region.noSelect ops = true := by kernel_rfl) (hf : Region.free .any ops listed i = true := by kernel_rfl)
    (hr : (Region.ready .any ops listed).contains i = true := by kernel_rfl) (hQ : ∀ c (p : Mode × Env) H, ¬ Q p.1 (.panic c) p.2 H := by exact fun _ _ _ h => h) : WA Mo P K n F0 ops Q (fuel + 1) listed e H := WA.take i hF hi hs hf hr hQ hv hd h
theorem WA.o {fuel : Nat} {listed : Array Bool} {o : Oper} (i : Nat) (hi : ops[i]? = some o) (h : WL ⟨none, ds⟩ P K n ops [o] (Then (fun Mo => WA Mo P K n F0 ops Q fuel (listed.setIfInBounds i true)) Q) e H)
    (hF : ∀ w, Sat K w H → Sat K w F0 := by intro w h; repeat (first | exact h | replace h := h.tail)) (hr : Region.ready .any ops listed = [i] := by kernel_rfl) : WA ⟨none, ds⟩ P K n F0 ops Q (fuel + 1) listed e H := WA.one hF hr hi h
theorem WA.fin {fuel : Nat} {listed : Array Bool} (h : Q Mo .normal e H) (hF : ∀ w, Sat K w H → Sat K w F0 := by intro w h; repeat (first | exact h | replace h := h.tail)) (hr : Region.ready .any ops listed = [] := by kernel_rfl) : WA Mo P K n F0 ops Q fuel listed e H := WA.done hr hF h
theorem WC.sr {id : Nat} {l : List Oper} {y : Code} (h : WL Mo P K n l.toArray l (Then (fun Mo => WC Mo P K n y Q) Q) e H) : WC Mo P K n (.seq (.region id l.toArray false) y) Q e H := WC.seq (WC.region h)
theorem WL.mv {rest : List Oper} {d : Nat} {x : Operand} {v : Value} (hx : Bt e x = some v) (hd : Nat.blt d n = true) (h : WL Mo P K n ops rest Q ((d, v) :: e) H) : WL Mo P K n ops (⟨some d, .move x, ty, pos, af, none⟩ :: rest) Q e H := WL.val (V.move (OV.p hx)) hd h
theorem WL.sg {rest : List Oper} {d : Nat} {x : Operand} {v : Value} (hx : Bt e x = some v) (hd : Nat.blt d n = true) (h : WL Mo P K n ops rest Q ((d, v) :: e) H) : WL Mo P K n ops (⟨some d, .assign x, ty, pos, af, none⟩ :: rest) Q e H := WL.val (V.assign (OV.p hx)) hd h
theorem WL.ld {rest : List Oper} {d : Nat} {x : Operand} {T : Nat} {q : Option Addr} {v : Value} (hT : L6 P T) (hx : Bt e x = some (.pointer q)) (hd : Nat.blt d n = true) (h : WL Mo P K n ops rest Q ((d, v) :: e) H) (hr : Rd K H q v := by repeat (first | exact Rd.here rfl | apply Rd.up)) : WL Mo P K n ops (⟨some d, .load T x, ty, pos, af, none⟩ :: rest) Q e H := WL.val (V.load hT (OV.p hx) (fun _ => hr)) hd h
theorem WL.xt {rest : List Oper} {d i : Nat} {x : Operand} {vs : List Value} {v : Value} (hx : Bt e x = some (.tuple vs.toArray)) (hv : vs[i]? = some v) (hd : Nat.blt d n = true) (h : WL Mo P K n ops rest Q ((d, v) :: e) H) : WL Mo P K n ops (⟨some d, .extract x i, ty, pos, af, none⟩ :: rest) Q e H := WL.val (V.extract (OV.p hx) hv) hd h
theorem WL.ad {rest : List Oper} {d t t' : Nat} {x y : Operand} {i j : Int} (hx : Bt e x = some (.int .i64 i)) (hy : Bt e y = some (.int .i64 j)) (hd : Nat.blt d n = true) (h : WL Mo P K n ops rest Q ((d, .int .i64 (i + j)) :: e) H) (hb : -9223372036854775808 ≤ i + j ∧ i + j ≤ 9223372036854775807 := by omega) : WL Mo P K n ops (⟨some d, .binOp .add t x y t', ty, pos, af, none⟩ :: rest) Q e H := WL.val (V.jO (OV.p hx) (OV.p hy) (fun _ => hb)) hd h
theorem WL.sb {rest : List Oper} {d t t' : Nat} {x y : Operand} {i j : Int} (hx : Bt e x = some (.int .i64 i)) (hy : Bt e y = some (.int .i64 j)) (hd : Nat.blt d n = true) (h : WL Mo P K n ops rest Q ((d, .int .i64 (i - j)) :: e) H) (hb : -9223372036854775808 ≤ i - j ∧ i - j ≤ 9223372036854775807 := by omega) : WL Mo P K n ops (⟨some d, .binOp .sub t x y t', ty, pos, af, none⟩ :: rest) Q e H := WL.val (V.wM (OV.p hx) (OV.p hy) (fun _ => hb)) hd h
theorem WL.nc {rest : List Oper} {d : Nat} {x : Operand} {p : Addr} (hx : Bt e x = some (.pointer (some p))) (hd : Nat.blt d n = true) (h : WL Mo P K n ops rest Q ((d, .pointer (some p)) :: e) H) : WL Mo P K n ops (⟨some d, .nilCheck x, ty, pos, af, none⟩ :: rest) Q e H := WL.val (V.nilCheck (OV.p hx)) hd h
theorem WA.two {fuel : Nat} {listed : Array Bool} {i j : Nat} {o o' : Oper} (hF : ∀ w, Sat K w H → Sat K w F0) (hr : Region.ready .any ops listed = [i, j]) (hi : ops[i]? = some o) (hj : ops[j]? = some o')
    (h : WL ⟨none, ds⟩ P K n ops [o] (Then (fun Mo => WA Mo P K n F0 ops Q fuel (listed.setIfInBounds i true)) Q) e H) (h' : WL ⟨none, ds⟩ P K n ops [o'] (Then (fun Mo => WA Mo P K n F0 ops Q fuel (listed.setIfInBounds j true)) Q) e H) : WA ⟨none, ds⟩ P K n F0 ops Q (fuel + 1) listed e H :=
  WA.step hF hr rfl fun k hk => by
    simp at hk
    rcases hk with rfl | rfl
    · exact ⟨o, hi, h⟩
    · exact ⟨o', hj, h'⟩
end
theorem WC.bU {x : Operand} {y z : Code} {t : Bool} (hc : Bt e x = some (.bool t)) (ht : t = true) (h : WC Mo P K n y Q e H) : WC Mo P K n (.cond x y z) Q e H := WC.cond hc (fun _ => h) (fun k => by rw [ht] at k; cases k)
theorem WC.aM {x : Operand} {y z : Code} {t : Bool} (hc : Bt e x = some (.bool t)) (ht : t = false) (h : WC Mo P K n z Q e H) : WC Mo P K n (.cond x y z) Q e H := WC.cond hc (fun k => by rw [ht] at k; cases k) (fun _ => h)
def Rounds (P : Program) (K : World) (n : Nat) (x : Code) (Q : Post) : Nat → Mode → Env → List au → Prop
  | 0, _, _, _ => False
  | m + 1, Mo, e, H => WC Mo P K n x (Then (Rounds P K n x Q m) Q) e H
theorem WC.rounds {x : Code} (m : Nat) (h : Rounds P K n x Q m Mo e H) : WC Mo P K n (.loop x) Q e H := fun a w ha hw => by
  refine Ew (fun j a w => ∃ ds e H, Rounds P K n x Q j ⟨Mo.round, ds⟩ e H ∧ Agree ⟨Mo.round, ds⟩ n e a ∧ Sat K w H) m ⟨Mo.ds, e, H, h, ha, hw⟩ ?_
  rintro j a w ⟨ds, e, H, h, ha, hw⟩
  cases j with
  | zero => exact h.elim
  | succ j =>
    have h1 := h a w ha hw
    have h2 : AX Mo P x (lift Mo.round K n (Then (Rounds P K n x Q j) Q)) a w := by
      obtain ⟨r, ds0⟩ := Mo
      cases r <;> exact h1
    refine oz h2 ?_
    rintro y a w ⟨ds', e', H', k1, k2, k3⟩
    cases y
    case normal => exact ⟨j, Nat.lt_succ_self _, ds', e', H', k3, k1, k2⟩
    all_goals exact ⟨ds', e', H', k1, k2, k3⟩
end
def Gets (cs : List Value) : Nat → List Value → Prop
  | _, [] => True
  | o, v :: vs => cs[o]? = some v ∧ Gets cs (o + 1) vs
theorem Gets.at_ {cs : List Value} : ∀ {vs : List Value} {o : Nat}, Gets cs o vs → ∀ i v, vs[i]? = some v → cs[o + i]? = some v
  | [], _, _, i, v, h => by simp at h
  | u :: us, o, hg, 0, v, h => by simp at h; subst h; exact hg.1
  | u :: us, o, hg, i + 1, v, h => by
    have := Gets.at_ hg.2 i v (by simpa using h)
    rwa [show o + (i + 1) = o + 1 + i by omega]
theorem aT.gets {K : World} {H : List au} {b T o : Nat} {cs vs : List Value} (h : Gets cs o vs) : aT K (Cells b T cs :: H) b o vs := fun i v hi => Rd.here (h.at_ i v hi)
theorem Ee {P : Program} {E s : Nat} {cs : List Value} {o : Nat} {vs : List Value} (hE : OQ P E s) (hl : vs.length = s) (hg : Gets cs o vs) : ∀ w, (part E cs.toArray o).run P w = .ok (.agg vs.toArray) w := by
  refine O6 hE ?_
  apply Array.ext_getElem?
  intro i
  rw [Array.getElem?_extract]
  by_cases hi : i < vs.length
  · have h1 := hg.at_ i vs[i] (by simp)
    have hsz : o + i < cs.length := by
      rcases Nat.lt_or_ge (o + i) cs.length with h | h
      · exact h
      · rw [List.getElem?_eq_none h] at h1; cases h1
    rw [if_pos (by simp; omega)]
    simp [h1]
  · have h2 : ¬ i < min (o + s) cs.toArray.size - o := by omega
    rw [if_neg h2]
    simp; omega
theorem look_eq {e : Env} {t : Nat} {v v' : Value} (h : look e t = some v) (he : v = v') : look e t = some v' := he ▸ h
theorem Sat.p1 {K w : World} {A B : au} {H : List au} (h : Sat K w (A :: B :: H)) : Sat K w (B :: A :: H) := Sat.pull 1 h
theorem Sat.p2 {K w : World} {A B C : au} {H : List au} (h : Sat K w (A :: B :: C :: H)) : Sat K w (C :: A :: B :: H) := Sat.pull 2 h
theorem Sat.drop2 {K w : World} {A B : au} {H : List au} (h : Sat K w (A :: B :: H)) : Sat K w (A :: H) := h.p1.tail
theorem Sat.aV {K w : World} {b T : Nat} {cs cs' : List Value} {H : List au} (h : Sat K w (Cells b T cs :: H)) (he : cs = cs') : Sat K w (Cells b T cs' :: H) := he ▸ h
theorem Seq.all {K : World} {H : List au} {b T m s : Nat} {cs : List Value} (hl : cs.length = m * s) : Seq K (Cells b T cs :: H) (some ⟨b, 0, none⟩) m s cs := Seq.here hl (by simp)
def ints (k : IntKind) (xs : List Int) : List Value := xs.map (Value.int k)
theorem bK (k : IntKind) (xs : List Int) : (ints k xs).length = xs.length := by simp [ints]
theorem mD (k : IntKind) (xs : List Int) {i : Nat} (h : i < xs.length) : (ints k xs)[i]? = some (.int k (xs.getD i 0)) := by simp [ints, h]
theorem bY (k : IntKind) (xs ys : List Int) : ints k (xs ++ ys) = ints k xs ++ ints k ys := by simp [ints]
theorem ow (k : IntKind) (xs : List Int) : ∀ u ∈ ints k xs, u.oneCell' = true := by simp [ints, Value.oneCell']
theorem Seq.fB {K : World} {H : List au} {A : Option Addr} {m : Nat} {k : IntKind} {xs : List Int} (h : Seq K H A m 1 (ints k xs)) {j : Int} (hj : 0 ≤ j ∧ j < (m : Int)) : Rd K H (A.map (·.add (j.toNat * 1))) (.int k (xs.getD j.toNat 0)) := by
  have hl : xs.length = m := by simpa [ints] using h.len
  have := h.rd j.toNat _ (mD k xs (by omega))
  simpa using this
theorem Seq.Np {K : World} {H : List au} {k : IntKind} : Seq K H none 0 1 (ints k []) := Seq.nil
theorem Seq.allI {K : World} {H : List au} {b T m : Nat} {k : IntKind} {xs : List Int} (hl : xs.length = m) : Seq K (Cells b T (ints k xs) :: H) (some ⟨b, 0, none⟩) m 1 (ints k xs) := Seq.all (by simp [ints, hl])
def Rg (tmps : Array Value) (r : ResultVar) : Sem Value := match r with | .tmp t => pure (tmps.getD t undef) | .cell x t => do loadVar t (← asAddr (tmps.getD x undef))
theorem yT (fn : Func) (tmps : Array Value) : results fn tmps = (do let vs ← fn.results.mapM (Rg tmps); pure (if h : vs.size = 1 then vs[0] else .tuple vs)) := rfl
def R1 (Mo : Mode) (P : Program) (K : World) (n : Nat) (r : ResultVar) (e : Env) (H : List au) (v : Value) : Prop :=
  ∀ a w, Agree Mo n e a → Sat K w H → (Rg a.tmps r).run P w = .ok v w
section
variable {Mo : Mode} {P : Program} {K : World} {n : Nat} {e : Env} {H : List au}
theorem R1.tmp {t : Tmp} {v : Value} (h : look e t = some v) : R1 Mo P K n (.tmp t) e H v := fun a w ha _ => by simp only [Rg, ha.at_ t v h]; rfl
theorem R1.gF {t T s b o : Nat} {vs : List Value} (h : look e t = some (ptr b o)) (hT : OQ P T s) (hs : vs.length = s) (hr : aT K H b o vs) : R1 Mo P K n (.cell t T) e H (.agg vs.toArray) := fun a w ha hw => by
  have h1 := run_loadCells_list (P := P) w ⟨b, o, none⟩ vs (fun j v hj => by
    obtain ⟨a', h1, h2⟩ := hr j v hj w hw
    injection h1 with h1; subst h1; rwa [gZ])
  subst hs
  simp only [Rg, ha.at_ t _ h]
  simp [asAddr, loadVar, hT.1 w, hT.2 w, h1]
theorem R1.cell1 {t T : Nat} {p : Option Addr} {v : Value} (h : look e t = some (.pointer p)) (hT : L6 P T) (hr : Rd K H p v) : R1 Mo P K n (.cell t T) e H v := fun a w ha hw => by
  obtain ⟨p', rfl, h2⟩ := hr w hw
  simp only [Rg, ha.at_ t _ h]
  simp [asAddr, loadVar, hT w, h2]
theorem aL.one {fn : Func} {r : ResultVar} {v : Value} (hr : fn.results = #[r]) (h : R1 Mo P K n r e H v) : aL Mo P K n fn e H v := fun a w ha hw => by
  rw [yT, hr]
  simp [h a w ha hw]
theorem aL.two {fn : Func} {r r' : ResultVar} {v v' : Value} (hr : fn.results = #[r, r']) (h : R1 Mo P K n r e H v) (h' : R1 Mo P K n r' e H v') : aL Mo P K n fn e H (.tuple #[v, v']) := fun a w ha hw => by
  rw [yT, hr]
  simp [h a w ha hw, h' a w ha hw]
end
section
variable {Mo : Mode} {P : Program} {K : World} {n : Nat} {Q : Post} {e : Env} {H : List au} {ty : TypeId} {pos : String} {af : Array Edge} {ops : Array Oper} {rest : List Oper}
theorem WL.l7 {d : Nat} {x y : Operand} {T E bytes m : Nat} {z : Value} {k k' : IntKind} {l q : Int} (hT : P.underlying T = some (.slice E)) (hE : fO P E 1 bytes z) (hx : OV true e x (.int k l)) (hy : OV true e y (.int k' q))
    (hl : l = (m : Int)) (hq : q = (m : Int)) (hb : (bytes : Int) * (m : Int) ≤ 281474976710656) (hbp : Nat.blt 0 bytes = true) (hz : z.cells = #[z]) (hd : Nat.blt d n = true)
    (h : ∀ b, WL Mo P K n ops rest Q ((d, .slice (some ⟨b, 0, none⟩) m m) :: e) (Cells b E (List.replicate m z) :: H)) :
    WL Mo P K n ops (⟨some d, .makeSlice T x y, ty, pos, af, none⟩ :: rest) Q e H := by
  obtain ⟨i, hi, hiz, hs, hby, hzs, h0⟩ := hE
  subst hl hq
  have Rl : 0 < bytes := by simpa using hbp
  have h63 : (m : Int) ≤ 9223372036854775807 := by
    have : (1 : Int) * (m : Int) ≤ (bytes : Int) * (m : Int) := Int.mul_le_mul_of_nonneg_right (by omega) (by omega)
    omega
  have hlist : (madeCells z.cells ((m : Int).toNat * i.size)).toList = List.replicate m z := by
    rw [hz, hs]
    apply List.ext_getElem
    · simp [madeCells]
    · intro j h1 h2
      simp [madeCells, Nat.mod_one]
  refine WL.makeSlice hT hi hiz hx hy (by omega) (Int.le_refl _) (by rw [hby]; exact hb) h63 hd (fun b => ?_)
  rw [hlist]
  exact h b
theorem WL.NI {d : Nat} {x y : Operand} {T E bytes : Nat} (m : Nat) {z : Value} {k k' : IntKind} {l q : Int} {cs : List Value} (hT : P.underlying T = some (.slice E)) (hE : fO P E 1 bytes z) (hx : OV true e x (.int k l)) (hy : OV true e y (.int k' q))
    (hl : l = (m : Int)) (hq : q = (m : Int)) (hb : (bytes : Int) * (m : Int) ≤ 281474976710656) (hbp : Nat.blt 0 bytes = true) (hz : z.cells = #[z]) (hc : List.replicate m z = cs) (hd : Nat.blt d n = true)
    (h : ∀ b, WL Mo P K n ops rest Q ((d, .slice (some ⟨b, 0, none⟩) m m) :: e) (Cells b E cs :: H)) :
    WL Mo P K n ops (⟨some d, .makeSlice T x y, ty, pos, af, none⟩ :: rest) Q e H := WL.l7 hT hE hx hy hl hq hb hbp hz hd (by rw [hc]; exact h)
end
section
variable {Mo : Mode} {P : Program} {K : World} {n : Nat} {Q : Post} {e : Env} {H : List au} {c : Bool} {dst : Option Tmp} {ty : TypeId} {pos : String} {af : Array Edge} {gd : Option (Nat × Bool)} {ops : Array Oper} {rest : List Oper}
theorem plain_of_cell {w : World} {a : Addr} {v : Value} (h : w.cell? a = some v) : a = ⟨a.block, a.off, none⟩ := by
  cases a with
  | mk b o s =>
    cases s with
    | none => rfl
    | some x =>
      unfold World.cell? at h
      split at h <;> simp at h
theorem V.tC {x : Operand} {S T E m cap : Nat} {A : Option Addr} {xs : List Int} (hS : P.underlying S = some (.slice E)) (hE : P.underlying E = some (.int .u8)) (hT : P.underlying T = some .string) (hx : OV c e x (.slice A m cap))
    (hs : c = true → Seq K H A m 1 (ints .u8 xs)) : Val Mo P K n c e H ⟨dst, .convert S T x, ty, pos, af, gd⟩ (.string (strOfNums xs)) := fun hc a w ha hw => by
  show ((do pure (Next.value (← convert S T (a.eval x)))) : Sem Next).run P w = _
  rw [hx.ev hc ha]
  have hq := hs hc
  have hl : xs.length = m := by simpa [ints] using hq.len
  have hrun : (convert S T (.slice A m cap)).run P w = .ok (.string (strOfNums xs)) w := by
    cases A with
    | none =>
      have : xs = [] := by
        cases xs with
        | nil => rfl
        | cons y ys => obtain ⟨p, k1, _⟩ := hq.rd 0 _ rfl w hw; simp at k1
      subst this
      exact run_convert_bytes_nil w S E hS hE m cap T hT
    | some p =>
      rcases Nat.eq_zero_or_pos m with h0 | h0
      · subst h0
        have : xs = [] := List.eq_nil_of_length_eq_zero hl
        subst this
        simp [convert, run_underlying hS, run_underlying hE, run_underlying hT, Conv.bytesToString, loadCells, loadCellsFrom, strOfNums, ByteArray.empty, ByteArray.emptyWithCapacity]
        try rfl
      · have hcell : ∀ i, i < m → w.cell? (p.add i) = some (.int .u8 (xs.getD i 0)) := fun i hi => by
          obtain ⟨q, k1, k2⟩ := hq.rd i _ (mD .u8 xs (by omega)) w hw
          simp at k1; subst k1; exact k2
        have hp := plain_of_cell (by have := hcell 0 h0; rwa [show p.add 0 = p from rfl] at this)
        rw [hp]
        refine run_convert_bytes_arg w S E hS hE p.block p.off m cap xs hl (fun i hi => ?_) T hT
        have := hcell i hi
        rw [hp, gZ] at this
        exact this
  simp [hrun]
def aZ (xs : List Int) : Prop := ∀ x ∈ xs, 0 ≤ x ∧ x < 256
theorem aZ.at_ {xs : List Int} (h : aZ xs) (i : Nat) : 0 ≤ xs.getD i 0 ∧ xs.getD i 0 < 256 := by
  by_cases hi : i < xs.length
  · have := h xs[i] (by simp)
    simpa [List.getD, hi] using this
  · simp [List.getD, List.getElem?_eq_none (Nat.le_of_not_lt hi)]
theorem aZ.wide {xs : List Int} (h : aZ xs) (i : Nat) : -9223372036854775808 ≤ xs.getD i 0 ∧ xs.getD i 0 ≤ 9223372036854775807 := by have := h.at_ i; omega
theorem z8 {xs ys : List Int} (hx : aZ xs) (hy : aZ ys) (h : (strOfNums xs).data.toList = (strOfNums ys).data.toList) : xs = ys := by
  simp only [strOfNums_data] at h
  induction xs generalizing ys with
  | nil => cases ys with
    | nil => rfl
    | cons y ys => simp at h
  | cons x xs ih =>
    cases ys with
    | nil => simp at h
    | cons y ys =>
      simp only [List.map_cons, List.cons.injEq] at h
      obtain ⟨h1, h2⟩ := h
      have e1 := hx x (by simp)
      have e2 := hy y (by simp)
      have h3 := congrArg UInt8.toNat h1
      simp only [UInt8.toNat_ofNat'] at h3
      have : x = y := by omega
      subst this
      rw [ih (fun z hz => hx z (by simp [hz])) (fun z hz => hy z (by simp [hz])) h2]
theorem str_eq {xs ys : List Int} (hx : aZ xs) (hy : aZ ys) : ((strOfNums xs).toList == (strOfNums ys).toList) = decide (xs = ys) := by
  have hl : ∀ b : ByteArray, b.toList = b.data.toList := fun b => ByteArray.toList_eq b
  rw [hl, hl, Bool.eq_iff_iff]
  simp only [beq_iff_eq, decide_eq_true_eq]
  exact ⟨z8 hx hy, fun h => by rw [h]⟩
theorem WL.Lv {d : Nat} {x : Operand} {s : ByteArray} {T T' E b o dl dc : Nat} {news : List Value} {H' : List au} (hT : iX P T E 1) (hx : OV true e x (.slice (some ⟨b, o, none⟩) dl dc))
    (hn : s.data.toList.map (fun b => Value.int .u8 b.toNat) = news) (hl : Nat.ble s.size dl = true) (hu : aQ K H b o news H') (hd : Nat.blt d n = true)
    (h : WL Mo P K n ops rest Q ((d, .int .i64 (news.length : Int)) :: e) H') : WL Mo P K n ops (⟨some d, .call ⟨.builtin .copy, #[x, .const (.string s)], #[T, T']⟩, ty, pos, af, none⟩ :: rest) Q e H := by
  refine WL.Jr (R := fun v xE => v = .int .i64 (news.length : Int) ∧ xE = H') (fun a w ha hw => ?_) hd (fun v xE ⟨e1, e2⟩ => by subst e1 e2; exact h)
  have h1 : ∀ v ∈ news, v.oneCell' = true := by rw [← hn]; simp [Value.oneCell']
  obtain ⟨k1, k2⟩ := hu.run (P := P) hw h1
  refine ⟨_, _, H', ?_, k2, rfl, rfl⟩
  have hlen : news.length = s.size := by rw [← hn, List.length_map]; rfl
  have hl' : s.size ≤ dl := by simpa using hl
  have ht : List.take s.size (List.map (fun b : UInt8 => Value.int .u8 b.toNat) s.data.toList) = news := by rw [hn]; exact List.take_of_length_le (by omega)
  have hm : s.size.min dl = s.size := Nat.min_eq_left hl'
  rw [execOp_builtin, builtin_copy]
  have Ey := hx.ev rfl ha
  have Ij : a.eval (.const (.string s)) = .string s := rfl
  simp [Builtin.copy_, Ey, Ij, hT.1 w, hT.2 w, Builtin.lenOf, Builtin.firstCells, hm, ht, k1, goInt, hlen]
theorem WL.qA {d : Nat} {x y : Operand} {T E s bytes m q cap cap' : Nat} {z : Value} {cs news : List Value} {A B : Option Addr} (hT : P.underlying T = some (.slice E)) (hE : fO P E s bytes z) (hx : OV true e x (.slice A m cap)) (hy : OV true e y (.slice B q cap'))
    (hs : Seq K H A m s cs) (hn : Seq K H B q s news) (hroom : cap < m + q) (hm0 : 0 < m) (hq0 : 0 < q) (hb : (m + q) * bytes ≤ 140737488355328) (hby : Nat.blt 0 bytes = true) (hd : Nat.blt d n = true)
    (h : ∀ A cap, (A = none → m + q = 0 ∧ cap = 0) → m + q ≤ cap → WL Mo P K n ops rest Q ((d, .slice A (m + q) cap) :: e) (bC (.slice A (m + q) cap) E s (m + q) (cs ++ news) :: H)) :
    WL Mo P K n ops (⟨some d, .call ⟨.builtin .append, #[x, y], #[T, T]⟩, ty, pos, af, none⟩ :: rest) Q e H := by
  refine WL.Jr (R := fun u H' => ∃ A cap, u = .slice A (m + q) cap ∧ (A = none → m + q = 0 ∧ cap = 0) ∧ m + q ≤ cap ∧ H' = bC (.slice A (m + q) cap) E s (m + q) (cs ++ news) :: H) (fun a w ha hw => ?_) hd (fun u H' ⟨A, cap, e1, e2, e3, e4⟩ => by subst e1 e4; exact h A cap e2 e3)
  obtain ⟨i, hi, hz, hs', J6, hzs, h0⟩ := hE
  have hbp : 0 < bytes := by simpa using hby
  have hle : m + q ≤ 140737488355328 := Nat.le_trans (Nat.le_mul_of_pos_right _ hbp) hb
  have hmax : m + q ≤ maxLen := by simp only [maxLen]; omega
  have Ey := hx.ev rfl ha
  have Ij := hy.ev rfl ha
  have hcs : 0 < cs.length := by rw [hs.len]; exact Nat.mul_pos hm0 h0
  have hns : 0 < news.length := by rw [hn.len]; exact Nat.mul_pos hq0 h0
  obtain ⟨pa, rfl, _⟩ := hs.cell hw (i := 0) (v := cs[0]) (by simp)
  obtain ⟨pb, rfl, _⟩ := hn.cell hw (i := 0) (v := news[0]) (by simp)
  have holds : ∀ j v, cs[j]? = some v → w.cell? (pa.add j) = some v := fun j v hj => by
    obtain ⟨p, k1, k2⟩ := hs.cell hw hj
    simp at k1; subst k1; exact k2
  have hnews : ∀ j v, news[j]? = some v → w.cell? (pb.add j) = some v := fun j v hj => by
    obtain ⟨p, k1, k2⟩ := hn.cell hw hj
    simp at k1; subst k1; exact k2
  subst hs' J6
  have hr := run_append_grow (P := P) w T ty E i z hT hi hz pa m cap cs hs.len holds pb q cap' news hn.len hnews hroom (by omega) (growslice_fits hroom hb)
  have hge := grownCap_ge w (m + q) cap E
  have hcm := grownCap_le_maxLen w (m + q) cap E hmax
  have hlen : (cs ++ news).length = (m + q) * i.size := by rw [List.length_append, hs.len, hn.len, Nat.add_mul]
  refine ⟨.slice (some ⟨w.heap.size, 0, none⟩) (m + q) (grownCap w (m + q) cap E), w.drew.alloc (.cells (cs.toArray ++ news.toArray ++ Builtin.zeroCells z.cells (grownCap w (m + q) cap E - (m + q))) E),
    bC (.slice (some ⟨w.heap.size, 0, none⟩) (m + q) (grownCap w (m + q) cap E)) E i.size (m + q) (cs ++ news) :: H, ?_, ⟨hw.1.grow rfl rfl rfl (by simp), ?_⟩, _, _, rfl, (fun h => by simp at h), hge, rfl⟩
  · rw [execOp_builtin, builtin_append]
    simp only [List.map_toArray, List.map_cons, List.map_nil, Ey, Ij, Sem.run_bind, hr, Result.andThen_ok, Sem.run_pure]
  · refine hw.2.push (by simp) (fun b hb' => ?_) ?_ (fun b hb' => ?_)
    · exact heap_alloc_old w.drew _ hb'
    · refine ⟨hlen, .inr ⟨w.heap.size, _, _, rfl, Nat.zero_le _, heap_alloc_new w.drew _, hge, hcm, ?_, ?_⟩⟩
      · simp only [Array.size_append, List.size_toArray, size_zeroCells, hzs, hs.len, hn.len, ← Nat.add_mul]
        congr 1
        omega
      · simp only [Array.toList_append, List.append_assoc]
        rw [← List.append_assoc, ← hlen]
        exact List.take_left
    · simp [bC, Value.ownBlock] at hb'
      subst hb'
      simp
def yM (b T : Nat) (cs : List Value) : au where
  foot x := x = b
  holds w := ∃ fr, w.heap[b]? = some (.cells cs.toArray T fr)
  loc w w' h hw := by rw [h b rfl]; exact hw
theorem Rd.Pg {b T o : Nat} {cs : List Value} {v : Value} (h : cs[o]? = some v) : Rd K (yM b T cs :: H) (some ⟨b, o, none⟩) v := fun w hw => by
  refine ⟨_, rfl, ?_⟩
  obtain ⟨fr, this⟩ := hw.head
  simp [World.cell?, this, h]
theorem Seq.PI {b T m s : Nat} {cs : List Value} (hl : cs.length = m * s) : Seq K (yM b T cs :: H) (some ⟨b, 0, none⟩) m s cs := ⟨hl, fun i v hi => by
  have := Rd.Pg (K := K) (H := H) (b := b) (T := T) (o := i) hi
  simpa [gZ] using this⟩
theorem WL.K3 {d : Nat} {x : Operand} {T E b m cap : Nat} {cs : List Value} (hT : P.underlying T = some (.slice E)) (hE : P.underlying E = some (.int .u8)) (hx : OV true e x (.slice (some ⟨b, 0, none⟩) m cap)) (hd : Nat.blt d n = true)
    (h : WL Mo P K n ops rest Q ((d, .slice (some ⟨b, 0, none⟩) m cap) :: e) (yM b E cs :: H)) :
    WL Mo P K n ops (⟨some d, .convert T T x, ty, pos, af, none⟩ :: rest) Q e (Cells b E cs :: H) := by
  refine WL.Jr (R := fun u H' => u = .slice (some ⟨b, 0, none⟩) m cap ∧ H' = yM b E cs :: H) (fun a w ha hw => ?_) hd (fun u H' ⟨e1, e2⟩ => by subst e1 e2; exact h)
  have hb := hw.head
  simp only [Cells] at hb
  have hsh : w.shape? b = some (E, cs.length) := by simp [World.shape?, hb]
  refine ⟨_, w.freeze ⟨b, cs.length, none⟩ 1, _, ?_, ⟨hw.1.grow ?_ ?_ ?_ ?_, ?_⟩, rfl, rfl⟩
  · show ((do pure (Next.value (← convert T T (a.eval x)))) : Sem Next).run P w = _
    rw [hx.ev rfl ha]
    simp [convert, run_underlying hT, run_underlying hE, markStringish, hsh]
  · simp [World.freeze]
  · simp [World.freeze]
  · simp [World.freeze]
  · simp [World.freeze]
  · refine hw.2.set (A' := yM b E cs) (by simp [World.freeze]) (fun k hk _ => ?_) ?_ (fun k hk => .inl hk)
    · have : b ≠ k := fun h => hk h.symm
      simp [World.freeze, Array.getElem?_modify, this]
    · refine ⟨(cs.length, cs.length + 1), ?_⟩
      simp [World.freeze, Array.getElem?_modify, hb]
end
theorem WC.BD {α : Type} {Mo : Mode} {P : Program} {K : World} {n : Nat} {Q : Post} {e : Env} {H : List au} {code : Code} (P' : α → Prop) (E : α → Env) (M : α → List au) (a : α) (ha : P' a) (hE : Sub (E a) e) (hM : ∀ w, Sat K w H → Sat K w (M a))
    (h : ∀ a, P' a → WC Mo P K n code Q (E a) (M a)) : WC Mo P K n code Q e H := WC.sub hE hM (h a ha)
end Go.Sl
