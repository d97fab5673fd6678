/- The symbolic executor: a region that draws its order, in a round of a range over a function or in an iterator. -/
import Derived.Test.YtcmojpiokjhmhaaSlR
import Derived.OrdersIn
namespace Go.Sl
open Go.RowKit Go.BigFrame
set_option linter.unusedVariables false
set_option linter.unusedSimpArgs false

def noDefer (ops : Array Oper) : Bool := ops.all fun o => match o.op with | .defer _ => false | _ => true
theorem noDefer_spec {ops : Array Oper} (h : noDefer ops = true) {i : Nat} {o : Oper} (hi : ops[i]? = some o) : ∀ c, o.op ≠ .defer c := fun c hc => by
  unfold noDefer at h
  rw [Array.all_eq_true_iff_forall_mem] at h
  have h1 := h o (Array.mem_of_getElem? hi)
  rw [hc] at h1
  cases h1
section
variable {P : Program} {q : Exit → Act → World → Prop} {ops : Array Oper} {md : Region.Mode} {l : Option Nat}
theorem upon_in {o : Oper} {a : Act} {K : Act → World → Prop} {x : Result Next} (h : o.upon P a K q x) : o.uponIn (inF l) 0 P a K q x := by
  cases x with
  | ok nx w' =>
    cases nx <;> simp only [Oper.upon, Oper.uponIn] at h ⊢ <;> first
      | exact h
      | exact ⟨inF_depth l, inF_calls.2 h⟩
      | (refine ⟨inF_depth l, fun c cs _ => ?_⟩
         obtain ⟨v, w'', h1, h2⟩ := h c cs
         refine ⟨v, w'', h1, ?_⟩
         cases l
         · exact stepsIn_wide.2 h2
         · rw [fenced_inRound]; exact stepsIn_wide.2 h2)
  | halt x w' => cases x <;> simp only [Oper.upon, Oper.uponIn] at h ⊢ <;> exact h
theorem wpOp_in (hnd : noDefer ops = true) (hlo : ¬ LetsOut q) {i : Nat} {S S' : Act → World → Prop} (hS : ∀ a w, S a w → S' a w) {a : Act} {w : World} (h : wpOp P ops q i S a w) : wpOpIn (inF l) 0 P ops q i S' a w := by
  unfold wpOp at h
  unfold wpOpIn
  cases ho : ops[i]? with
  | none => rw [ho] at h; exact hS _ _ h
  | some o =>
    rw [ho] at h
    dsimp only at h ⊢
    split at h
    · rename_i hw
      rw [if_pos hw]
      rcases h with h | ⟨_, h⟩
      · refine ⟨fun f _ => inF_fn _ f, ?_⟩
        rw [Oper.semAt_eq _ _ _ (noDefer_spec hnd ho)]
        exact upon_in (Oper.wp_mono hS h)
      · exact absurd h hlo
    · rename_i hw
      rw [if_neg hw]
      exact ⟨fun f _ => inF_fn _ f, hS _ _ h⟩
theorem wpAny_in (hnd : noDefer ops = true) (hlo : ¬ LetsOut q) : ∀ (fuel : Nat) (listed : Array Bool) (a : Act) (w : World), wpAny P md ops q fuel listed a w → wpAnyIn (inF l) 0 P md ops q fuel listed a w
  | 0, _, _, _, h => h
  | fuel + 1, _, _, _, h => ⟨h.1, fun i hi => wpOp_in hnd hlo (fun a w hh => wpAny_in hnd hlo fuel _ a w hh) (h.2 i hi)⟩
end
/-- What stands behind, seen from a run outside of a round. -/
abbrev inR (l : Option Nat) (Q : Post) : Post := fun Mo x e H => Q ⟨some l, Mo.ds⟩ x e H
section
variable {K : World} {H : List Assn} {P : Program} {n : Nat} {e : Env} {Q : Post}
theorem lift_inR {l : Option Nat} {x : Exit} {a : Act} {w : World} (h : lift none K n (inR l Q) x a w) : lift (some l) K n Q x a w := by
  obtain ⟨ds, e, H, h1, h2, h3⟩ := h
  exact ⟨ds, e, H, ⟨h1.defers, h1.size, h1.at_⟩, h2, h3⟩
theorem WC.regionAR {l : Option Nat} {id : Nat} {os : List Oper} {ds : List Deferred} (F0 : List Assn) (hm : P.follows .mixedOrders = true) (h : WA ⟨none, ds⟩ P K n F0 os.toArray (inR l Q) os.length (Array.replicate os.length false) e H)
    (hnd : noDefer os.toArray = true := by kernel_rfl) (hlo : ∀ (p : Mode × Env) H, ¬ Q p.1 .outgrown p.2 H := by exact fun _ _ h => h) : WC ⟨some l, ds⟩ P K n (.region id os.toArray true) Q e H := fun a w ha hw => by
  show (Code.region id os.toArray true).wpIn (inF l) 0 P _ a w
  have hl : ¬ LetsOut (lift none K n (inR l Q)) := by
    rintro ⟨a, w, ds', e', H', _, _, h3⟩
    exact hlo (⟨some l, ds'⟩, e') H' h3
  have h1 := h a _ ⟨ha.defers, ha.size, ha.at_⟩ hw.drew
  have h2 := wpAny_in (l := l) hnd hl _ _ _ _ (wpAny_of_C (C := fun w => Sat K w F0) _ _ _ _ h1)
  have h3 : (Code.region id os.toArray true).wpIn (inF l) 0 P (lift none K n (inR l Q)) a w := wpIn_region_any hm (by simpa using h2)
  exact wpIn_mono h3 fun x a w h => lift_inR h
theorem WC.regionHR {l : Option Nat} {id : Nat} {os : List Oper} {ds : List Deferred} (hm : P.follows .mixedOrders = true) (h : WA ⟨none, ds⟩ P K n H os.toArray (inR l Q) os.length (Array.replicate os.length false) e H)
    (hnd : noDefer os.toArray = true := by kernel_rfl) (hlo : ∀ (p : Mode × Env) H, ¬ Q p.1 .outgrown p.2 H := by exact fun _ _ h => h) : WC ⟨some l, ds⟩ P K n (.region id os.toArray true) Q e H := WC.regionAR H hm h hnd hlo
theorem WC.regionQR {l : Option Nat} {id : Nat} {os : List Oper} {ds : List Deferred} (hm : P.follows .mixedOrders = true) (hB : Region.lexB .any os.toArray = true) (h : WQ ⟨none, ds⟩ P K n os.toArray os (fun e' => Q ⟨some l, ds⟩ .normal e' H) e H)
    (hnd : noDefer os.toArray = true := by kernel_rfl) (hlo : ∀ (p : Mode × Env) H, ¬ Q p.1 .outgrown p.2 H := by exact fun _ _ h => h) : WC ⟨some l, ds⟩ P K n (.region id os.toArray true) Q e H := fun a w ha hw => by
  show (Code.region id os.toArray true).wpIn (inF l) 0 P _ a w
  have hl : ¬ LetsOut (lift none K n (inR l Q)) := by
    rintro ⟨a, w, ds', e', H', _, _, h3⟩
    exact hlo (⟨some l, ds'⟩, e') H' h3
  have h1 := h a ⟨ha.defers, ha.size, ha.at_⟩
  simp only [Region.lexB, Bool.and_eq_true] at hB
  have h2 : wpAny P .any os.toArray (lift none K n (inR l Q)) os.toArray.size (Array.replicate os.toArray.size false) a { w with drawn := w.drawn + 1 } := by
    refine wpAny_of_quiet (C := fun w => Sat K w H) (Q := fun a' => ∃ e', Agree ⟨none, ds⟩ n e' a' ∧ Q ⟨some l, ds⟩ .normal e' H) (fun a' w' hw' ⟨e', k1, k2⟩ => ⟨ds, e', H, k1, hw', k2⟩) _ _ _ _ hw.drew ?_
    have := wpAnyQ_lex (C := fun w => Sat K w H) (md := .any) hB.1 os.toArray.toList 0 (Array.replicate os.toArray.size false) a (by simp) (by simpa using hB.2) (by simpa using h1)
    simpa using this
  have h3 : (Code.region id os.toArray true).wpIn (inF l) 0 P (lift none K n (inR l Q)) a w := wpIn_region_any hm (wpAny_in hnd hl _ _ _ _ h2)
  exact wpIn_mono h3 fun x a w h => lift_inR h
/-- A call behind a guard that turns memory: where the guard says no, memory is as it was. -/
theorem WL.callGD {Mo : Mode} {ops : Array Oper} {rest : List Oper} {ty : TypeId} {pos : String} {af : Array Edge} {d j dj : Nat} {want : Bool} {oj : Oper} {f : FuncId} {xs : List Operand} {vs : List Value} {ats : Array TypeId} {v gv : Value} {c : Bool} {R : List Assn → Prop}
    (hj : ops[j]? = some oj) (hdj : oj.dst = some dj) (hl : look e dj = some gv) (hG : GC gv want c) (hf : Callable P f) (hxs : OVs c e xs vs) (hF : c = true → Does P f vs.toArray K H (fun u H' => u = v ∧ R H')) (h0 : c = false → R H) (hd : Nat.blt d n = true)
    (h : ∀ H', R H' → WL Mo P K n ops rest Q ((d, cv c v) :: e) H') : WL Mo P K n ops (⟨some d, .call ⟨.value (.func f), xs.toArray, ats⟩, ty, pos, af, some (j, want)⟩ :: rest) Q e H := fun a w ha hw => by
  have hw' := Region.wanted_iff (o := ⟨some d, .call ⟨.value (.func f), xs.toArray, ats⟩, ty, pos, af, some (j, want)⟩) rfl hj hdj hl ha hG
  cases c with
  | false => exact lwp_unwanted hw' (h _ (h0 rfl) _ w (ha.put d hd _) hw)
  | true =>
    refine lwp_wanted hw' fun S hS => owp_enter (run_call hf (hxs.ev ha rfl)) ((hF rfl w hw).mono ?_)
    rintro _ w' ⟨u, H', rfl, h2, rfl, h3⟩
    exact ⟨_, rfl, hS _ _ (h H' h3 _ w' (ha.put d hd _) h2)⟩
end
/-- Ways that part and meet again: the first code comes to what is said, the rest starts from it. -/
def Joined {σ : Type} (M0 : Mode) (K : World) (E : σ → Env) (M : σ → List Assn) (J : σ → Prop) (Q : Post) : Post
  | Mo, .normal, e, H => Mo = M0 ∧ ∃ s, J s ∧ Sub (E s) e ∧ ∀ w, Sat K w H → Sat K w (M s)
  | Mo, x, e, H => Q Mo x e H
theorem WC.join {Mo : Mode} {P : Program} {K : World} {n : Nat} {Q : Post} {e : Env} {H : List Assn} {x y : Code} {σ : Type} (E : σ → Env) (M : σ → List Assn) (J : σ → Prop)
    (hx : WC Mo P K n x (Joined Mo K E M J Q) e H) (hy : ∀ s, J s → WC Mo P K n y Q (E s) (M s)) : WC Mo P K n (.seq x y) Q e H :=
  WC.seq (WC.mono hx fun Mo' x e H h => by
    cases x
    case normal =>
      obtain ⟨rfl, s, hs, hE, hM⟩ := h
      exact WC.sub hE hM (hy s hs)
    all_goals exact h)
end Go.Sl
