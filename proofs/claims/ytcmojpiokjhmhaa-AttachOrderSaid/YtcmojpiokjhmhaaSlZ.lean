/- The symbolic executor, its ground: a body's run outside of a loop over a function, and in a round of one. -/
import Derived.WalkKit
import Derived.Deep.Quiet
import Derived.Deep.LoopGhost
import Derived.CallsIn
import Derived.TacticsIn
import Derived.LoopNIn
import Derived.Sort.LoopGhostIn
namespace Go.Sl
open Go.RowKit
set_option linter.unusedVariables false

/-- Where code runs: in a function's own frame, or in a round of a loop over a function; the calls that were put off. -/
structure Mode where
  round : Option (Option Nat)
  ds : List Deferred
abbrev inF : Option Nat → Fence
  | none => Fence.wide
  | some l => Fence.wide.inRound l
theorem inF_fn (r : Option Nat) (f : FuncId) : (inF r).fn f := by cases r <;> trivial
theorem inF_calls {r : Option Nat} {P : Program} {f : FuncId} {args : Array Value} {w : World} {R : Ending → World → Prop} : CallsIn (inF r) 0 P f args w R ↔ Calls P f args w R := by
  cases r
  · exact callsIn_wide
  · exact callsIn_wide (n := 0)
theorem inF_depth (r : Option Nat) : (inF r).depth.isSome = true → 1 ≤ 0 := by cases r <;> intro h <;> cases h
def cwp (M : Mode) (P : Program) (c : Code) (q : Exit → Act → World → Prop) (a : Act) (w : World) : Prop :=
  match M.round with | none => c.wp P q a w | some l => c.wpIn (inF l) 0 P q a w
def lwp (M : Mode) (P : Program) (ops : Array Oper) (q : Exit → Act → World → Prop) (rest : List Oper) (a : Act) (w : World) : Prop :=
  match M.round with | none => wpList P ops q rest a w | some l => wpListIn (inF l) 0 P ops q rest a w
def owp (M : Mode) (P : Program) (o : Oper) (a : Act) (w : World) (K : Act → World → Prop) (q : Exit → Act → World → Prop) : Prop :=
  match M.round with | none => o.wp P a w K q | some l => o.wpIn (inF l) 0 P a w K q

section
variable {M : Mode} {P : Program} {q : Exit → Act → World → Prop} {a : Act} {w : World}
theorem cwp_mono {c : Code} {q' : Exit → Act → World → Prop} (h : cwp M P c q a w) (hq : ∀ x a w, q x a w → q' x a w) : cwp M P c q' a w := by
  obtain ⟨r, g⟩ := M; cases r
  · exact wp_mono h hq
  · exact wpIn_mono h hq
theorem cwp_skip (h : q .normal a w) : cwp M P .skip q a w := by
  obtain ⟨r, g⟩ := M; cases r
  · exact wp_skip h
  · exact wpIn_skip h
theorem cwp_label {l : Nat} (h : q .normal a w) : cwp M P (.label l) q a w := by
  obtain ⟨r, g⟩ := M; cases r
  · exact wp_label h
  · exact wpIn_label h
theorem cwp_exit {id : Nat} (h : q (.exit id) a w) : cwp M P (.exit id) q a w := by
  obtain ⟨r, g⟩ := M; cases r
  · exact wp_exit h
  · exact wpIn_exit h
theorem cwp_goto {l : Nat} (h : q (.goto l) a w) : cwp M P (.goto l) q a w := by
  obtain ⟨r, g⟩ := M; cases r
  · exact wp_goto h
  · exact wpIn_goto h
theorem cwp_ret (h : q .ret a w) : cwp M P .ret q a w := by
  obtain ⟨r, g⟩ := M; cases r
  · exact wp_ret h
  · exact wpIn_ret h
theorem cwp_seq {x y : Code} (h : cwp M P x (fun e a w => match e with | .normal => cwp M P y q a w | e => q e a w) a w) : cwp M P (.seq x y) q a w := by
  obtain ⟨r, g⟩ := M; cases r
  · exact wp_seq (wp_mono h fun e a w h => by cases e <;> exact h)
  · exact wpIn_seq (wpIn_mono h fun e a w h => by cases e <;> exact h)
theorem cwp_block {id : Nat} {c : Code} (h : cwp M P c (fun e a w => match e with | .exit i => if i = id then q .normal a w else q (.exit i) a w | e => q e a w) a w) : cwp M P (.block id c) q a w := by
  obtain ⟨r, g⟩ := M; cases r
  · refine wp_block (wp_mono h fun e a w h => ?_)
    cases e <;> first | exact h | (simp only [Exit.inBlock] at h ⊢; split <;> simp_all)
  · refine wpIn_block (wpIn_mono h fun e a w h => ?_)
    cases e <;> first | exact h | (simp only [Exit.inBlock] at h ⊢; split <;> simp_all)
theorem cwp_cond {c : Operand} {x y : Code} {t : Bool} (hc : a.eval c = .bool t) (ht : t = true → cwp M P x q a w) (hf : t = false → cwp M P y q a w) : cwp M P (.cond c x y) q a w := by
  obtain ⟨r, g⟩ := M; cases r
  · exact wp_cond_split hc ht hf
  · exact wpIn_cond_split hc ht hf
theorem cwp_region {id : Nat} {l : List Oper} (h : lwp M P l.toArray q l a w) : cwp M P (.region id l.toArray false) q a w := by
  obtain ⟨r, g⟩ := M; cases r
  · exact wp_region_lit h
  · exact wpIn_region_lit h
theorem cwp_loop {c : Code} (I : Nat → Act → World → Prop) (m : Nat) (h0 : I m a w) (h : ∀ m a w, I m a w → cwp M P c (fun e a w => match e with | .normal => ∃ m', m' < m ∧ I m' a w | e => q e a w) a w) : cwp M P (.loop c) q a w := by
  obtain ⟨r, g⟩ := M; cases r
  · exact wp_loop_ghost I m h0 fun m a w hi => wp_mono (h m a w hi) fun e a w h => by cases e <;> exact h
  · exact wpIn_loop_ghost I m h0 fun m a w hi => wpIn_mono (h m a w hi) fun e a w h => by cases e <;> exact h
theorem lwp_nil {ops : Array Oper} (h : q .normal a w) : lwp M P ops q [] a w := by
  obtain ⟨r, g⟩ := M; cases r
  · exact wpList_nil (P := P) (ops := ops) h
  · rename_i l; exact wpListIn_nil (F := inF l) (n := 0) (P := P) (ops := ops) h
theorem lwp_wanted {ops : Array Oper} {rest : List Oper} {o : Oper} (hw : Region.wanted o (yielded ops a.tmps) = true) (h : ∀ R : Act → World → Prop, (∀ a w, lwp M P ops q rest a w → R a w) → owp M P o a w R q) : lwp M P ops q (o :: rest) a w := by
  obtain ⟨r, g⟩ := M; cases r
  · exact wpList_step fun R hR => by rw [if_pos hw]; exact h R hR
  · exact wpListIn_step fun R hR => by rw [if_pos hw]; exact h R hR
theorem lwp_plain {ops : Array Oper} {rest : List Oper} {o : Oper} (hg : o.guard = none) (h : ∀ R : Act → World → Prop, (∀ a w, lwp M P ops q rest a w → R a w) → owp M P o a w R q) : lwp M P ops q (o :: rest) a w :=
  lwp_wanted (by simp [Region.wanted, hg]) h
theorem lwp_unwanted {ops : Array Oper} {rest : List Oper} {o : Oper} (hw : Region.wanted o (yielded ops a.tmps) = false) (h : lwp M P ops q rest (a.put o.dst undef) w) : lwp M P ops q (o :: rest) a w := by
  obtain ⟨r, g⟩ := M; cases r
  · exact wpList_step fun R hR => by rw [hw]; exact hR _ _ h
  · exact wpListIn_step fun R hR => by rw [hw]; exact ⟨fun f _ => inF_fn _ f, hR _ _ h⟩
theorem not_defer {o : Oper} {ρ : Operand → Value} {w w' : World} {nx : Next} (h : (execOp ρ o).run P w = .ok nx w') (hn : ∀ d, nx ≠ .defer d) : ∀ c, o.op ≠ .defer c := by
  intro c hc
  unfold execOp at h
  rw [hc] at h
  simp only [Sem.run_bind] at h
  cases hr : (resolve ρ c o.type).run P w with
  | ok d w2 =>
    rw [hr] at h
    simp only [Result.andThen_ok, Sem.run_pure, Result.ok.injEq] at h
    exact hn d h.1.symm
  | halt x w2 => rw [hr] at h; cases h
theorem owp_value {o : Oper} {K : Act → World → Prop} {v : Value} {w' : World} (h : (execOp a.eval o).run P w = .ok (.value v) w') (hK : K (a.put o.dst v) w') : owp M P o a w K q := by
  obtain ⟨r, g⟩ := M; cases r
  · show o.wp P a w K q
    unfold Oper.wp
    rw [h, Oper.upon_value]
    exact hK
  · refine ⟨fun f _ => inF_fn _ f, ?_⟩
    rw [Oper.semAt_eq _ _ _ (not_defer h (fun d => by simp)), h, Oper.uponIn_value]
    exact hK
theorem owp_skip {o : Oper} {K : Act → World → Prop} {w' : World} (h : (execOp a.eval o).run P w = .ok .skip w') (hK : K (a.put o.dst undef) w') : owp M P o a w K q := by
  obtain ⟨r, g⟩ := M; cases r
  · show o.wp P a w K q
    unfold Oper.wp
    rw [h, Oper.upon_skip]
    exact hK
  · refine ⟨fun f _ => inF_fn _ f, ?_⟩
    rw [Oper.semAt_eq _ _ _ (not_defer h (fun d => by simp)), h, Oper.uponIn_skip]
    exact hK
theorem owp_enter {o : Oper} {K : Act → World → Prop} {f : FuncId} {args : Array Value} {w' : World} (h : (execOp a.eval o).run P w = .ok (.enter f args) w') (hK : Calls P f args w' fun e w'' => ∃ v, e = .returned v ∧ K (a.put o.dst v) w'') : owp M P o a w K q := by
  obtain ⟨r, g⟩ := M; cases r
  · show o.wp P a w K q
    unfold Oper.wp
    rw [h, Oper.upon_enter]
    refine hK.mono ?_
    rintro _ w'' ⟨v, rfl, h⟩
    exact h
  · rename_i l
    refine ⟨fun f _ => inF_fn _ f, ?_⟩
    rw [Oper.semAt_eq _ _ _ (not_defer h (fun d => by simp)), h, Oper.uponIn_enter]
    refine ⟨inF_depth l, ?_⟩
    have h1 : CallsIn (inF l) 0 P f args w' (fun e w'' => ∃ v, e = .returned v ∧ K (a.put o.dst v) w'') := inF_calls.2 hK
    refine h1.mono ?_
    rintro _ w'' ⟨v, rfl, h⟩
    exact h
end
end Go.Sl
