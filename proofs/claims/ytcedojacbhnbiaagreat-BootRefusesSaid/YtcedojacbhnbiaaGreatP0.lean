import Derived.WalkKit
import Derived.Deep.Quiet
import Derived.Deep.LoopGhost
import Derived.CallsIn
import Derived.TacticsIn
import Derived.LoopNIn
import Derived.Sort.LoopGhostIn
namespace Go.Sl
open Go.RowKit
set_option linter.unusedVariables false
structure Mode where
  round : Option (Option Nat)
  ds : List Deferred
abbrev zu : Option Nat → Fence
  | none => Fence.wide
  | some l => Fence.wide.inRound l
theorem sI (r : Option Nat) (f : FuncId) : (zu r).fn f := by cases r <;> trivial
theorem A8 {r : Option Nat} {P : Program} {f : FuncId} {args : Array Value} {w : World} {R : Ending → World → Prop} : CallsIn (zu r) 0 P f args w R ↔ Calls P f args w R := by
  cases r
  · exact callsIn_wide
  · exact callsIn_wide (n := 0)
theorem qC (r : Option Nat) : (zu r).depth.isSome = true → 1 ≤ 0 := by cases r <;> intro h <;> cases h
def AX (M : Mode) (P : Program) (c : Code) (q : Exit → Act → World → Prop) (a : Act) (w : World) : Prop :=
  match M.round with | none => c.wp P q a w | some l => c.wpIn (zu l) 0 P q a w
def Mj (M : Mode) (P : Program) (ops : Array Oper) (q : Exit → Act → World → Prop) (rest : List Oper) (a : Act) (w : World) : Prop :=
  match M.round with | none => wpList P ops q rest a w | some l => wpListIn (zu l) 0 P ops q rest a w
def O4 (M : Mode) (P : Program) (o : Oper) (a : Act) (w : World) (K : Act → World → Prop) (q : Exit → Act → World → Prop) : Prop :=
  match M.round with | none => o.wp P a w K q | some l => o.wpIn (zu l) 0 P a w K q
section
variable {M : Mode} {P : Program} {q : Exit → Act → World → Prop} {a : Act} {w : World}
theorem oz {c : Code} {q' : Exit → Act → World → Prop} (h : AX M P c q a w) (hq : ∀ x a w, q x a w → q' x a w) : AX M P c q' a w := by
  obtain ⟨r, g⟩ := M; cases r
  · exact wp_mono h hq
  · exact wpIn_mono h hq
theorem Kv (h : q .normal a w) : AX M P .skip q a w := by
  obtain ⟨r, g⟩ := M; cases r
  · exact wp_skip h
  · exact wpIn_skip h
theorem IW {l : Nat} (h : q .normal a w) : AX M P (.label l) q a w := by
  obtain ⟨r, g⟩ := M; cases r
  · exact wp_label h
  · exact wpIn_label h
theorem Kz {id : Nat} (h : q (.exit id) a w) : AX M P (.exit id) q a w := by
  obtain ⟨r, g⟩ := M; cases r
  · exact wp_exit h
  · exact wpIn_exit h
theorem JM {l : Nat} (h : q (.goto l) a w) : AX M P (.goto l) q a w := by
  obtain ⟨r, g⟩ := M; cases r
  · exact wp_goto h
  · exact wpIn_goto h
theorem Mg (h : q .ret a w) : AX M P .ret q a w := by
  obtain ⟨r, g⟩ := M; cases r
  · exact wp_ret h
  · exact wpIn_ret h
theorem Md {x y : Code} (h : AX M P x (fun e a w => match e with | .normal => AX M P y q a w | e => q e a w) a w) : AX M P (.seq x y) q a w := by
  obtain ⟨r, g⟩ := M; cases r
  · exact wp_seq (wp_mono h fun e a w h => by cases e <;> exact h)
  · exact wpIn_seq (wpIn_mono h fun e a w h => by cases e <;> exact h)
theorem H7 {id : Nat} {c : Code} (h : AX M P c (fun e a w => match e with | .exit i => if i = id then q .normal a w else q (.exit i) a w | e => q e a w) a w) : AX M P (.block id c) q a w := by
  obtain ⟨r, g⟩ := M; cases r
  · refine wp_block (wp_mono h fun e a w h => ?_)
    cases e <;> first | exact h | (simp only [Exit.inBlock] at h ⊢; split <;> simp_all)
  · refine wpIn_block (wpIn_mono h fun e a w h => ?_)
    cases e <;> first | exact h | (simp only [Exit.inBlock] at h ⊢; split <;> simp_all)
theorem Ld {c : Operand} {x y : Code} {t : Bool} (hc : a.eval c = .bool t) (ht : t = true → AX M P x q a w) (hf : t = false → AX M P y q a w) : AX M P (.cond c x y) q a w := by
  obtain ⟨r, g⟩ := M; cases r
  · exact wp_cond_split hc ht hf
  · exact wpIn_cond_split hc ht hf
theorem F7 {id : Nat} {l : List Oper} (h : Mj M P l.toArray q l a w) : AX M P (.region id l.toArray false) q a w := by
  obtain ⟨r, g⟩ := M; cases r
  · exact wp_region_lit h
  · exact wpIn_region_lit h
theorem Ew {c : Code} (I : Nat → Act → World → Prop) (m : Nat) (h0 : I m a w) (h : ∀ m a w, I m a w → AX M P c (fun e a w => match e with | .normal => ∃ m', m' < m ∧ I m' a w | e => q e a w) a w) : AX M P (.loop c) q a w := by
  obtain ⟨r, g⟩ := M; cases r
  · exact wp_loop_ghost I m h0 fun m a w hi => wp_mono (h m a w hi) fun e a w h => by cases e <;> exact h
  · exact wpIn_loop_ghost I m h0 fun m a w hi => wpIn_mono (h m a w hi) fun e a w h => by cases e <;> exact h
theorem MB {ops : Array Oper} (h : q .normal a w) : Mj M P ops q [] a w := by
  obtain ⟨r, g⟩ := M; cases r
  · exact wpList_nil (P := P) (ops := ops) h
  · rename_i l; exact wpListIn_nil (F := zu l) (n := 0) (P := P) (ops := ops) h
theorem sH {ops : Array Oper} {rest : List Oper} {o : Oper} (hw : Region.wanted o (yielded ops a.tmps) = true) (h : ∀ R : Act → World → Prop, (∀ a w, Mj M P ops q rest a w → R a w) → O4 M P o a w R q) : Mj M P ops q (o :: rest) a w := by
  obtain ⟨r, g⟩ := M; cases r
  · exact wpList_step fun R hR => by rw [if_pos hw]; exact h R hR
  · exact wpListIn_step fun R hR => by rw [if_pos hw]; exact h R hR
theorem mI {ops : Array Oper} {rest : List Oper} {o : Oper} (hg : o.guard = none) (h : ∀ R : Act → World → Prop, (∀ a w, Mj M P ops q rest a w → R a w) → O4 M P o a w R q) : Mj M P ops q (o :: rest) a w :=
  sH (by simp [Region.wanted, hg]) h
theorem nJ {ops : Array Oper} {rest : List Oper} {o : Oper} (hw : Region.wanted o (yielded ops a.tmps) = false) (h : Mj M P ops q rest (a.put o.dst undef) w) : Mj M P ops q (o :: rest) a w := by
  obtain ⟨r, g⟩ := M; cases r
  · exact wpList_step fun R hR => by rw [hw]; exact hR _ _ h
  · exact wpListIn_step fun R hR => by rw [hw]; exact ⟨fun f _ => sI _ f, hR _ _ h⟩
theorem uL {o : Oper} {ρ : Operand → Value} {w w' : World} {nx : Next} (h : (execOp ρ o).run P w = .ok nx w') (hn : ∀ d, nx ≠ .defer d) : ∀ c, o.op ≠ .defer c := by
  intro c hc
  unfold execOp at h
  rw [hc] at h
  simp only [Sem.run_bind] at h
  cases hr : (resolve ρ c o.type).run P w with
  | ok d w2 =>
    rw [hr] at h
    simp only [Result.andThen_ok, Sem.run_pure, Result.ok.injEq] at h
    exact hn d h.1.symm
  | halt x w2 => rw [hr] at h; cases h
theorem pY {o : Oper} {K : Act → World → Prop} {v : Value} {w' : World} (h : (execOp a.eval o).run P w = .ok (.value v) w') (hK : K (a.put o.dst v) w') : O4 M P o a w K q := by
  obtain ⟨r, g⟩ := M; cases r
  · show o.wp P a w K q
    unfold Oper.wp
    rw [h, Oper.upon_value]
    exact hK
  · refine ⟨fun f _ => sI _ f, ?_⟩
    rw [Oper.semAt_eq _ _ _ (uL h (fun d => by simp)), h, Oper.uponIn_value]
    exact hK
theorem Lb {o : Oper} {K : Act → World → Prop} {w' : World} (h : (execOp a.eval o).run P w = .ok .skip w') (hK : K (a.put o.dst undef) w') : O4 M P o a w K q := by
  obtain ⟨r, g⟩ := M; cases r
  · show o.wp P a w K q
    unfold Oper.wp
    rw [h, Oper.upon_skip]
    exact hK
  · refine ⟨fun f _ => sI _ f, ?_⟩
    rw [Oper.semAt_eq _ _ _ (uL h (fun d => by simp)), h, Oper.uponIn_skip]
    exact hK
theorem AL {o : Oper} {K : Act → World → Prop} {f : FuncId} {args : Array Value} {w' : World} (h : (execOp a.eval o).run P w = .ok (.enter f args) w') (hK : Calls P f args w' fun e w'' => ∃ v, e = .returned v ∧ K (a.put o.dst v) w'') : O4 M P o a w K q := by
  obtain ⟨r, g⟩ := M; cases r
  · show o.wp P a w K q
    unfold Oper.wp
    rw [h, Oper.upon_enter]
    refine hK.mono ?_
    rintro _ w'' ⟨v, rfl, h⟩
    exact h
  · rename_i l
    refine ⟨fun f _ => sI _ f, ?_⟩
    rw [Oper.semAt_eq _ _ _ (uL h (fun d => by simp)), h, Oper.uponIn_enter]
    refine ⟨qC l, ?_⟩
    have h1 : CallsIn (zu l) 0 P f args w' (fun e w'' => ∃ v, e = .returned v ∧ K (a.put o.dst v) w'') := A8.2 hK
    refine h1.mono ?_
    rintro _ w'' ⟨v, rfl, h⟩
    exact h
end
structure au where
  foot : Nat → Prop
  holds : World → Prop
  loc : ∀ w w' : World, (∀ b, foot b → w'.heap[b]? = w.heap[b]?) → holds w → holds w'
structure Same (K w : World) : Prop where
  os : w.os = K.os
  tape : w.tape = K.tape
  output : w.output = K.output
  size : K.heap.size ≤ w.heap.size
def bA (w : World) : List au → Prop
  | [] => True
  | A :: H => A.holds w ∧ (∀ b, A.foot b → b < w.heap.size) ∧ (∀ b, A.foot b → ∀ B ∈ H, ¬ B.foot b) ∧ bA w H
def Sat (K w : World) (H : List au) : Prop := Same K w ∧ bA w H
theorem bA.tail {w : World} {A : au} {H : List au} (h : bA w (A :: H)) : bA w H := h.2.2.2
theorem Sat.tail {K w : World} {A : au} {H : List au} (h : Sat K w (A :: H)) : Sat K w H := ⟨h.1, h.2.tail⟩
theorem Sat.head {K w : World} {A : au} {H : List au} (h : Sat K w (A :: H)) : A.holds w := h.2.1
theorem bA.drop {w : World} : ∀ (k : Nat) {H : List au}, bA w H → bA w (H.drop k)
  | 0, _, h => h
  | _ + 1, [], h => h
  | k + 1, _ :: _, h => bA.drop k h.tail
theorem Sat.drop {K w : World} {H : List au} (k : Nat) (h : Sat K w H) : Sat K w (H.drop k) := ⟨h.1, h.2.drop k⟩
theorem bA.mem {w : World} : ∀ {H : List au} {A : au}, bA w H → A ∈ H → A.holds w ∧ ∀ b, A.foot b → b < w.heap.size
  | B :: H, A, h, hm => by
    rcases List.mem_cons.1 hm with rfl | hm
    · exact ⟨h.1, h.2.1⟩
    · exact h.tail.mem hm
theorem bA.keep {w w' : World} (hs : w.heap.size ≤ w'.heap.size) : ∀ {H : List au}, (∀ A ∈ H, ∀ b, A.foot b → w'.heap[b]? = w.heap[b]?) → bA w H → bA w' H
  | [], _, _ => trivial
  | A :: H, hk, h => ⟨A.loc w w' (hk A (.head _)) h.1, fun b hb => Nat.lt_of_lt_of_le (h.2.1 b hb) hs, h.2.2.1, bA.keep hs (fun B hB => hk B (.tail _ hB)) h.tail⟩
theorem bA.grow {w w' : World} (hs : w.heap.size ≤ w'.heap.size) (hk : ∀ b, b < w.heap.size → w'.heap[b]? = w.heap[b]?) {H : List au} (h : bA w H) : bA w' H :=
  h.keep hs fun A hA b hb => hk b ((h.mem hA).2 b hb)
theorem bA.push {w w' : World} (hs : w.heap.size ≤ w'.heap.size) (hk : ∀ b, b < w.heap.size → w'.heap[b]? = w.heap[b]?) {H : List au} (h : bA w H)
    {A : au} (hA : A.holds w') (h1 : ∀ b, A.foot b → w.heap.size ≤ b ∧ b < w'.heap.size) : bA w' (A :: H) :=
  ⟨hA, fun b hb => (h1 b hb).2, fun b hb B hB hb' => by have := (h.mem hB).2 b hb'; have := (h1 b hb).1; omega, h.grow hs hk⟩
theorem bA.set {w w' : World} (hs : w.heap.size ≤ w'.heap.size) {A A' : au} {H : List au} (h : bA w (A :: H)) (hk : ∀ b, ¬ A.foot b → b < w.heap.size → w'.heap[b]? = w.heap[b]?)
    (hA : A'.holds w') (hf : ∀ b, A'.foot b → A.foot b ∨ (w.heap.size ≤ b ∧ b < w'.heap.size)) : bA w' (A' :: H) := by
  refine ⟨hA, fun b hb => ?_, fun b hb B hB hb' => ?_, h.tail.keep hs fun B hB b hb => hk b (fun ha => h.2.2.1 b ha B hB hb) ((h.tail.mem hB).2 b hb)⟩
  · rcases hf b hb with h1 | h1
    · exact Nat.lt_of_lt_of_le (h.2.1 b h1) hs
    · exact h1.2
  · rcases hf b hb with h1 | h1
    · exact h.2.2.1 b h1 B hB hb'
    · have := (h.tail.mem hB).2 b hb'
      omega
theorem bA.swap {w : World} {A B : au} {H : List au} (h : bA w (A :: B :: H)) : bA w (B :: A :: H) :=
  ⟨h.tail.1, h.tail.2.1, fun b hb C hC hc => by
    rcases List.mem_cons.1 hC with rfl | hC
    · exact h.2.2.1 b hc B (.head _) hb
    · exact h.tail.2.2.1 b hb C hC hc, h.1, h.2.1, fun b hb C hC => h.2.2.1 b hb C (.tail _ hC), h.tail.tail⟩
theorem bA.ni {w : World} {A : au} {H H' : List au} (h : bA w (A :: H)) (hH : bA w H → bA w H') (hm : ∀ B ∈ H', B ∈ H) : bA w (A :: H') :=
  ⟨h.1, h.2.1, fun b hb B hB => h.2.2.1 b hb B (hm B hB), hH h.tail⟩
def pull (i : Nat) (H : List au) : List au := match H[i]? with | some A => A :: H.eraseIdx i | none => H
theorem bA.Es {w : World} : ∀ (i : Nat) {H : List au} {A : au}, H[i]? = some A → bA w H → bA w (A :: H.eraseIdx i)
  | _, [], _, hi, _ => by simp at hi
  | 0, B :: H, A, hi, h => by simp at hi; subst hi; exact h
  | i + 1, B :: H, A, hi, h => by
    have h1 := bA.Es i (A := A) (by simpa using hi) h.tail
    have h2 : bA w (B :: A :: H.eraseIdx i) := h.ni (fun _ => h1) (fun C hC => by
      rcases List.mem_cons.1 hC with rfl | hC
      · exact List.mem_of_getElem? (by simpa using hi)
      · exact List.mem_of_mem_eraseIdx hC)
    exact h2.swap
theorem Sat.pull {K w : World} {H : List au} (i : Nat) (h : Sat K w H) : Sat K w (pull i H) := by
  unfold Sl.pull
  split
  · rename_i A hi; exact ⟨h.1, bA.Es i hi h.2⟩
  · exact h
theorem Same.grow {K w w' : World} (h : Same K w) (h1 : w'.os = w.os) (h2 : w'.tape = w.tape) (h3 : w'.output = w.output) (h4 : w.heap.size ≤ w'.heap.size) : Same K w' :=
  ⟨h1.trans h.os, h2.trans h.tape, h3.trans h.output, Nat.le_trans h.size h4⟩
theorem Sat.drew {K w : World} {H : List au} (h : Sat K w H) : Sat K { w with drawn := w.drawn + 1 } H :=
  ⟨h.1.grow rfl rfl rfl (Nat.le_refl _), bA.grow (w := w) (w' := { w with drawn := w.drawn + 1 }) (Nat.le_refl _) (fun _ _ => rfl) h.2⟩
abbrev Env := List (Nat × Value)
def look : Env → Nat → Option Value
  | [], _ => none
  | (k, v) :: e, t => bif Nat.beq k t then some v else look e t
structure Agree (Mo : Mode) (n : Nat) (e : Env) (a : Act) : Prop where
  defers : a.defers = Mo.ds
  size : a.tmps.size = n
  at_ : ∀ t v, look e t = some v → a.tmps.getD t undef = v
def Bt (e : Env) : Operand → Option Value
  | .tmp t => look e t
  | .const v => some v
  | .global g => some (.pointer (some ⟨g, 0, none⟩))
  | .func f => some (.func (.func f) #[] #[])
theorem Agree.ev {Mo : Mode} {n : Nat} {e : Env} {a : Act} (h : Agree Mo n e a) {x : Operand} {v : Value} (hx : Bt e x = some v) : a.eval x = v := by
  cases x with
  | tmp t => exact h.at_ t v hx
  | const u => simpa [Bt, Act.eval] using hx
  | global g => simpa [Bt, Act.eval] using hx
  | func f => simpa [Bt, Act.eval] using hx
theorem Agree.put {Mo : Mode} {n : Nat} {e : Env} {a : Act} (h : Agree Mo n e a) (d : Nat) (hd : Nat.blt d n = true) (v : Value) : Agree Mo n ((d, v) :: e) (a.put (some d) v) := by
  have hd' : d < a.tmps.size := by rw [h.size]; simpa using hd
  refine ⟨h.defers, by simp [Act.put, h.size], fun t u hu => ?_⟩
  simp only [look] at hu
  cases hk : Nat.beq d t with
  | true =>
    simp only [hk, cond_true] at hu
    obtain rfl := Nat.eq_of_beq_eq_true hk
    simp [Act.put, Array.getD, hd'] at hu ⊢
    exact hu
  | false =>
    simp only [hk, cond_false] at hu
    have hne : d ≠ t := Nat.ne_of_beq_eq_false hk
    have := h.at_ t u hu
    simp only [Act.put, Array.getD_eq_getD_getElem?, Array.getElem?_setIfInBounds, if_neg hne] at this ⊢
    exact this
theorem Agree.none {Mo : Mode} {n : Nat} {e : Env} {a : Act} (h : Agree Mo n e a) (v : Value) : Agree Mo n e (a.put none v) := h
def Sub (E e : Env) : Prop := ∀ t v, look E t = some v → look e t = some v
theorem Sub.nil (e : Env) : Sub [] e := fun _ _ h => by simp [look] at h
theorem Sub.cons {E e : Env} {t : Nat} {v : Value} (h : look e t = some v) (k : Sub E e) : Sub ((t, v) :: E) e := fun s u hu => by
  simp only [look] at hu
  cases hk : Nat.beq t s with
  | true =>
    simp only [hk, cond_true, Option.some.injEq] at hu
    obtain rfl := Nat.eq_of_beq_eq_true hk
    rw [h, hu]
  | false => simp only [hk, cond_false] at hu; exact k s u hu
theorem Sub.refl (e : Env) : Sub e e := fun _ _ h => h
theorem Agree.sub {Mo : Mode} {n : Nat} {E e : Env} {a : Act} (h : Agree Mo n e a) (hs : Sub E e) : Agree Mo n E a := ⟨h.defers, h.size, fun t v hv => h.at_ t v (hs t v hv)⟩
abbrev Post := Mode → Exit → Env → List au → Prop
def lift (r : Option (Option Nat)) (K : World) (n : Nat) (Q : Post) (x : Exit) (a : Act) (w : World) : Prop := ∃ ds e H, Agree ⟨r, ds⟩ n e a ∧ Sat K w H ∧ Q ⟨r, ds⟩ x e H
def WC (Mo : Mode) (P : Program) (K : World) (n : Nat) (c : Code) (Q : Post) (e : Env) (H : List au) : Prop :=
  ∀ a w, Agree Mo n e a → Sat K w H → AX Mo P c (lift Mo.round K n Q) a w
def WL (Mo : Mode) (P : Program) (K : World) (n : Nat) (ops : Array Oper) (rest : List Oper) (Q : Post) (e : Env) (H : List au) : Prop :=
  ∀ a w, Agree Mo n e a → Sat K w H → Mj Mo P ops (lift Mo.round K n Q) rest a w
def Then (R : Mode → Env → List au → Prop) (Q : Post) : Post
  | Mo, .normal, e, H => R Mo e H
  | Mo, x, e, H => Q Mo x e H
def Hq (id : Nat) (Q : Post) : Post
  | Mo, .exit id', e, H => bif Nat.beq id' id then Q Mo .normal e H else Q Mo (.exit id') e H
  | Mo, x, e, H => Q Mo x e H
section
variable {Mo : Mode} {P : Program} {K : World} {n : Nat} {Q : Post} {e : Env} {H : List au}
theorem IQ {r : Option (Option Nat)} {Q Q' : Post} (h : ∀ Mo x e H, Q Mo x e H → Q' Mo x e H) (x : Exit) (a : Act) (w : World) (hh : lift r K n Q x a w) : lift r K n Q' x a w := by
  obtain ⟨ds, e, H, h1, h2, h3⟩ := hh; exact ⟨ds, e, H, h1, h2, h _ _ _ _ h3⟩
theorem WC.skip (h : Q Mo .normal e H) : WC Mo P K n .skip Q e H := fun a w ha hw => Kv ⟨_, e, H, ha, hw, h⟩
theorem WC.label {l : Nat} (h : Q Mo .normal e H) : WC Mo P K n (.label l) Q e H := fun a w ha hw => IW ⟨_, e, H, ha, hw, h⟩
theorem WC.exit {id : Nat} (h : Q Mo (.exit id) e H) : WC Mo P K n (.exit id) Q e H := fun a w ha hw => Kz ⟨_, e, H, ha, hw, h⟩
theorem WC.goto {l : Nat} (h : Q Mo (.goto l) e H) : WC Mo P K n (.goto l) Q e H := fun a w ha hw => JM ⟨_, e, H, ha, hw, h⟩
theorem WC.ret (h : Q Mo .ret e H) : WC Mo P K n .ret Q e H := fun a w ha hw => Mg ⟨_, e, H, ha, hw, h⟩
theorem WC.seq {x y : Code} (h : WC Mo P K n x (Then (fun Mo => WC Mo P K n y Q) Q) e H) : WC Mo P K n (.seq x y) Q e H := fun a w ha hw => by
  refine Md (oz (h a w ha hw) ?_)
  rintro x a w ⟨ds, e', H', h1, h2, h3⟩
  cases x
  case normal =>
    have h4 := h3 a w h1 h2
    obtain ⟨r, ds0⟩ := Mo
    cases r <;> exact h4
  all_goals exact ⟨ds, e', H', h1, h2, h3⟩
theorem WC.block {id : Nat} {c : Code} (h : WC Mo P K n c (Hq id Q) e H) : WC Mo P K n (.block id c) Q e H := fun a w ha hw => by
  refine H7 (oz (h a w ha hw) ?_)
  rintro x a w ⟨ds, e', H', h1, h2, h3⟩
  cases x with
  | exit id' =>
    simp only [Hq] at h3 ⊢
    by_cases hid : id' = id
    · subst hid; simp at h3 ⊢; exact ⟨ds, e', H', h1, h2, h3⟩
    · have : Nat.beq id' id = false := by cases hb : Nat.beq id' id with | false => rfl | true => exact (hid (Nat.eq_of_beq_eq_true hb)).elim
      simp only [this, cond_false] at h3
      rw [if_neg hid]
      exact ⟨ds, e', H', h1, h2, h3⟩
  | _ => exact ⟨ds, e', H', h1, h2, h3⟩
theorem WC.cond {c : Operand} {x y : Code} {t : Bool} (hc : Bt e c = some (.bool t)) (ht : t = true → WC Mo P K n x Q e H) (hf : t = false → WC Mo P K n y Q e H) :
    WC Mo P K n (.cond c x y) Q e H := fun a w ha hw => Ld (ha.ev hc) (fun h => ht h a w ha hw) (fun h => hf h a w ha hw)
theorem WC.region {id : Nat} {l : List Oper} (h : WL Mo P K n l.toArray l Q e H) : WC Mo P K n (.region id l.toArray false) Q e H := fun a w ha hw => F7 (h a w ha hw)
theorem WC.sub {c : Code} {E : Env} {H' : List au} (hE : Sub E e) (hH : ∀ w, Sat K w H → Sat K w H') (h : WC Mo P K n c Q E H') : WC Mo P K n c Q e H :=
  fun a w ha hw => h a w (ha.sub hE) (hH w hw)
theorem WC.mono {c : Code} {Q' : Post} (h : WC Mo P K n c Q e H) (hq : ∀ Mo x e H, Q Mo x e H → Q' Mo x e H) : WC Mo P K n c Q' e H :=
  fun a w ha hw => oz (h a w ha hw) fun x a w hh => IQ hq x a w hh
theorem WL.nil {ops : Array Oper} (h : Q Mo .normal e H) : WL Mo P K n ops [] Q e H := fun a w ha hw => MB ⟨_, e, H, ha, hw, h⟩
theorem WL.sub {ops : Array Oper} {l : List Oper} {E : Env} {H' : List au} (hE : Sub E e) (hH : ∀ w, Sat K w H → Sat K w H') (h : WL Mo P K n ops l Q E H') : WL Mo P K n ops l Q e H :=
  fun a w ha hw => h a w (ha.sub hE) (hH w hw)
def Round {σ : Type} (Mo : Mode) (K : World) (E : σ → Env) (M : σ → List au) (I : σ → Prop) (μ : σ → Nat) (s : σ) (Si : Mode) (e' : Env) (H' : List au) : Prop :=
  Si.ds = Mo.ds ∧ ∃ s', I s' ∧ μ s' < μ s ∧ Sub (E s') e' ∧ ∀ w, Sat K w H' → Sat K w (M s')
theorem WC.loop {c : Code} {σ : Type} (E : σ → Env) (M : σ → List au) (I : σ → Prop) (μ : σ → Nat) (s0 : σ) (h0 : I s0) (hE : Sub (E s0) e) (hH : ∀ w, Sat K w H → Sat K w (M s0))
    (round : ∀ s, I s → WC Mo P K n c (Then (Round Mo K E M I μ s) Q) (E s) (M s)) : WC Mo P K n (.loop c) Q e H := by
  intro a w ha hw
  refine Ew (fun m a w => ∃ s, μ s = m ∧ I s ∧ Agree Mo n (E s) a ∧ Sat K w (M s)) (μ s0) ⟨s0, rfl, h0, ha.sub hE, hH w hw⟩ ?_
  rintro m a w ⟨s, rfl, hI, ha, hw⟩
  refine oz (round s hI a w ha hw) ?_
  rintro x a w ⟨ds, e', H', h1, h2, h3⟩
  cases x
  case normal =>
    obtain ⟨hm, s', k1, k2, k3, k4⟩ := h3
    obtain ⟨r, ds0⟩ := Mo
    obtain rfl : ds = ds0 := hm
    exact ⟨_, k2, s', rfl, k1, h1.sub k3, k4 w h2⟩
  all_goals exact ⟨ds, e', H', h1, h2, h3⟩
def Does (P : Program) (f : FuncId) (args : Array Value) (K : World) (H : List au) (post : Value → List au → Prop) : Prop :=
  ∀ w, Sat K w H → Calls P f args w fun e w' => ∃ v H', e = .returned v ∧ Sat K w' H' ∧ post v H'
theorem Does.mono {f : FuncId} {args : Array Value} {post post' : Value → List au → Prop} (h : Does P f args K H post) (hp : ∀ v H', post v H' → post' v H') : Does P f args K H post' :=
  fun w hw => (h w hw).mono fun e w' ⟨v, H', h1, h2, h3⟩ => ⟨v, H', h1, h2, hp _ _ h3⟩
theorem Does.sat {f : FuncId} {args : Array Value} {post : Value → List au → Prop} {H' : List au} (h : Does P f args K H' post) (hH : ∀ w, Sat K w H → Sat K w H') : Does P f args K H post :=
  fun w hw => h w (hH w hw)
def aL (Mo : Mode) (P : Program) (K : World) (n : Nat) (fn : Func) (e : Env) (H : List au) (v : Value) : Prop :=
  ∀ a w, Agree Mo n e a → Sat K w H → (results fn a.tmps).run P w = .ok v w
def aj (P : Program) (K : World) (n : Nat) (fn : Func) (post : Value → List au → Prop) : Post
  | Mo, .normal, e, H | Mo, .ret, e, H => Mo.ds = [] ∧ ∃ v H', aL Mo P K n fn e H v ∧ (∀ w, Sat K w H → Sat K w H') ∧ post v H'
  | _, _, _, _ => False
def aJ : Nat → List Value → Env
  | _, [] => []
  | i, v :: vs => (i, v) :: aJ (i + 1) vs
theorem qo : ∀ (vs : List Value) (i t : Nat) (v : Value), look (aJ i vs) t = some v → i ≤ t ∧ vs[t - i]? = some v
  | [], _, _, _, h => by simp [aJ, look] at h
  | u :: vs, i, t, v, h => by
    simp only [aJ, look] at h
    cases hk : Nat.beq i t with
    | true =>
      simp only [hk, cond_true, Option.some.injEq] at h
      obtain rfl := Nat.eq_of_beq_eq_true hk
      simp [h]
    | false =>
      simp only [hk, cond_false] at h
      obtain ⟨h1, h2⟩ := qo vs (i + 1) t v h
      refine ⟨by omega, ?_⟩
      rw [show t - i = (t - (i + 1)) + 1 by omega]
      simpa using h2
theorem Does.enter {f : FuncId} {fn : Func} {c : Code} {vs : List Value} {post : Value → List au → Prop} (hf : P.funcs[f]? = some fn) (hb : fn.body = some c) (hn : fn.ntmps = n) (hl : Nat.ble vs.length n = true)
    (h : WC ⟨none, []⟩ P K n c (aj P K n fn post) (aJ 0 vs) H) : Does P f vs.toArray K H post := by
  intro w hw
  refine calls_of_wp hf hb (wp_mono (h _ w ?_ hw) ?_)
  · have hl' : vs.length ≤ n := by simpa using hl
    refine ⟨rfl, by simp [hn]; omega, fun t v hv => ?_⟩
    obtain ⟨_, h2⟩ := qo vs 0 t v hv
    simp only [Nat.sub_zero] at h2
    have ht : t < vs.length := by
      rcases Nat.lt_or_ge t vs.length with h | h
      · exact h
      · simp [List.getElem?_eq_none h] at h2
    rw [Array.getD_eq_getD_getElem?, Array.getElem?_append_left (by simpa using ht)]
    simp [h2]
  · rintro x a w ⟨ds, e', H', h1, h2, h3⟩
    cases x <;> first
      | (obtain ⟨k0, v, xE, k1, k2, k3⟩ := h3; exact ⟨h1.defers.trans k0, v, k1 a w h1 h2, v, xE, rfl, k2 w h2, k3⟩)
      | exact h3.elim
theorem aL.tmp {fn : Func} {t : Tmp} {v : Value} (hr : fn.results = #[.tmp t]) (h : look e t = some v) : aL Mo P K n fn e H v := fun a w ha _ => by
  rw [results_tmp hr]; rw [ha.at_ t v h]
theorem aL.none {fn : Func} (hr : fn.results = #[]) : aL Mo P K n fn e H (.tuple #[]) := fun a w _ _ => results_none hr _ _ _
theorem aL.dJ {fn : Func} {t u : Tmp} {v v' : Value} (hr : fn.results = #[.tmp t, .tmp u]) (h : look e t = some v) (h' : look e u = some v') : aL Mo P K n fn e H (.tuple #[v, v']) := fun a w ha _ => by
  rw [results_tmp2 hr]; rw [ha.at_ t v h, ha.at_ u v' h']
theorem aL.vD {fn : Func} {t u r : Tmp} {v v' v'' : Value} (hr : fn.results = #[.tmp t, .tmp u, .tmp r]) (h : look e t = some v) (h' : look e u = some v') (h'' : look e r = some v'') : aL Mo P K n fn e H (.tuple #[v, v', v'']) := fun a w ha _ => by
  have e1 := ha.at_ t v h; have e2 := ha.at_ u v' h'; have e3 := ha.at_ r v'' h''
  simp only [Array.getD_eq_getD_getElem?] at e1 e2 e3
  simp [results, hr, e1, e2, e3]
theorem aL.Mc {fn : Func} {t u r s : Tmp} {v v' v'' v3 : Value} (hr : fn.results = #[.tmp t, .tmp u, .tmp r, .tmp s]) (h : look e t = some v) (h' : look e u = some v') (h'' : look e r = some v'') (h3 : look e s = some v3) : aL Mo P K n fn e H (.tuple #[v, v', v'', v3]) := fun a w ha _ => by
  have e1 := ha.at_ t v h; have e2 := ha.at_ u v' h'; have e3 := ha.at_ r v'' h''; have e4 := ha.at_ s v3 h3
  simp only [Array.getD_eq_getD_getElem?] at e1 e2 e3 e4
  simp [results, hr, e1, e2, e3, e4]
theorem aj.ret {fn : Func} {post : Value → List au → Prop} {v : Value} {H' : List au} {r : Option (Option Nat)} (hr : aL ⟨r, []⟩ P K n fn e H v) (hs : ∀ w, Sat K w H → Sat K w H') (hp : post v H') : aj P K n fn post ⟨r, []⟩ .ret e H := ⟨rfl, v, H', hr, hs, hp⟩
theorem aj.normal {fn : Func} {post : Value → List au → Prop} {v : Value} {H' : List au} {r : Option (Option Nat)} (hr : aL ⟨r, []⟩ P K n fn e H v) (hs : ∀ w, Sat K w H → Sat K w H') (hp : post v H') : aj P K n fn post ⟨r, []⟩ .normal e H := ⟨rfl, v, H', hr, hs, hp⟩
def cv (c : Bool) (v : Value) : Value := if c then v else undef
def GC (gv : Value) (want : Bool) (c : Bool) : Prop := ((match gv with | .bool b => some b | _ => none) == some want) = c
theorem GC.t {b : Bool} : GC (.bool b) true b := by cases b <;> rfl
theorem GC.f {b : Bool} : GC (.bool b) false (!b) := by cases b <;> rfl
theorem GC.ct {c b : Bool} : GC (cv c (.bool b)) true (c && b) := by cases c <;> cases b <;> rfl
theorem GC.cf {c b : Bool} : GC (cv c (.bool b)) false (c && !b) := by cases c <;> cases b <;> rfl
def OV (c : Bool) (e : Env) (x : Operand) (v : Value) : Prop := ∃ u, Bt e x = some u ∧ (c = true → u = v)
theorem OV.p {c : Bool} {x : Operand} {v : Value} (h : Bt e x = some v) : OV c e x v := ⟨v, h, fun _ => rfl⟩
theorem OV.g {c c0 : Bool} {x : Operand} {v : Value} (h : Bt e x = some (cv c0 v)) (hc : c = true → c0 = true) : OV c e x v := ⟨_, h, fun h' => by simp [cv, hc h']⟩
theorem OV.ev {c : Bool} {x : Operand} {v : Value} (h : OV c e x v) (hc : c = true) {a : Act} (ha : Agree Mo n e a) : a.eval x = v := by
  obtain ⟨u, h1, h2⟩ := h; rw [ha.ev h1, h2 hc]
def Val (Mo : Mode) (P : Program) (K : World) (n : Nat) (c : Bool) (e : Env) (H : List au) (o : Oper) (v : Value) : Prop :=
  c = true → ∀ a w, Agree Mo n e a → Sat K w H → (execOp a.eval o).run P w = .ok (.value v) w
theorem WL.val {ops : Array Oper} {rest : List Oper} {d : Nat} {op : Op} {ty : TypeId} {pos : String} {af : Array Edge} {v : Value} (hv : Val Mo P K n true e H ⟨some d, op, ty, pos, af, none⟩ v) (hd : Nat.blt d n = true)
    (h : WL Mo P K n ops rest Q ((d, v) :: e) H) : WL Mo P K n ops (⟨some d, op, ty, pos, af, none⟩ :: rest) Q e H := fun a w ha hw => by
  exact mI rfl fun R hR => pY (hv rfl a w ha hw) (hR _ _ (h _ w (ha.put d hd v) hw))
theorem Region.iI {ops : Array Oper} {o : Oper} {a : Act} {j dj : Nat} {want : Bool} {oj : Oper} {gv : Value} {c : Bool} (hg : o.guard = some (j, want)) (hj : ops[j]? = some oj) (hdj : oj.dst = some dj)
    (hl : look e dj = some gv) (ha : Agree Mo n e a) (hG : GC gv want c) : Region.wanted o (yielded ops a.tmps) = c := by
  have h1 := ha.at_ dj gv hl
  simp only [Region.wanted, hg, yielded, hj, Option.bind_some, hdj]
  rw [Array.getD_eq_getD_getElem?] at h1
  cases ht : a.tmps[dj]? with
  | none =>
    simp only [ht, Option.getD_none] at h1
    subst h1
    rw [← hG]; rfl
  | some u =>
    simp only [ht, Option.getD_some] at h1
    subst h1
    cases u <;> exact hG
theorem WL.ah {ops : Array Oper} {rest : List Oper} {d j dj : Nat} {want : Bool} {oj : Oper} {op : Op} {ty : TypeId} {pos : String} {af : Array Edge} {v gv : Value} {c : Bool}
    (hj : ops[j]? = some oj) (hdj : oj.dst = some dj) (hl : look e dj = some gv) (hG : GC gv want c)
    (hv : Val Mo P K n c e H ⟨some d, op, ty, pos, af, some (j, want)⟩ v) (hd : Nat.blt d n = true)
    (h : WL Mo P K n ops rest Q ((d, cv c v) :: e) H) : WL Mo P K n ops (⟨some d, op, ty, pos, af, some (j, want)⟩ :: rest) Q e H := fun a w ha hw => by
  have hw' := Region.iI (o := ⟨some d, op, ty, pos, af, some (j, want)⟩) rfl hj hdj hl ha hG
  cases c with
  | false => exact nJ hw' (h _ w (ha.put d hd _) hw)
  | true => exact sH hw' fun R hR => pY (hv rfl a w ha hw) (hR _ _ (h _ w (ha.put d hd v) hw))
theorem WL.sO {ops : Array Oper} {rest : List Oper} {o oj : Oper} {j dj : Nat} {want : Bool} {gv : Value} (hg : o.guard = some (j, want))
    (hj : ops[j]? = some oj) (hdj : oj.dst = some dj) (hl : look e dj = some gv) (hG : GC gv want false) (hd : ∀ d, o.dst = some d → Nat.blt d n = true)
    (h : WL Mo P K n ops rest Q (match o.dst with | some d => (d, undef) :: e | none => e) H) : WL Mo P K n ops (o :: rest) Q e H := fun a w ha hw => by
  refine nJ (Region.iI hg hj hdj hl ha hG) ?_
  cases hd' : o.dst with
  | none => rw [hd'] at h; exact h a w ha hw
  | some d => rw [hd'] at h; exact h _ w (ha.put d (hd d hd') _) hw
end
abbrev ptr (b o : Nat) : Value := .pointer (some ⟨b, o, none⟩)
theorem gZ (b o k : Nat) : (⟨b, o, none⟩ : Addr).add k = ⟨b, o + k, none⟩ := by unfold Addr.add; split <;> simp_all
section
variable {Mo : Mode} {P : Program} {K : World} {n : Nat} {Q : Post} {e : Env} {H : List au} {c : Bool} {dst : Option Tmp} {ty : TypeId} {pos : String} {af : Array Edge} {gd : Option (Nat × Bool)}
theorem V.move {x : Operand} {v : Value} (hx : OV c e x v) : Val Mo P K n c e H ⟨dst, .move x, ty, pos, af, gd⟩ v := fun hc a w ha _ => by
  show Result.ok (Next.value (a.eval x)) w = _; rw [hx.ev hc ha]
theorem V.assign {x : Operand} {v : Value} (hx : OV c e x v) : Val Mo P K n c e H ⟨dst, .assign x, ty, pos, af, gd⟩ v := fun hc a w ha _ => by
  show Result.ok (Next.value (a.eval x)) w = _; rw [hx.ev hc ha]
theorem tY {a : Act} {w : World} {q x y : Operand} {g : Bool} (h : a.eval q = .bool g) : (execOp a.eval ⟨dst, .pick q x y, ty, pos, af, gd⟩).run P w = .ok (.value (if g then a.eval x else a.eval y)) w := by
  show ((do pure (Next.value (if ← asBool (a.eval q) then a.eval x else a.eval y))) : Sem Next).run P w = _
  rw [h]; rfl
theorem V.M5 {q x y : Operand} {v : Value} (hq : OV c e q (.bool true)) (hx : OV c e x v) : Val Mo P K n c e H ⟨dst, .pick q x y, ty, pos, af, gd⟩ v := fun hc a w ha _ => by
  rw [tY (hq.ev hc ha), hx.ev hc ha]; rfl
theorem V.fT {q x y : Operand} {v : Value} (hq : OV c e q (.bool false)) (hy : OV c e y v) : Val Mo P K n c e H ⟨dst, .pick q x y, ty, pos, af, gd⟩ v := fun hc a w ha _ => by
  rw [tY (hq.ev hc ha), hy.ev hc ha]; rfl
theorem V.aD {q x : Operand} {g p : Bool} (hq : OV c e q (.bool g)) (hx : OV (c && g) e x (.bool p)) : Val Mo P K n c e H ⟨dst, .pick q x (.const (.bool false)), ty, pos, af, gd⟩ (.bool (g && p)) := fun hc a w ha _ => by
  rw [tY (hq.ev hc ha)]
  subst hc
  cases g with
  | true => rw [hx.ev rfl ha]; rfl
  | false => rfl
theorem V.aS {q y : Operand} {g p : Bool} (hq : OV c e q (.bool g)) (hy : OV (c && !g) e y (.bool p)) : Val Mo P K n c e H ⟨dst, .pick q (.const (.bool true)) y, ty, pos, af, gd⟩ (.bool (g || p)) := fun hc a w ha _ => by
  rw [tY (hq.ev hc ha)]
  subst hc
  cases g with
  | false => rw [hy.ev rfl ha]; rfl
  | true => rfl
theorem kX {a : Act} {w : World} {op : BinOp} {t t' : TypeId} {x y : Operand} {u v : Value} {r : Value} (hx : a.eval x = u) (hy : a.eval y = v) (hg : (eqGuard op t x y u v).run P w = .ok () w) (hr : (binOp op t u v).run P w = .ok r w) :
    (execOp a.eval ⟨dst, .binOp op t x y t', ty, pos, af, gd⟩).run P w = .ok (.value r) w := by
  show (((eqGuard op t x y (a.eval x) (a.eval y) >>= fun _ => binOp op t (a.eval x) (a.eval y)) >>= fun r => pure (Next.value r)) : Sem Next).run P w = _
  rw [hx, hy]
  simp only [Sem.run_bind, hg, hr, Result.andThen_ok, Sem.run_pure]
theorem Ez {w : World} {op : BinOp} {t : TypeId} {x y : Operand} {k k' : IntKind} {i j : Int} : (eqGuard op t x y (.int k i) (.int k' j)).run P w = .ok () w := by
  unfold eqGuard; cases op <;> rfl
theorem sV {w : World} {op : BinOp} {t : TypeId} {x y : Operand} {i j : Bool} : (eqGuard op t x y (.bool i) (.bool j)).run P w = .ok () w := by
  unfold eqGuard; cases op <;> rfl
theorem oK {w : World} {op : BinOp} {t : TypeId} {x y : Operand} {i j : ByteArray} : (eqGuard op t x y (.string i) (.string j)).run P w = .ok () w := by
  unfold eqGuard; cases op <;> rfl
theorem wo {w : World} {op : BinOp} {t : TypeId} {x y : Operand} {i j : Option Addr} : (eqGuard op t x y (.pointer i) (.pointer j)).run P w = .ok () w := by
  unfold eqGuard; cases op <;> rfl
section ints
variable {x y : Operand} {k k' : IntKind} {i j : Int} {t t' : TypeId}
theorem V.oI {op : BinOp} {r : Value} (hx : OV c e x (.int k i)) (hy : OV c e y (.int k' j)) (hr : ∀ w, (binOp op t (.int k i) (.int k' j)).run P w = .ok r w) : Val Mo P K n c e H ⟨dst, .binOp op t x y t', ty, pos, af, gd⟩ r :=
  fun hc a w ha _ => kX (hx.ev hc ha) (hy.ev hc ha) Ez (hr w)
theorem V.lss (hx : OV c e x (.int k i)) (hy : OV c e y (.int k j)) : Val Mo P K n c e H ⟨dst, .binOp .lss t x y t', ty, pos, af, gd⟩ (.bool (decide (i < j))) := V.oI hx hy fun w => by simp [binOp, Op.intCmp]
theorem V.leq (hx : OV c e x (.int k i)) (hy : OV c e y (.int k j)) : Val Mo P K n c e H ⟨dst, .binOp .leq t x y t', ty, pos, af, gd⟩ (.bool (decide (i ≤ j))) := V.oI hx hy fun w => by simp [binOp, Op.intCmp]
theorem V.gtr (hx : OV c e x (.int k i)) (hy : OV c e y (.int k j)) : Val Mo P K n c e H ⟨dst, .binOp .gtr t x y t', ty, pos, af, gd⟩ (.bool (decide (j < i))) := V.oI hx hy fun w => by simp [binOp, Op.intCmp]
theorem V.geq (hx : OV c e x (.int k i)) (hy : OV c e y (.int k j)) : Val Mo P K n c e H ⟨dst, .binOp .geq t x y t', ty, pos, af, gd⟩ (.bool (decide (j ≤ i))) := V.oI hx hy fun w => by simp [binOp, Op.intCmp]
theorem V.eql (hx : OV c e x (.int k i)) (hy : OV c e y (.int k j)) : Val Mo P K n c e H ⟨dst, .binOp .eql t x y t', ty, pos, af, gd⟩ (.bool (decide (i = j))) := V.oI hx hy fun w => by
  simp [binOp, Op.intCmp]; rw [Bool.eq_iff_iff]; simp
theorem V.neq (hx : OV c e x (.int k i)) (hy : OV c e y (.int k j)) : Val Mo P K n c e H ⟨dst, .binOp .neq t x y t', ty, pos, af, gd⟩ (.bool (!decide (i = j))) := V.oI hx hy fun w => by
  simp [binOp, Op.intCmp]; rw [Bool.eq_iff_iff]; simp
theorem V.add (hx : OV c e x (.int k i)) (hy : OV c e y (.int k j)) : Val Mo P K n c e H ⟨dst, .binOp .add t x y t', ty, pos, af, gd⟩ (.int k (k.wrap (i + j))) := V.oI hx hy fun w => by simp [binOp, Op.intArith]
theorem V.sub (hx : OV c e x (.int k i)) (hy : OV c e y (.int k j)) : Val Mo P K n c e H ⟨dst, .binOp .sub t x y t', ty, pos, af, gd⟩ (.int k (k.wrap (i - j))) := V.oI hx hy fun w => by simp [binOp, Op.intArith]
theorem V.mul (hx : OV c e x (.int k i)) (hy : OV c e y (.int k j)) : Val Mo P K n c e H ⟨dst, .binOp .mul t x y t', ty, pos, af, gd⟩ (.int k (k.wrap (i * j))) := V.oI hx hy fun w => by simp [binOp, Op.intArith]
theorem wrap_i64 {i : Int} (h : -9223372036854775808 ≤ i ∧ i ≤ 9223372036854775807) : IntKind.i64.wrap i = i := IntWalk.i64_in i h
theorem V.aA {o : Oper} {v v' : Value} (h : Val Mo P K n c e H o v) (he : c = true → v = v') : Val Mo P K n c e H o v' := fun hc => by rw [← he hc]; exact h hc
theorem V.jO (hx : OV c e x (.int .i64 i)) (hy : OV c e y (.int .i64 j)) (h : c = true → -9223372036854775808 ≤ i + j ∧ i + j ≤ 9223372036854775807) : Val Mo P K n c e H ⟨dst, .binOp .add t x y t', ty, pos, af, gd⟩ (.int .i64 (i + j)) := V.aA (V.add hx hy) fun hc => by rw [wrap_i64 (h hc)]
theorem V.wM (hx : OV c e x (.int .i64 i)) (hy : OV c e y (.int .i64 j)) (h : c = true → -9223372036854775808 ≤ i - j ∧ i - j ≤ 9223372036854775807) : Val Mo P K n c e H ⟨dst, .binOp .sub t x y t', ty, pos, af, gd⟩ (.int .i64 (i - j)) := V.aA (V.sub hx hy) fun hc => by rw [wrap_i64 (h hc)]
theorem V.jQ (hx : OV c e x (.int .i64 i)) (hy : OV c e y (.int .i64 j)) (h : c = true → -9223372036854775808 ≤ i * j ∧ i * j ≤ 9223372036854775807) : Val Mo P K n c e H ⟨dst, .binOp .mul t x y t', ty, pos, af, gd⟩ (.int .i64 (i * j)) := V.aA (V.mul hx hy) fun hc => by rw [wrap_i64 (h hc)]
theorem V.quo (hx : OV c e x (.int k i)) (hy : OV c e y (.int k j)) (h : j ≠ 0) : Val Mo P K n c e H ⟨dst, .binOp .quo t x y t', ty, pos, af, gd⟩ (.int k (k.wrap (i.tdiv j))) := V.oI hx hy fun w => by simp [binOp, Op.intDiv, h]
theorem V.rem (hx : OV c e x (.int k i)) (hy : OV c e y (.int k j)) (h : j ≠ 0) : Val Mo P K n c e H ⟨dst, .binOp .rem t x y t', ty, pos, af, gd⟩ (.int k (i.tmod j)) := V.oI hx hy fun w => by simp [binOp, Op.intDiv, h]
theorem V.rR (hx : OV c e x (.int .i64 i)) (hy : OV c e y (.int .i64 j)) (h : c = true → 0 ≤ i ∧ i ≤ 9223372036854775807 ∧ 0 < j) : Val Mo P K n c e H ⟨dst, .binOp .quo t x y t', ty, pos, af, gd⟩ (.int .i64 (i / j)) := fun hc => by
  obtain ⟨h1, h2, h3⟩ := h hc
  refine V.aA (V.quo hx hy (by omega)) (fun _ => ?_) hc
  rw [Int.tdiv_eq_ediv_of_nonneg h1, wrap_i64 ⟨by have := Int.ediv_nonneg h1 (Int.le_of_lt h3); omega, by have := Int.ediv_le_self j h1; omega⟩]
theorem V.qH (hx : OV c e x (.int .i64 i)) (hy : OV c e y (.int .i64 j)) (h : c = true → 0 ≤ i ∧ 0 < j) : Val Mo P K n c e H ⟨dst, .binOp .rem t x y t', ty, pos, af, gd⟩ (.int .i64 (i % j)) := fun hc => by
  obtain ⟨h1, h3⟩ := h hc
  refine V.aA (V.rem hx hy (by omega)) (fun _ => ?_) hc
  rw [Int.tmod_eq_emod_of_nonneg h1]
def bitsOf (op : BinOp) (k : IntKind) (i j : Int) : Int :=
  let a := BitVec.ofInt k.bits i
  let b := BitVec.ofInt k.bits j
  k.wrap (match op with | .and => (a &&& b) | .or => (a ||| b) | .xor => (a ^^^ b) | _ => (a &&& ~~~b)).toNat
theorem V.and (hx : OV c e x (.int k i)) (hy : OV c e y (.int k j)) : Val Mo P K n c e H ⟨dst, .binOp .and t x y t', ty, pos, af, gd⟩ (.int k (bitsOf .and k i j)) := V.oI hx hy fun w => by simp [binOp, Op.intBits, bitsOf]
theorem V.or (hx : OV c e x (.int k i)) (hy : OV c e y (.int k j)) : Val Mo P K n c e H ⟨dst, .binOp .or t x y t', ty, pos, af, gd⟩ (.int k (bitsOf .or k i j)) := V.oI hx hy fun w => by simp [binOp, Op.intBits, bitsOf]
theorem V.xor (hx : OV c e x (.int k i)) (hy : OV c e y (.int k j)) : Val Mo P K n c e H ⟨dst, .binOp .xor t x y t', ty, pos, af, gd⟩ (.int k (bitsOf .xor k i j)) := V.oI hx hy fun w => by simp [binOp, Op.intBits, bitsOf]
theorem V.andNot (hx : OV c e x (.int k i)) (hy : OV c e y (.int k j)) : Val Mo P K n c e H ⟨dst, .binOp .andNot t x y t', ty, pos, af, gd⟩ (.int k (bitsOf .andNot k i j)) := V.oI hx hy fun w => by simp [binOp, Op.intBits, bitsOf]
theorem V.shl (hx : OV c e x (.int k i)) (hy : OV c e y (.int k' j)) (h : 0 ≤ j) : Val Mo P K n c e H ⟨dst, .binOp .shl t x y t', ty, pos, af, gd⟩ (.int k (k.wrap (i * 2 ^ (min j.toNat k.bits)))) := V.oI hx hy fun w => by
  simp [binOp, Op.shift, Int.not_lt.2 h]
theorem V.shr (hx : OV c e x (.int k i)) (hy : OV c e y (.int k' j)) (h : 0 ≤ j) : Val Mo P K n c e H ⟨dst, .binOp .shr t x y t', ty, pos, af, gd⟩ (.int k (i.fdiv (2 ^ (min j.toNat k.bits)))) := V.oI hx hy fun w => by
  simp [binOp, Op.shift, Int.not_lt.2 h]
end ints
theorem V.P6 {x y : Operand} {t t' : TypeId} {i j : Bool} (ht : P.underlying t = some .bool) (hx : OV c e x (.bool i)) (hy : OV c e y (.bool j)) : Val Mo P K n c e H ⟨dst, .binOp .eql t x y t', ty, pos, af, gd⟩ (.bool (i == j)) :=
  fun hc a w ha _ => kX (hx.ev hc ha) (hy.ev hc ha) sV (by
    show ((Op.equal t (.bool i) (.bool j) >>= fun r => pure (Value.bool r)) : Sem Value).run P w = _
    simp only [Sem.run_bind, run_equal_bool w t i j ht, Result.andThen_ok, Sem.run_pure])
theorem V.PL {x y : Operand} {t t' : TypeId} {i j : Bool} (ht : P.underlying t = some .bool) (hx : OV c e x (.bool i)) (hy : OV c e y (.bool j)) : Val Mo P K n c e H ⟨dst, .binOp .neq t x y t', ty, pos, af, gd⟩ (.bool (!(i == j))) :=
  fun hc a w ha _ => kX (hx.ev hc ha) (hy.ev hc ha) sV (by
    show ((Op.equal t (.bool i) (.bool j) >>= fun r => pure (Value.bool (!r))) : Sem Value).run P w = _
    simp only [Sem.run_bind, run_equal_bool w t i j ht, Result.andThen_ok, Sem.run_pure])
theorem V.P9 {x y : Operand} {t t' : TypeId} {i j : ByteArray} (hx : OV c e x (.string i)) (hy : OV c e y (.string j)) : Val Mo P K n c e H ⟨dst, .binOp .eql t x y t', ty, pos, af, gd⟩ (.bool (i.toList == j.toList)) :=
  fun hc a w ha _ => kX (hx.ev hc ha) (hy.ev hc ha) oK (by simp [binOp, Op.stringOp])
theorem V.P5 {x y : Operand} {t t' : TypeId} {i j : ByteArray} (hx : OV c e x (.string i)) (hy : OV c e y (.string j)) : Val Mo P K n c e H ⟨dst, .binOp .neq t x y t', ty, pos, af, gd⟩ (.bool (!(i.toList == j.toList))) :=
  fun hc a w ha _ => kX (hx.ev hc ha) (hy.ev hc ha) oK (by simp [binOp, Op.stringOp])
theorem V.ku {x y : Operand} {t t' : TypeId} {i : Option Addr} (ht : P.underlying t = some (.pointer (P.pointee t))) (hx : OV c e x (.pointer i)) (hy : OV c e y (.pointer none)) : Val Mo P K n c e H ⟨dst, .binOp .eql t x y t', ty, pos, af, gd⟩ (.bool i.isNone) :=
  fun hc a w ha _ => kX (hx.ev hc ha) (hy.ev hc ha) wo (by
    have h1 : (binOp .eql t (.pointer i) (.pointer none)) = ((Op.equal t (.pointer i) (.pointer none) >>= fun r => pure (Value.bool r)) : Sem Value) := by cases i <;> rfl
    rw [h1]
    simp only [Sem.run_bind, run_equal_pointer_nil w t i ht, Result.andThen_ok, Sem.run_pure])
theorem V.Qg {x y : Operand} {t t' : TypeId} {i : Option Addr} (ht : P.underlying t = some (.pointer (P.pointee t))) (hx : OV c e x (.pointer i)) (hy : OV c e y (.pointer none)) : Val Mo P K n c e H ⟨dst, .binOp .neq t x y t', ty, pos, af, gd⟩ (.bool (!i.isNone)) :=
  fun hc a w ha _ => kX (hx.ev hc ha) (hy.ev hc ha) wo (by
    have h1 : (binOp .neq t (.pointer i) (.pointer none)) = ((Op.equal t (.pointer i) (.pointer none) >>= fun r => pure (Value.bool (!r))) : Sem Value) := by cases i <;> rfl
    rw [h1]
    simp only [Sem.run_bind, run_equal_pointer_nil w t i ht, Result.andThen_ok, Sem.run_pure])
theorem V.not {x : Operand} {t : TypeId} {g : Bool} (hx : OV c e x (.bool g)) : Val Mo P K n c e H ⟨dst, .unOp .not t x, ty, pos, af, gd⟩ (.bool (!g)) := fun hc a w ha _ => by
  show ((do pure (Next.value (← Op.unary .not (a.eval x)))) : Sem Next).run P w = _
  rw [hx.ev hc ha]; rfl
theorem V.extract {x : Operand} {i : Nat} {vs : List Value} {v : Value} (hx : OV c e x (.tuple vs.toArray)) (hv : vs[i]? = some v) : Val Mo P K n c e H ⟨dst, .extract x i, ty, pos, af, gd⟩ v := fun hc a w ha _ => by
  show ((do pure (Next.value (← Instr.extract (a.eval x) i))) : Sem Next).run P w = _
  rw [hx.ev hc ha]
  simp [Instr.extract, hv]
theorem V.iM {x : Operand} {s t : TypeId} {k k' : IntKind} {i : Int} {ds : TypeDesc} (hs : ∀ w, (underlying s).run P w = .ok ds w) (ht : ∀ w, (underlying t).run P w = .ok (.int k') w) (hx : OV c e x (.int k i)) :
    Val Mo P K n c e H ⟨dst, .convert s t x, ty, pos, af, gd⟩ (.int k' (k'.wrap i)) := fun hc a w ha _ => by
  show ((do pure (Next.value (← convert s t (a.eval x)))) : Sem Next).run P w = _
  rw [hx.ev hc ha]
  simp only [convert, Sem.run_bind, hs, ht, Result.andThen_ok]
  cases ds <;> rfl
theorem V.tX {x : Operand} {s t : TypeId} {k k' : IntKind} {i : Int} {ds : TypeDesc} (hs : ∀ w, (underlying s).run P w = .ok ds w) (ht : ∀ w, (underlying t).run P w = .ok (.int k') w) (hx : OV c e x (.int k i)) (hi : c = true → k'.wrap i = i) :
    Val Mo P K n c e H ⟨dst, .convert s t x, ty, pos, af, gd⟩ (.int k' i) := V.aA (V.iM hs ht hx) fun hc => by rw [hi hc]
def aN (P : Program) (S f off : Nat) : Prop := ∀ (a : Addr) (w : World), (Instr.fieldAt S (.pointer (some a)) f).run P w = .ok (.pointer (some (a.add off))) w
theorem V.fieldAddr {x : Operand} {S f off b o : Nat} (hF : aN P S f off) (hx : OV c e x (ptr b o)) : Val Mo P K n c e H ⟨dst, .fieldAddr S x f, ty, pos, af, gd⟩ (ptr b (o + off)) := fun hc a w ha _ => by
  show ((do pure (Next.value (← Instr.fieldAt S (a.eval x) f))) : Sem Next).run P w = _
  rw [hx.ev hc ha, Sem.run_bind, hF, gZ]; rfl
theorem V.nilCheck {x : Operand} {p : Addr} (hx : OV c e x (.pointer (some p))) : Val Mo P K n c e H ⟨dst, .nilCheck x, ty, pos, af, gd⟩ (.pointer (some p)) := fun hc a w ha _ => by
  show (match a.eval x with
    | .pointer none | .nilIface | .nilFunc => runtimePanic .nilDeref
    | .func (.method name) first captured => _
    | x => pure (.value x) : Sem Next).run P w = _
  rw [hx.ev hc ha]; rfl
end
end Go.Sl
