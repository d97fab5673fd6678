/- A small symbolic executor by lemmas: slots as an association list, memory as a list of disjoint assertions. Over any program. -/
import Derived.Test.YtcmojpiokjhmhaaSlZ
namespace Go.Sl
open Go.RowKit
set_option linter.unusedVariables false

/-! ### Memory: assertions with a footprint -/
structure Assn where
  foot : Nat → Prop
  holds : World → Prop
  loc : ∀ w w' : World, (∀ b, foot b → w'.heap[b]? = w.heap[b]?) → holds w → holds w'

/-- The streams are K's, the heap has not shrunk. -/
structure Same (K w : World) : Prop where
  os : w.os = K.os
  tape : w.tape = K.tape
  output : w.output = K.output
  size : K.heap.size ≤ w.heap.size

def SatL (w : World) : List Assn → Prop
  | [] => True
  | A :: H => A.holds w ∧ (∀ b, A.foot b → b < w.heap.size) ∧ (∀ b, A.foot b → ∀ B ∈ H, ¬ B.foot b) ∧ SatL w H
def Sat (K w : World) (H : List Assn) : Prop := Same K w ∧ SatL w H

theorem SatL.tail {w : World} {A : Assn} {H : List Assn} (h : SatL w (A :: H)) : SatL w H := h.2.2.2
theorem Sat.tail {K w : World} {A : Assn} {H : List Assn} (h : Sat K w (A :: H)) : Sat K w H := ⟨h.1, h.2.tail⟩
theorem Sat.head {K w : World} {A : Assn} {H : List Assn} (h : Sat K w (A :: H)) : A.holds w := h.2.1
theorem SatL.drop {w : World} : ∀ (k : Nat) {H : List Assn}, SatL w H → SatL w (H.drop k)
  | 0, _, h => h
  | _ + 1, [], h => h
  | k + 1, _ :: _, h => SatL.drop k h.tail
theorem Sat.drop {K w : World} {H : List Assn} (k : Nat) (h : Sat K w H) : Sat K w (H.drop k) := ⟨h.1, h.2.drop k⟩
theorem SatL.mem {w : World} : ∀ {H : List Assn} {A : Assn}, SatL w H → A ∈ H → A.holds w ∧ ∀ b, A.foot b → b < w.heap.size
  | B :: H, A, h, hm => by
    rcases List.mem_cons.1 hm with rfl | hm
    · exact ⟨h.1, h.2.1⟩
    · exact h.tail.mem hm

/-- All feet are below the size; another world in which no block of theirs has turned. -/
theorem SatL.keep {w w' : World} (hs : w.heap.size ≤ w'.heap.size) : ∀ {H : List Assn}, (∀ A ∈ H, ∀ b, A.foot b → w'.heap[b]? = w.heap[b]?) → SatL w H → SatL w' H
  | [], _, _ => trivial
  | A :: H, hk, h => ⟨A.loc w w' (hk A (.head _)) h.1, fun b hb => Nat.lt_of_lt_of_le (h.2.1 b hb) hs, h.2.2.1, SatL.keep hs (fun B hB => hk B (.tail _ hB)) h.tail⟩
theorem SatL.grow {w w' : World} (hs : w.heap.size ≤ w'.heap.size) (hk : ∀ b, b < w.heap.size → w'.heap[b]? = w.heap[b]?) {H : List Assn} (h : SatL w H) : SatL w' H :=
  h.keep hs fun A hA b hb => hk b ((h.mem hA).2 b hb)
/-- A new entry whose blocks are new. -/
theorem SatL.push {w w' : World} (hs : w.heap.size ≤ w'.heap.size) (hk : ∀ b, b < w.heap.size → w'.heap[b]? = w.heap[b]?) {H : List Assn} (h : SatL w H)
    {A : Assn} (hA : A.holds w') (h1 : ∀ b, A.foot b → w.heap.size ≤ b ∧ b < w'.heap.size) : SatL w' (A :: H) :=
  ⟨hA, fun b hb => (h1 b hb).2, fun b hb B hB hb' => by have := (h.mem hB).2 b hb'; have := (h1 b hb).1; omega, h.grow hs hk⟩
/-- The first entry is turned, its feet the same or fewer; blocks outside its feet stay. -/
theorem SatL.set {w w' : World} (hs : w.heap.size ≤ w'.heap.size) {A A' : Assn} {H : List Assn} (h : SatL w (A :: H)) (hk : ∀ b, ¬ A.foot b → b < w.heap.size → w'.heap[b]? = w.heap[b]?)
    (hA : A'.holds w') (hf : ∀ b, A'.foot b → A.foot b ∨ (w.heap.size ≤ b ∧ b < w'.heap.size)) : SatL w' (A' :: H) := by
  refine ⟨hA, fun b hb => ?_, fun b hb B hB hb' => ?_, h.tail.keep hs fun B hB b hb => hk b (fun ha => h.2.2.1 b ha B hB hb) ((h.tail.mem hB).2 b hb)⟩
  · rcases hf b hb with h1 | h1
    · exact Nat.lt_of_lt_of_le (h.2.1 b h1) hs
    · exact h1.2
  · rcases hf b hb with h1 | h1
    · exact h.2.2.1 b h1 B hB hb'
    · have := (h.tail.mem hB).2 b hb'
      omega
theorem SatL.swap {w : World} {A B : Assn} {H : List Assn} (h : SatL w (A :: B :: H)) : SatL w (B :: A :: H) :=
  ⟨h.tail.1, h.tail.2.1, fun b hb C hC hc => by
    rcases List.mem_cons.1 hC with rfl | hC
    · exact h.2.2.1 b hc B (.head _) hb
    · exact h.tail.2.2.1 b hb C hC hc, h.1, h.2.1, fun b hb C hC => h.2.2.1 b hb C (.tail _ hC), h.tail.tail⟩
theorem SatL.cons_congr {w : World} {A : Assn} {H H' : List Assn} (h : SatL w (A :: H)) (hH : SatL w H → SatL w H') (hm : ∀ B ∈ H', B ∈ H) : SatL w (A :: H') :=
  ⟨h.1, h.2.1, fun b hb B hB => h.2.2.1 b hb B (hm B hB), hH h.tail⟩
/-- Entry number i comes to the front. -/
def pull (i : Nat) (H : List Assn) : List Assn := match H[i]? with | some A => A :: H.eraseIdx i | none => H
theorem SatL.pull_aux {w : World} : ∀ (i : Nat) {H : List Assn} {A : Assn}, H[i]? = some A → SatL w H → SatL w (A :: H.eraseIdx i)
  | _, [], _, hi, _ => by simp at hi
  | 0, B :: H, A, hi, h => by simp at hi; subst hi; exact h
  | i + 1, B :: H, A, hi, h => by
    have h1 := SatL.pull_aux i (A := A) (by simpa using hi) h.tail
    have h2 : SatL w (B :: A :: H.eraseIdx i) := h.cons_congr (fun _ => h1) (fun C hC => by
      rcases List.mem_cons.1 hC with rfl | hC
      · exact List.mem_of_getElem? (by simpa using hi)
      · exact List.mem_of_mem_eraseIdx hC)
    exact h2.swap
theorem Sat.pull {K w : World} {H : List Assn} (i : Nat) (h : Sat K w H) : Sat K w (pull i H) := by
  unfold Sl.pull
  split
  · rename_i A hi; exact ⟨h.1, SatL.pull_aux i hi h.2⟩
  · exact h
theorem Same.grow {K w w' : World} (h : Same K w) (h1 : w'.os = w.os) (h2 : w'.tape = w.tape) (h3 : w'.output = w.output) (h4 : w.heap.size ≤ w'.heap.size) : Same K w' :=
  ⟨h1.trans h.os, h2.trans h.tape, h3.trans h.output, Nat.le_trans h.size h4⟩
theorem Sat.drew {K w : World} {H : List Assn} (h : Sat K w H) : Sat K { w with drawn := w.drawn + 1 } H :=
  ⟨h.1.grow rfl rfl rfl (Nat.le_refl _), SatL.grow (w := w) (w' := { w with drawn := w.drawn + 1 }) (Nat.le_refl _) (fun _ _ => rfl) h.2⟩

/-! ### Slots -/
abbrev Env := List (Nat × Value)
def look : Env → Nat → Option Value
  | [], _ => none
  | (k, v) :: e, t => bif Nat.beq k t then some v else look e t
structure Agree (Mo : Mode) (n : Nat) (e : Env) (a : Act) : Prop where
  defers : a.defers = Mo.ds
  size : a.tmps.size = n
  at_ : ∀ t v, look e t = some v → a.tmps.getD t undef = v
def opv (e : Env) : Operand → Option Value
  | .tmp t => look e t
  | .const v => some v
  | .global g => some (.pointer (some ⟨g, 0, none⟩))
  | .func f => some (.func (.func f) #[] #[])
theorem Agree.ev {Mo : Mode} {n : Nat} {e : Env} {a : Act} (h : Agree Mo n e a) {x : Operand} {v : Value} (hx : opv e x = some v) : a.eval x = v := by
  cases x with
  | tmp t => exact h.at_ t v hx
  | const u => simpa [opv, Act.eval] using hx
  | global g => simpa [opv, Act.eval] using hx
  | func f => simpa [opv, Act.eval] using hx
theorem Agree.put {Mo : Mode} {n : Nat} {e : Env} {a : Act} (h : Agree Mo n e a) (d : Nat) (hd : Nat.blt d n = true) (v : Value) : Agree Mo n ((d, v) :: e) (a.put (some d) v) := by
  have hd' : d < a.tmps.size := by rw [h.size]; simpa using hd
  refine ⟨h.defers, by simp [Act.put, h.size], fun t u hu => ?_⟩
  simp only [look] at hu
  cases hk : Nat.beq d t with
  | true =>
    simp only [hk, cond_true] at hu
    obtain rfl := Nat.eq_of_beq_eq_true hk
    simp [Act.put, Array.getD, hd'] at hu ⊢
    exact hu
  | false =>
    simp only [hk, cond_false] at hu
    have hne : d ≠ t := Nat.ne_of_beq_eq_false hk
    have := h.at_ t u hu
    simp only [Act.put, Array.getD_eq_getD_getElem?, Array.getElem?_setIfInBounds, if_neg hne] at this ⊢
    exact this
theorem Agree.none {Mo : Mode} {n : Nat} {e : Env} {a : Act} (h : Agree Mo n e a) (v : Value) : Agree Mo n e (a.put none v) := h

/-- Every slot that E names has that value in e. -/
def Sub (E e : Env) : Prop := ∀ t v, look E t = some v → look e t = some v
theorem Sub.nil (e : Env) : Sub [] e := fun _ _ h => by simp [look] at h
theorem Sub.cons {E e : Env} {t : Nat} {v : Value} (h : look e t = some v) (k : Sub E e) : Sub ((t, v) :: E) e := fun s u hu => by
  simp only [look] at hu
  cases hk : Nat.beq t s with
  | true =>
    simp only [hk, cond_true, Option.some.injEq] at hu
    obtain rfl := Nat.eq_of_beq_eq_true hk
    rw [h, hu]
  | false => simp only [hk, cond_false] at hu; exact k s u hu
theorem Sub.refl (e : Env) : Sub e e := fun _ _ h => h
theorem Agree.sub {Mo : Mode} {n : Nat} {E e : Env} {a : Act} (h : Agree Mo n e a) (hs : Sub E e) : Agree Mo n E a := ⟨h.defers, h.size, fun t v hv => h.at_ t v (hs t v hv)⟩

/-! ### The judgements -/
abbrev Post := Mode → Exit → Env → List Assn → Prop
def lift (r : Option (Option Nat)) (K : World) (n : Nat) (Q : Post) (x : Exit) (a : Act) (w : World) : Prop := ∃ ds e H, Agree ⟨r, ds⟩ n e a ∧ Sat K w H ∧ Q ⟨r, ds⟩ x e H
def WC (Mo : Mode) (P : Program) (K : World) (n : Nat) (c : Code) (Q : Post) (e : Env) (H : List Assn) : Prop :=
  ∀ a w, Agree Mo n e a → Sat K w H → cwp Mo P c (lift Mo.round K n Q) a w
def WL (Mo : Mode) (P : Program) (K : World) (n : Nat) (ops : Array Oper) (rest : List Oper) (Q : Post) (e : Env) (H : List Assn) : Prop :=
  ∀ a w, Agree Mo n e a → Sat K w H → lwp Mo P ops (lift Mo.round K n Q) rest a w
/-- After a normal end the rest, else Q. -/
def Then (R : Mode → Env → List Assn → Prop) (Q : Post) : Post
  | Mo, .normal, e, H => R Mo e H
  | Mo, x, e, H => Q Mo x e H
def InBlock (id : Nat) (Q : Post) : Post
  | Mo, .exit id', e, H => bif Nat.beq id' id then Q Mo .normal e H else Q Mo (.exit id') e H
  | Mo, x, e, H => Q Mo x e H

section
variable {Mo : Mode} {P : Program} {K : World} {n : Nat} {Q : Post} {e : Env} {H : List Assn}

theorem lift_mono {r : Option (Option Nat)} {Q Q' : Post} (h : ∀ Mo x e H, Q Mo x e H → Q' Mo x e H) (x : Exit) (a : Act) (w : World) (hh : lift r K n Q x a w) : lift r K n Q' x a w := by
  obtain ⟨ds, e, H, h1, h2, h3⟩ := hh; exact ⟨ds, e, H, h1, h2, h _ _ _ _ h3⟩

theorem WC.skip (h : Q Mo .normal e H) : WC Mo P K n .skip Q e H := fun a w ha hw => cwp_skip ⟨_, e, H, ha, hw, h⟩
theorem WC.label {l : Nat} (h : Q Mo .normal e H) : WC Mo P K n (.label l) Q e H := fun a w ha hw => cwp_label ⟨_, e, H, ha, hw, h⟩
theorem WC.exit {id : Nat} (h : Q Mo (.exit id) e H) : WC Mo P K n (.exit id) Q e H := fun a w ha hw => cwp_exit ⟨_, e, H, ha, hw, h⟩
theorem WC.goto {l : Nat} (h : Q Mo (.goto l) e H) : WC Mo P K n (.goto l) Q e H := fun a w ha hw => cwp_goto ⟨_, e, H, ha, hw, h⟩
theorem WC.ret (h : Q Mo .ret e H) : WC Mo P K n .ret Q e H := fun a w ha hw => cwp_ret ⟨_, e, H, ha, hw, h⟩
theorem WC.seq {x y : Code} (h : WC Mo P K n x (Then (fun Mo => WC Mo P K n y Q) Q) e H) : WC Mo P K n (.seq x y) Q e H := fun a w ha hw => by
  refine cwp_seq (cwp_mono (h a w ha hw) ?_)
  rintro x a w ⟨ds, e', H', h1, h2, h3⟩
  cases x
  case normal =>
    have h4 := h3 a w h1 h2
    obtain ⟨r, ds0⟩ := Mo
    cases r <;> exact h4
  all_goals exact ⟨ds, e', H', h1, h2, h3⟩
theorem WC.block {id : Nat} {c : Code} (h : WC Mo P K n c (InBlock id Q) e H) : WC Mo P K n (.block id c) Q e H := fun a w ha hw => by
  refine cwp_block (cwp_mono (h a w ha hw) ?_)
  rintro x a w ⟨ds, e', H', h1, h2, h3⟩
  cases x with
  | exit id' =>
    simp only [InBlock] at h3 ⊢
    by_cases hid : id' = id
    · subst hid; simp at h3 ⊢; exact ⟨ds, e', H', h1, h2, h3⟩
    · have : Nat.beq id' id = false := by cases hb : Nat.beq id' id with | false => rfl | true => exact (hid (Nat.eq_of_beq_eq_true hb)).elim
      simp only [this, cond_false] at h3
      rw [if_neg hid]
      exact ⟨ds, e', H', h1, h2, h3⟩
  | _ => exact ⟨ds, e', H', h1, h2, h3⟩
theorem WC.cond {c : Operand} {x y : Code} {t : Bool} (hc : opv e c = some (.bool t)) (ht : t = true → WC Mo P K n x Q e H) (hf : t = false → WC Mo P K n y Q e H) :
    WC Mo P K n (.cond c x y) Q e H := fun a w ha hw => cwp_cond (ha.ev hc) (fun h => ht h a w ha hw) (fun h => hf h a w ha hw)
theorem WC.condT {c : Operand} {x y : Code} (hc : opv e c = some (.bool true)) (h : WC Mo P K n x Q e H) : WC Mo P K n (.cond c x y) Q e H :=
  WC.cond hc (fun _ => h) (fun h => by cases h)
theorem WC.condF {c : Operand} {x y : Code} (hc : opv e c = some (.bool false)) (h : WC Mo P K n y Q e H) : WC Mo P K n (.cond c x y) Q e H :=
  WC.cond hc (fun h => by cases h) (fun _ => h)
theorem WC.region {id : Nat} {l : List Oper} (h : WL Mo P K n l.toArray l Q e H) : WC Mo P K n (.region id l.toArray false) Q e H := fun a w ha hw => cwp_region (h a w ha hw)
/-- Fewer slots, weaker memory. -/
theorem WC.sub {c : Code} {E : Env} {H' : List Assn} (hE : Sub E e) (hH : ∀ w, Sat K w H → Sat K w H') (h : WC Mo P K n c Q E H') : WC Mo P K n c Q e H :=
  fun a w ha hw => h a w (ha.sub hE) (hH w hw)
theorem WC.mono {c : Code} {Q' : Post} (h : WC Mo P K n c Q e H) (hq : ∀ Mo x e H, Q Mo x e H → Q' Mo x e H) : WC Mo P K n c Q' e H :=
  fun a w ha hw => cwp_mono (h a w ha hw) fun x a w hh => lift_mono hq x a w hh
theorem WL.nil {ops : Array Oper} (h : Q Mo .normal e H) : WL Mo P K n ops [] Q e H := fun a w ha hw => lwp_nil ⟨_, e, H, ha, hw, h⟩
theorem WL.sub {ops : Array Oper} {l : List Oper} {E : Env} {H' : List Assn} (hE : Sub E e) (hH : ∀ w, Sat K w H → Sat K w H') (h : WL Mo P K n ops l Q E H') : WL Mo P K n ops l Q e H :=
  fun a w ha hw => h a w (ha.sub hE) (hH w hw)

/-- A loop: its states are a family of slots and memory; each round lowers the measure. -/
def Round {σ : Type} (Mo : Mode) (K : World) (E : σ → Env) (M : σ → List Assn) (I : σ → Prop) (μ : σ → Nat) (s : σ) (Mo' : Mode) (e' : Env) (H' : List Assn) : Prop :=
  Mo'.ds = Mo.ds ∧ ∃ s', I s' ∧ μ s' < μ s ∧ Sub (E s') e' ∧ ∀ w, Sat K w H' → Sat K w (M s')
theorem WC.loop {c : Code} {σ : Type} (E : σ → Env) (M : σ → List Assn) (I : σ → Prop) (μ : σ → Nat) (s0 : σ) (h0 : I s0) (hE : Sub (E s0) e) (hH : ∀ w, Sat K w H → Sat K w (M s0))
    (round : ∀ s, I s → WC Mo P K n c (Then (Round Mo K E M I μ s) Q) (E s) (M s)) : WC Mo P K n (.loop c) Q e H := by
  intro a w ha hw
  refine cwp_loop (fun m a w => ∃ s, μ s = m ∧ I s ∧ Agree Mo n (E s) a ∧ Sat K w (M s)) (μ s0) ⟨s0, rfl, h0, ha.sub hE, hH w hw⟩ ?_
  rintro m a w ⟨s, rfl, hI, ha, hw⟩
  refine cwp_mono (round s hI a w ha hw) ?_
  rintro x a w ⟨ds, e', H', h1, h2, h3⟩
  cases x
  case normal =>
    obtain ⟨hm, s', k1, k2, k3, k4⟩ := h3
    obtain ⟨r, ds0⟩ := Mo
    obtain rfl : ds = ds0 := hm
    exact ⟨_, k2, s', rfl, k1, h1.sub k3, k4 w h2⟩
  all_goals exact ⟨ds, e', H', h1, h2, h3⟩

/-! ### Functions -/
def Does (P : Program) (f : FuncId) (args : Array Value) (K : World) (H : List Assn) (post : Value → List Assn → Prop) : Prop :=
  ∀ w, Sat K w H → Calls P f args w fun e w' => ∃ v H', e = .returned v ∧ Sat K w' H' ∧ post v H'
theorem Does.mono {f : FuncId} {args : Array Value} {post post' : Value → List Assn → Prop} (h : Does P f args K H post) (hp : ∀ v H', post v H' → post' v H') : Does P f args K H post' :=
  fun w hw => (h w hw).mono fun e w' ⟨v, H', h1, h2, h3⟩ => ⟨v, H', h1, h2, hp _ _ h3⟩
/-- Weaker memory ahead of the call. -/
theorem Does.sat {f : FuncId} {args : Array Value} {post : Value → List Assn → Prop} {H' : List Assn} (h : Does P f args K H' post) (hH : ∀ w, Sat K w H → Sat K w H') : Does P f args K H post :=
  fun w hw => h w (hH w hw)
/-- What a function's results are, at a return. -/
def Res (Mo : Mode) (P : Program) (K : World) (n : Nat) (fn : Func) (e : Env) (H : List Assn) (v : Value) : Prop :=
  ∀ a w, Agree Mo n e a → Sat K w H → (results fn a.tmps).run P w = .ok v w
def BodyQ (P : Program) (K : World) (n : Nat) (fn : Func) (post : Value → List Assn → Prop) : Post
  | Mo, .normal, e, H | Mo, .ret, e, H => Mo.ds = [] ∧ ∃ v H', Res Mo P K n fn e H v ∧ (∀ w, Sat K w H → Sat K w H') ∧ post v H'
  | _, _, _, _ => False
def env0 : Nat → List Value → Env
  | _, [] => []
  | i, v :: vs => (i, v) :: env0 (i + 1) vs
theorem look_env0 : ∀ (vs : List Value) (i t : Nat) (v : Value), look (env0 i vs) t = some v → i ≤ t ∧ vs[t - i]? = some v
  | [], _, _, _, h => by simp [env0, look] at h
  | u :: vs, i, t, v, h => by
    simp only [env0, look] at h
    cases hk : Nat.beq i t with
    | true =>
      simp only [hk, cond_true, Option.some.injEq] at h
      obtain rfl := Nat.eq_of_beq_eq_true hk
      simp [h]
    | false =>
      simp only [hk, cond_false] at h
      obtain ⟨h1, h2⟩ := look_env0 vs (i + 1) t v h
      refine ⟨by omega, ?_⟩
      rw [show t - i = (t - (i + 1)) + 1 by omega]
      simpa using h2
theorem Does.enter {f : FuncId} {fn : Func} {c : Code} {vs : List Value} {post : Value → List Assn → Prop} (hf : P.funcs[f]? = some fn) (hb : fn.body = some c) (hn : fn.ntmps = n) (hl : Nat.ble vs.length n = true)
    (h : WC ⟨none, []⟩ P K n c (BodyQ P K n fn post) (env0 0 vs) H) : Does P f vs.toArray K H post := by
  intro w hw
  refine calls_of_wp hf hb (wp_mono (h _ w ?_ hw) ?_)
  · have hl' : vs.length ≤ n := by simpa using hl
    refine ⟨rfl, by simp [hn]; omega, fun t v hv => ?_⟩
    obtain ⟨_, h2⟩ := look_env0 vs 0 t v hv
    simp only [Nat.sub_zero] at h2
    have ht : t < vs.length := by
      rcases Nat.lt_or_ge t vs.length with h | h
      · exact h
      · simp [List.getElem?_eq_none h] at h2
    rw [Array.getD_eq_getD_getElem?, Array.getElem?_append_left (by simpa using ht)]
    simp [h2]
  · rintro x a w ⟨ds, e', H', h1, h2, h3⟩
    cases x <;> first
      | (obtain ⟨k0, v, H'', k1, k2, k3⟩ := h3; exact ⟨h1.defers.trans k0, v, k1 a w h1 h2, v, H'', rfl, k2 w h2, k3⟩)
      | exact h3.elim
theorem Res.tmp {fn : Func} {t : Tmp} {v : Value} (hr : fn.results = #[.tmp t]) (h : look e t = some v) : Res Mo P K n fn e H v := fun a w ha _ => by
  rw [results_tmp hr]; rw [ha.at_ t v h]
theorem Res.none {fn : Func} (hr : fn.results = #[]) : Res Mo P K n fn e H (.tuple #[]) := fun a w _ _ => results_none hr _ _ _
theorem Res.tmp2 {fn : Func} {t u : Tmp} {v v' : Value} (hr : fn.results = #[.tmp t, .tmp u]) (h : look e t = some v) (h' : look e u = some v') : Res Mo P K n fn e H (.tuple #[v, v']) := fun a w ha _ => by
  rw [results_tmp2 hr]; rw [ha.at_ t v h, ha.at_ u v' h']
theorem Res.tmp3 {fn : Func} {t u r : Tmp} {v v' v'' : Value} (hr : fn.results = #[.tmp t, .tmp u, .tmp r]) (h : look e t = some v) (h' : look e u = some v') (h'' : look e r = some v'') : Res Mo P K n fn e H (.tuple #[v, v', v'']) := fun a w ha _ => by
  have e1 := ha.at_ t v h; have e2 := ha.at_ u v' h'; have e3 := ha.at_ r v'' h''
  simp only [Array.getD_eq_getD_getElem?] at e1 e2 e3
  simp [results, hr, e1, e2, e3]
theorem Res.tmp4 {fn : Func} {t u r s : Tmp} {v v' v'' v3 : Value} (hr : fn.results = #[.tmp t, .tmp u, .tmp r, .tmp s]) (h : look e t = some v) (h' : look e u = some v') (h'' : look e r = some v'') (h3 : look e s = some v3) : Res Mo P K n fn e H (.tuple #[v, v', v'', v3]) := fun a w ha _ => by
  have e1 := ha.at_ t v h; have e2 := ha.at_ u v' h'; have e3 := ha.at_ r v'' h''; have e4 := ha.at_ s v3 h3
  simp only [Array.getD_eq_getD_getElem?] at e1 e2 e3 e4
  simp [results, hr, e1, e2, e3, e4]
/-- A return. -/
theorem BodyQ.ret {fn : Func} {post : Value → List Assn → Prop} {v : Value} {H' : List Assn} {r : Option (Option Nat)} (hr : Res ⟨r, []⟩ P K n fn e H v) (hs : ∀ w, Sat K w H → Sat K w H') (hp : post v H') : BodyQ P K n fn post ⟨r, []⟩ .ret e H := ⟨rfl, v, H', hr, hs, hp⟩
theorem BodyQ.normal {fn : Func} {post : Value → List Assn → Prop} {v : Value} {H' : List Assn} {r : Option (Option Nat)} (hr : Res ⟨r, []⟩ P K n fn e H v) (hs : ∀ w, Sat K w H → Sat K w H') (hp : post v H') : BodyQ P K n fn post ⟨r, []⟩ .normal e H := ⟨rfl, v, H', hr, hs, hp⟩

/-! ### Operations: values -/
/-- The value where the guard holds, else the mark that nothing was reckoned. -/
def cv (c : Bool) (v : Value) : Value := if c then v else undef
/-- The guard's Bool as the slot has it. -/
def GC (gv : Value) (want : Bool) (c : Bool) : Prop := ((match gv with | .bool b => some b | _ => none) == some want) = c
theorem GC.t {b : Bool} : GC (.bool b) true b := by cases b <;> rfl
theorem GC.f {b : Bool} : GC (.bool b) false (!b) := by cases b <;> rfl
theorem GC.ct {c b : Bool} : GC (cv c (.bool b)) true (c && b) := by cases c <;> cases b <;> rfl
theorem GC.cf {c b : Bool} : GC (cv c (.bool b)) false (c && !b) := by cases c <;> cases b <;> rfl
/-- An operand's value where c holds. -/
def OV (c : Bool) (e : Env) (x : Operand) (v : Value) : Prop := ∃ u, opv e x = some u ∧ (c = true → u = v)
theorem OV.p {c : Bool} {x : Operand} {v : Value} (h : opv e x = some v) : OV c e x v := ⟨v, h, fun _ => rfl⟩
theorem OV.g {c c0 : Bool} {x : Operand} {v : Value} (h : opv e x = some (cv c0 v)) (hc : c = true → c0 = true) : OV c e x v := ⟨_, h, fun h' => by simp [cv, hc h']⟩
theorem OV.ev {c : Bool} {x : Operand} {v : Value} (h : OV c e x v) (hc : c = true) {a : Act} (ha : Agree Mo n e a) : a.eval x = v := by
  obtain ⟨u, h1, h2⟩ := h; rw [ha.ev h1, h2 hc]
/-- The operation yields v, the world as it is. -/
def Val (Mo : Mode) (P : Program) (K : World) (n : Nat) (c : Bool) (e : Env) (H : List Assn) (o : Oper) (v : Value) : Prop :=
  c = true → ∀ a w, Agree Mo n e a → Sat K w H → (execOp a.eval o).run P w = .ok (.value v) w
theorem WL.val {ops : Array Oper} {rest : List Oper} {d : Nat} {op : Op} {ty : TypeId} {pos : String} {af : Array Edge} {v : Value} (hv : Val Mo P K n true e H ⟨some d, op, ty, pos, af, none⟩ v) (hd : Nat.blt d n = true)
    (h : WL Mo P K n ops rest Q ((d, v) :: e) H) : WL Mo P K n ops (⟨some d, op, ty, pos, af, none⟩ :: rest) Q e H := fun a w ha hw => by
  exact lwp_plain rfl fun R hR => owp_value (hv rfl a w ha hw) (hR _ _ (h _ w (ha.put d hd v) hw))
theorem Region.wanted_iff {ops : Array Oper} {o : Oper} {a : Act} {j dj : Nat} {want : Bool} {oj : Oper} {gv : Value} {c : Bool} (hg : o.guard = some (j, want)) (hj : ops[j]? = some oj) (hdj : oj.dst = some dj)
    (hl : look e dj = some gv) (ha : Agree Mo n e a) (hG : GC gv want c) : Region.wanted o (yielded ops a.tmps) = c := by
  have h1 := ha.at_ dj gv hl
  simp only [Region.wanted, hg, yielded, hj, Option.bind_some, hdj]
  rw [Array.getD_eq_getD_getElem?] at h1
  cases ht : a.tmps[dj]? with
  | none =>
    simp only [ht, Option.getD_none] at h1
    subst h1
    rw [← hG]; rfl
  | some u =>
    simp only [ht, Option.getD_some] at h1
    subst h1
    cases u <;> exact hG
theorem WL.valG {ops : Array Oper} {rest : List Oper} {d j dj : Nat} {want : Bool} {oj : Oper} {op : Op} {ty : TypeId} {pos : String} {af : Array Edge} {v gv : Value} {c : Bool}
    (hj : ops[j]? = some oj) (hdj : oj.dst = some dj) (hl : look e dj = some gv) (hG : GC gv want c)
    (hv : Val Mo P K n c e H ⟨some d, op, ty, pos, af, some (j, want)⟩ v) (hd : Nat.blt d n = true)
    (h : WL Mo P K n ops rest Q ((d, cv c v) :: e) H) : WL Mo P K n ops (⟨some d, op, ty, pos, af, some (j, want)⟩ :: rest) Q e H := fun a w ha hw => by
  have hw' := Region.wanted_iff (o := ⟨some d, op, ty, pos, af, some (j, want)⟩) rfl hj hdj hl ha hG
  cases c with
  | false => exact lwp_unwanted hw' (h _ w (ha.put d hd _) hw)
  | true => exact lwp_wanted hw' fun R hR => owp_value (hv rfl a w ha hw) (hR _ _ (h _ w (ha.put d hd v) hw))
/-- Its guard says no: passed over. -/
theorem WL.skipG {ops : Array Oper} {rest : List Oper} {o oj : Oper} {j dj : Nat} {want : Bool} {gv : Value} (hg : o.guard = some (j, want))
    (hj : ops[j]? = some oj) (hdj : oj.dst = some dj) (hl : look e dj = some gv) (hG : GC gv want false) (hd : ∀ d, o.dst = some d → Nat.blt d n = true)
    (h : WL Mo P K n ops rest Q (match o.dst with | some d => (d, undef) :: e | none => e) H) : WL Mo P K n ops (o :: rest) Q e H := fun a w ha hw => by
  refine lwp_unwanted (Region.wanted_iff hg hj hdj hl ha hG) ?_
  cases hd' : o.dst with
  | none => rw [hd'] at h; exact h a w ha hw
  | some d => rw [hd'] at h; exact h _ w (ha.put d (hd d hd') _) hw
end
end Go.Sl
