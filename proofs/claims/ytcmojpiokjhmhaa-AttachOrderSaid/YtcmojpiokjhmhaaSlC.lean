/- The symbolic executor, third part: memory. -/
import Derived.Test.YtcmojpiokjhmhaaSlB
namespace Go.Sl
open Go.RowKit
set_option linter.unusedVariables false

/-- Block b is these cells. -/
def Cells (b T : Nat) (cs : List Value) : Assn where
  foot x := x = b
  holds w := w.heap[b]? = some (.cells cs.toArray T (0, 0))
  loc w w' h hw := by rw [h b rfl]; exact hw
/-- What was there at K's time, below its size. -/
def Old (K : World) : Assn where
  foot x := x < K.heap.size
  holds w := ∀ b, b < K.heap.size → w.heap[b]? = K.heap[b]?
  loc w w' h hw b hb := (h b hb).trans (hw b hb)
theorem Sat.old (K : World) : Sat K K [Old K] := ⟨⟨rfl, rfl, rfl, Nat.le_refl _⟩, fun _ _ => rfl, fun _ hb => hb, fun _ _ _ hB => by simp at hB, trivial⟩
theorem Sat.below {K w : World} {H : List Assn} (h : Sat K w (Old K :: H)) : Below K.heap.size K w := ⟨h.1.os, h.1.tape, h.1.output, h.1.size, h.head⟩

/-- A cell reads so in every world of the class. -/
def Rd (K : World) (H : List Assn) (p : Option Addr) (v : Value) : Prop := ∀ w, Sat K w H → ∃ a, p = some a ∧ w.cell? a = some v
theorem Rd.up {K : World} {H : List Assn} {A : Assn} {p : Option Addr} {v : Value} (h : Rd K H p v) : Rd K (A :: H) p v := fun w hw => h w hw.tail
theorem Rd.here {K : World} {H : List Assn} {b T o : Nat} {cs : List Value} {v : Value} (h : cs[o]? = some v) : Rd K (Cells b T cs :: H) (some ⟨b, o, none⟩) v := fun w hw => by
  refine ⟨_, rfl, ?_⟩
  have := hw.head
  simp only [Cells] at this
  simp [World.cell?, this, h]
/-- A row of cells reads so. -/
def Rds (K : World) (H : List Assn) (b o : Nat) (vs : List Value) : Prop := ∀ i v, vs[i]? = some v → Rd K H (some ⟨b, o + i, none⟩) v
theorem Rds.up {K : World} {H : List Assn} {A : Assn} {b o : Nat} {vs : List Value} (h : Rds K H b o vs) : Rds K (A :: H) b o vs := fun i v hi => (h i v hi).up
theorem Rds.here {K : World} {H : List Assn} {b T o : Nat} {cs vs : List Value} (h : vs <+: cs.drop o) : Rds K (Cells b T cs :: H) b o vs := fun i v hi => by
  refine Rd.here ?_
  obtain ⟨t, ht⟩ := h
  have := List.getElem?_drop (xs := cs) (i := o) (j := i)
  rw [← this, ← ht, List.getElem?_append_left (by
    rcases Nat.lt_or_ge i vs.length with h | h
    · exact h
    · simp [List.getElem?_eq_none h] at hi), hi]
/-- The cells from o on as a literal: for a whole struct. -/
theorem Rds.all {K : World} {H : List Assn} {b T : Nat} {cs : List Value} : Rds K (Cells b T cs :: H) b 0 cs := Rds.here (by simp)

section
variable {Mo : Mode} {P : Program} {K : World} {n : Nat} {Q : Post} {e : Env} {H : List Assn} {c : Bool} {dst : Option Tmp} {ty : TypeId} {pos : String} {af : Array Edge} {gd : Option (Nat × Bool)} {ops : Array Oper} {rest : List Oper}

def Scal (P : Program) (T : Nat) : Prop := ∀ w, (isAgg T).run P w = .ok false w
def Agg (P : Program) (T s : Nat) : Prop := (∀ w, (isAgg T).run P w = .ok true w) ∧ ∀ w, (sizeOf T).run P w = .ok s w
theorem V.load {x : Operand} {T : Nat} {p : Option Addr} {v : Value} (hT : Scal P T) (hx : OV c e x (.pointer p)) (hr : c = true → Rd K H p v) : Val Mo P K n c e H ⟨dst, .load T x, ty, pos, af, gd⟩ v := fun hc a w ha hw => by
  show ((do pure (Next.value (← Instr.loadAt T (a.eval x)))) : Sem Next).run P w = _
  obtain ⟨p', rfl, h2⟩ := hr hc w hw
  rw [hx.ev hc ha]
  simp [Instr.loadAt, Instr.sureAddr, loadVar, hT w, h2]
theorem V.loadA {x : Operand} {T s b o : Nat} {vs : List Value} (hT : Agg P T s) (hx : OV c e x (ptr b o)) (hs : vs.length = s) (hr : c = true → Rds K H b o vs) : Val Mo P K n c e H ⟨dst, .load T x, ty, pos, af, gd⟩ (.agg vs.toArray) := fun hc a w ha hw => by
  show ((do pure (Next.value (← Instr.loadAt T (a.eval x)))) : Sem Next).run P w = _
  rw [hx.ev hc ha]
  have h1 := run_loadCells_list (P := P) w ⟨b, o, none⟩ vs (fun j v hj => by
    obtain ⟨a', h1, h2⟩ := hr hc j v hj w hw
    injection h1 with h1; subst h1; rwa [add_mk])
  subst hs
  simp [Instr.loadAt, Instr.sureAddr, loadVar, hT.1 w, hT.2 w, h1]

/-- An operation that changes memory. -/
theorem WL.eff {d : Nat} {op : Op} {R : Value → List Assn → Prop}
    (hv : ∀ a w, Agree Mo n e a → Sat K w H → ∃ v w' H', (execOp a.eval ⟨some d, op, ty, pos, af, none⟩).run P w = .ok (.value v) w' ∧ Sat K w' H' ∧ R v H') (hd : Nat.blt d n = true)
    (h : ∀ v H', R v H' → WL Mo P K n ops rest Q ((d, v) :: e) H') : WL Mo P K n ops (⟨some d, op, ty, pos, af, none⟩ :: rest) Q e H := fun a w ha hw => by
  obtain ⟨v, w', H', h1, h2, h3⟩ := hv a w ha hw
  exact lwp_plain rfl fun S hS => owp_value h1 (hS _ _ (h v H' h3 _ w' (ha.put d hd v) h2))
/-- The same, nothing kept. -/
theorem WL.eff0 {op : Op} {R : List Assn → Prop}
    (hv : ∀ a w, Agree Mo n e a → Sat K w H → ∃ w' H', (((execOp a.eval ⟨none, op, ty, pos, af, none⟩).run P w = .ok .skip w') ∨ ∃ v, (execOp a.eval ⟨none, op, ty, pos, af, none⟩).run P w = .ok (.value v) w') ∧ Sat K w' H' ∧ R H')
    (h : ∀ H', R H' → WL Mo P K n ops rest Q e H') : WL Mo P K n ops (⟨none, op, ty, pos, af, none⟩ :: rest) Q e H := fun a w ha hw => by
  obtain ⟨w', H', h1, h2, h3⟩ := hv a w ha hw
  refine lwp_plain rfl fun S hS => ?_
  rcases h1 with h1 | ⟨v, h1⟩
  · exact owp_skip h1 (hS _ _ (h H' h3 _ w' (ha.none _) h2))
  · exact owp_value h1 (hS _ _ (h H' h3 _ w' (ha.none _) h2))

theorem Sat.alloc {w : World} (hw : Sat K w H) (T : Nat) (cs : List Value) : Sat K (w.alloc (.cells cs.toArray T)) (Cells w.heap.size T cs :: H) := by
  refine ⟨hw.1.grow rfl rfl rfl (by simp), hw.2.push (by simp) (fun b hb => ?_) ?_ (fun b hb => ?_)⟩
  · exact Below.heap_alloc _ _ _ hb
  · exact heap_alloc_new w _
  · simp only [Cells] at hb; subst hb; simp
theorem WL.box {d T : Nat} {x : Operand} {v : Value} {cs : List Value} (hx : OV true e x v) (hc : v.cells.toList = cs) (hd : Nat.blt d n = true)
    (h : ∀ b, WL Mo P K n ops rest Q ((d, ptr b 0) :: e) (Cells b T cs :: H)) : WL Mo P K n ops (⟨some d, .box T x, ty, pos, af, none⟩ :: rest) Q e H := by
  refine WL.eff (R := fun v H' => ∃ b, v = ptr b 0 ∧ H' = Cells b T cs :: H) (fun a w ha hw => ?_) hd (fun v H' ⟨b, e1, e2⟩ => by subst e1 e2; exact h b)
  refine ⟨ptr w.heap.size 0, w.alloc (.cells cs.toArray T), _, ?_, hw.alloc T cs, _, rfl, rfl⟩
  show ((do pure (Next.value (← Instr.box T (a.eval x)))) : Sem Next).run P w = _
  rw [hx.ev rfl ha, ← hc]
  simp [Instr.box, newVar, newRow]
theorem WL.alloc {d T : Nat} {z : Value} {cs : List Value} (hz : ∀ w, (zeroValue T).run P w = .ok z w) (hc : z.cells.toList = cs) (hd : Nat.blt d n = true)
    (h : ∀ b, WL Mo P K n ops rest Q ((d, ptr b 0) :: e) (Cells b T cs :: H)) : WL Mo P K n ops (⟨some d, .alloc T, ty, pos, af, none⟩ :: rest) Q e H := by
  refine WL.eff (R := fun v H' => ∃ b, v = ptr b 0 ∧ H' = Cells b T cs :: H) (fun a w ha hw => ?_) hd (fun v H' ⟨b, e1, e2⟩ => by subst e1 e2; exact h b)
  refine ⟨ptr w.heap.size 0, w.alloc (.cells cs.toArray T), _, ?_, hw.alloc T cs, _, rfl, rfl⟩
  show ((do pure (Next.value (← Instr.alloc T true (.tuple #[])))) : Sem Next).run P w = _
  simp [Instr.alloc, newVar, newRow, hz w, ← hc]

/-! Stores -/
def setL (cs : List Value) (o : Nat) : List Value → List Value
  | [] => cs
  | v :: vs => setL (cs.set o v) (o + 1) vs
theorem length_setL : ∀ (vs : List Value) (cs : List Value) (o : Nat), (setL cs o vs).length = cs.length
  | [], _, _ => rfl
  | v :: vs, cs, o => by rw [setL, length_setL vs]; simp
theorem heap_setCells_ne (b k : Nat) (hk : k ≠ b) : ∀ (vs : List Value) (o : Nat) (w : World), (w.setCells b o vs).heap[k]? = w.heap[k]?
  | [], _, _ => rfl
  | v :: vs, o, w => by rw [World.setCells, heap_setCells_ne b k hk vs]; exact Below.heap_setCell w _ v k hk
theorem heap_setCells (b : Nat) (T : TypeId) (fr : Nat × Nat) : ∀ (vs : List Value) (o : Nat) (w : World) (cs : List Value), w.heap[b]? = some (.cells cs.toArray T fr) → (w.setCells b o vs).heap[b]? = some (.cells (setL cs o vs).toArray T fr)
  | [], _, _, _, h => h
  | v :: vs, o, w, cs, h => by
    rw [World.setCells, setL]
    refine heap_setCells b T fr vs (o + 1) _ _ ?_
    simp [World.setCell, Array.getElem?_modify, h]
theorem same_setCells (b : Nat) : ∀ (vs : List Value) (o : Nat) (w : World), (w.setCells b o vs).os = w.os ∧ (w.setCells b o vs).tape = w.tape ∧ (w.setCells b o vs).output = w.output ∧ (w.setCells b o vs).heap.size = w.heap.size
  | [], _, _ => ⟨rfl, rfl, rfl, rfl⟩
  | v :: vs, o, w => by
    rw [World.setCells]
    obtain ⟨h1, h2, h3, h4⟩ := same_setCells b vs (o + 1) (w.setCell ⟨b, o, none⟩ v)
    exact ⟨h1, h2, h3, by rw [h4]; simp⟩
/-- The row of cells from ⟨b, o⟩ on may be written; behind it the memory is H'. -/
structure Upd (K : World) (H : List Assn) (b o : Nat) (vs : List Value) (H' : List Assn) : Prop where
  feet : ∀ B' ∈ H', ∀ k, B'.foot k → ∃ B ∈ H, B.foot k
  own : ∃ B ∈ H, B.foot b
  may : ∀ w, SatL w H → ∀ i, i < vs.length → (w.cell? ⟨b, o + i, none⟩).isSome = true ∧ w.frozen? ⟨b, o + i, none⟩ = false
  sat : ∀ w, SatL w H → SatL (w.setCells b o vs) H'
theorem Upd.here {b T o : Nat} {cs vs cs' : List Value} (ho : Nat.ble (o + vs.length) cs.length = true) (hc : setL cs o vs = cs') : Upd K (Cells b T cs :: H) b o vs (Cells b T cs' :: H) := by
  have ho' : o + vs.length ≤ cs.length := by simpa using ho
  refine ⟨fun B' hB' k hk => ?_, ⟨_, .head _, rfl⟩, fun w hw i hi => ?_, fun w hw => ?_⟩
  · rcases List.mem_cons.1 hB' with rfl | h
    · exact ⟨_, .head _, hk⟩
    · exact ⟨_, .tail _ h, hk⟩
  · have hb := hw.1
    simp only [Cells] at hb
    exact ⟨by simp [World.cell?, hb]; omega, by simp [World.frozen?, hb]⟩
  · have hb := hw.1
    simp only [Cells] at hb
    obtain ⟨_, _, _, h4⟩ := same_setCells b vs o w
    refine hw.set (Nat.le_of_eq h4.symm) (fun k hk' _ => heap_setCells_ne b k hk' vs o w) ?_ (fun k hk' => .inl hk')
    simp only [Cells]
    rw [heap_setCells b T (0, 0) vs o w cs hb, ← hc]
theorem Upd.up {A : Assn} {b o : Nat} {vs : List Value} {H' : List Assn} (h : Upd K H b o vs H') : Upd K (A :: H) b o vs (A :: H') := by
  obtain ⟨B, hB, hBb⟩ := h.own
  refine ⟨fun B' hB' k hk => ?_, ⟨B, .tail _ hB, hBb⟩, fun w hw => h.may w hw.tail, fun w hw => ?_⟩
  · rcases List.mem_cons.1 hB' with rfl | h'
    · exact ⟨_, .head _, hk⟩
    · obtain ⟨B2, h2, h3⟩ := h.feet B' h' k hk
      exact ⟨B2, .tail _ h2, h3⟩
  · have hne : ¬ A.foot b := fun ha => hw.2.2.1 b ha B hB hBb
    obtain ⟨_, _, _, h4⟩ := same_setCells b vs o w
    refine ⟨A.loc w _ (fun k hk' => heap_setCells_ne b k (fun e => hne (e ▸ hk')) vs o w) hw.1, fun k hk' => by rw [h4]; exact hw.2.1 k hk', fun k hk' B' hB' hb' => ?_, h.sat w hw.tail⟩
    obtain ⟨B2, hB2, hb2⟩ := h.feet B' hB' k hb'
    exact hw.2.2.1 k hk' B2 hB2 hb2
theorem Upd.run {b o : Nat} {vs : List Value} {H' : List Assn} (h : Upd K H b o vs H') {w : World} (hw : Sat K w H) (h1 : ∀ v ∈ vs, v.oneCell' = true) :
    (storeCells ⟨b, o, none⟩ vs).run P w = .ok () (w.setCells b o vs) ∧ Sat K (w.setCells b o vs) H' := by
  have hm := h.may w hw.2
  obtain ⟨e1, e2, e3, e4⟩ := same_setCells b vs o w
  refine ⟨?_, hw.1.grow e1 e2 e3 (Nat.le_of_eq e4.symm), h.sat w hw.2⟩
  have := run_storeCells_cells (P := P) b o vs 0 w (fun j hj => by simpa using (hm j hj).1) (fun j hj => by simpa using (hm j hj).2) h1
  simpa using this
theorem WL.store {x y : Operand} {T s b o : Nat} {v : Value} {cs : List Value} {H' : List Assn} (hT : ∀ w, (sizeOf T).run P w = .ok s w) (hx : OV true e x (ptr b o)) (hy : OV true e y v) (hc : v.cells.toList = cs)
    (hs : cs.length = s) (h1 : cs.all (·.oneCell') = true) (hu : Upd K H b o cs H') (h : WL Mo P K n ops rest Q e H') : WL Mo P K n ops (⟨none, .store T x y, ty, pos, af, none⟩ :: rest) Q e H := by
  refine WL.eff0 (R := fun H'' => H'' = H') (fun a w ha hw => ?_) (fun H'' e1 => by subst e1; exact h)
  obtain ⟨k1, k2⟩ := hu.run (P := P) hw (fun v hv => by simpa using List.all_eq_true.1 h1 v hv)
  refine ⟨_, H', .inl ?_, k2, rfl⟩
  show ((do Instr.storeAt T (a.eval x) (a.eval y); pure Next.skip) : Sem Next).run P w = _
  rw [hx.ev rfl ha, hy.ev rfl ha]
  subst hc hs
  simp [Instr.storeAt, Instr.sureAddr, storeVar, hT w, k1]

/-! Calls -/
def OVs (c : Bool) (e : Env) : List Operand → List Value → Prop
  | [], [] => True
  | x :: xs, v :: vs => OV c e x v ∧ OVs c e xs vs
  | _, _ => False
theorem OVs.ev {c : Bool} {a : Act} (ha : Agree Mo n e a) (hc : c = true) : ∀ {xs : List Operand} {vs : List Value}, OVs c e xs vs → xs.map a.eval = vs
  | [], [], _ => rfl
  | x :: xs, v :: vs, h => by rw [List.map_cons, h.1.ev hc ha, OVs.ev ha hc h.2]
/-- What may be called, by what the operand holds. -/
def Callable (P : Program) (f : FuncId) : Prop := ∀ args w, (callFunc f args).run P w = .ok (.enter f args) w
theorem run_call {f : FuncId} {xs : List Operand} {vs : List Value} {ats : Array TypeId} {a : Act} {w : World} (hf : Callable P f) (hxs : xs.map a.eval = vs) :
    (execOp a.eval ⟨dst, .call ⟨.value (.func f), xs.toArray, ats⟩, ty, pos, af, gd⟩).run P w = .ok (.enter f vs.toArray) w := by
  rw [execOp_call_go, hf]
  simp [hxs]
theorem run_callV {y : Operand} {f : FuncId} {first captured : List Value} {xs : List Operand} {vs : List Value} {ats : Array TypeId} {a : Act} {w : World} (hf : Callable P f) (hy : a.eval y = .func (.func f) first.toArray captured.toArray) (hxs : xs.map a.eval = vs) :
    (execOp a.eval ⟨dst, .call ⟨.value y, xs.toArray, ats⟩, ty, pos, af, gd⟩).run P w = .ok (.enter f (first ++ vs ++ captured).toArray) w := by
  show ((do let d ← resolve a.eval ⟨.value y, xs.toArray, ats⟩ ty; invoke d.target d.args) : Sem Next).run P w = _
  have h1 : resolve a.eval ⟨.value y, xs.toArray, ats⟩ ty = pure { target := .fn (.func f) captured.toArray, args := first.toArray ++ vs.toArray } := by
    simp only [resolve, hy, List.map_toArray, hxs]; rfl
  rw [h1]
  show (callFunc f (first.toArray ++ vs.toArray ++ captured.toArray)).run P w = _
  rw [hf]; simp
theorem WL.callR {d : Nat} {f : FuncId} {op : Op} {vs : List Value} {post : Value → List Assn → Prop} (hr : ∀ a w, Agree Mo n e a → (execOp a.eval ⟨some d, op, ty, pos, af, none⟩).run P w = .ok (.enter f vs.toArray) w)
    (hF : Does P f vs.toArray K H post) (hd : Nat.blt d n = true) (h : ∀ v H', post v H' → WL Mo P K n ops rest Q ((d, v) :: e) H') : WL Mo P K n ops (⟨some d, op, ty, pos, af, none⟩ :: rest) Q e H := fun a w ha hw => by
  refine lwp_plain rfl fun S hS => owp_enter (hr a w ha) ((hF w hw).mono ?_)
  rintro _ w' ⟨v, H', rfl, h2, h3⟩
  exact ⟨v, rfl, hS _ _ (h v H' h3 _ w' (ha.put d hd v) h2)⟩
theorem WL.call {d : Nat} {f : FuncId} {xs : List Operand} {vs : List Value} {ats : Array TypeId} {post : Value → List Assn → Prop} (hf : Callable P f) (hxs : OVs true e xs vs)
    (hF : Does P f vs.toArray K H post) (hd : Nat.blt d n = true) (h : ∀ v H', post v H' → WL Mo P K n ops rest Q ((d, v) :: e) H') : WL Mo P K n ops (⟨some d, .call ⟨.value (.func f), xs.toArray, ats⟩, ty, pos, af, none⟩ :: rest) Q e H :=
  WL.callR (fun a w ha => run_call hf (hxs.ev ha rfl)) hF hd h
theorem WL.callV {d : Nat} {f : FuncId} {y : Operand} {first captured : List Value} {xs : List Operand} {vs : List Value} {ats : Array TypeId} {post : Value → List Assn → Prop} (hf : Callable P f) (hy : OV true e y (.func (.func f) first.toArray captured.toArray)) (hxs : OVs true e xs vs)
    (hF : Does P f (first ++ vs ++ captured).toArray K H post) (hd : Nat.blt d n = true) (h : ∀ v H', post v H' → WL Mo P K n ops rest Q ((d, v) :: e) H') : WL Mo P K n ops (⟨some d, .call ⟨.value y, xs.toArray, ats⟩, ty, pos, af, none⟩ :: rest) Q e H :=
  WL.callR (fun a w ha => run_callV hf (hy.ev rfl ha) (hxs.ev ha rfl)) hF hd h
/-- The result dropped. -/
theorem WL.callR0 {f : FuncId} {op : Op} {vs : List Value} {post : Value → List Assn → Prop} (hr : ∀ a w, Agree Mo n e a → (execOp a.eval ⟨none, op, ty, pos, af, none⟩).run P w = .ok (.enter f vs.toArray) w)
    (hF : Does P f vs.toArray K H post) (h : ∀ v H', post v H' → WL Mo P K n ops rest Q e H') : WL Mo P K n ops (⟨none, op, ty, pos, af, none⟩ :: rest) Q e H := fun a w ha hw => by
  refine lwp_plain rfl fun S hS => owp_enter (hr a w ha) ((hF w hw).mono ?_)
  rintro _ w' ⟨v, H', rfl, h2, h3⟩
  exact ⟨v, rfl, hS _ _ (h v H' h3 _ w' (ha.none v) h2)⟩
theorem WL.call0 {f : FuncId} {xs : List Operand} {vs : List Value} {ats : Array TypeId} {post : Value → List Assn → Prop} (hf : Callable P f) (hxs : OVs true e xs vs)
    (hF : Does P f vs.toArray K H post) (h : ∀ v H', post v H' → WL Mo P K n ops rest Q e H') : WL Mo P K n ops (⟨none, .call ⟨.value (.func f), xs.toArray, ats⟩, ty, pos, af, none⟩ :: rest) Q e H :=
  WL.callR0 (fun a w ha => run_call hf (hxs.ev ha rfl)) hF h
/-- A call that tells a value and leaves all that is known of memory. -/
def Tells (P : Program) (f : FuncId) (args : Array Value) (K : World) (H : List Assn) (v : Value) : Prop := Does P f args K H fun v' H' => v' = v ∧ H' = H
theorem Tells.eq {f : FuncId} {args : Array Value} {v v' : Value} (h : Tells P f args K H v) (e : v = v') : Tells P f args K H v' := e ▸ h
theorem Tells.call {f : FuncId} {args : Array Value} {v : Value} (h : Tells P f args K H v) {w : World} (hw : Sat K w H) : Calls P f args w fun e w' => e = .returned v ∧ Sat K w' H :=
  (h w hw).mono fun e w' ⟨v', H', h1, h2, h3, h4⟩ => by subst h3 h4; exact ⟨h1, h2⟩
/-- The same behind a guard. -/
theorem WL.callG {d j dj : Nat} {want : Bool} {oj : Oper} {f : FuncId} {xs : List Operand} {vs : List Value} {ats : Array TypeId} {v gv : Value} {c : Bool}
    (hj : ops[j]? = some oj) (hdj : oj.dst = some dj) (hl : look e dj = some gv) (hG : GC gv want c) (hf : Callable P f) (hxs : OVs c e xs vs) (hF : c = true → Tells P f vs.toArray K H v) (hd : Nat.blt d n = true)
    (h : WL Mo P K n ops rest Q ((d, cv c v) :: e) H) : WL Mo P K n ops (⟨some d, .call ⟨.value (.func f), xs.toArray, ats⟩, ty, pos, af, some (j, want)⟩ :: rest) Q e H := fun a w ha hw => by
  have hw' := Region.wanted_iff (o := ⟨some d, .call ⟨.value (.func f), xs.toArray, ats⟩, ty, pos, af, some (j, want)⟩) rfl hj hdj hl ha hG
  cases c with
  | false => exact lwp_unwanted hw' (h _ w (ha.put d hd _) hw)
  | true =>
    refine lwp_wanted hw' fun R hR => owp_enter (run_call hf (hxs.ev ha rfl)) (((hF rfl).call hw).mono ?_)
    rintro _ w' ⟨rfl, h2⟩
    exact ⟨v, rfl, hR _ _ (h _ w' (ha.put d hd v) h2)⟩
end
end Go.Sl
