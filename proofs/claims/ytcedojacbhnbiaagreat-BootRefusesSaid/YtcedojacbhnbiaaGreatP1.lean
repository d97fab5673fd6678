import Derived.Test.YtcedojacbhnbiaaGreatP0
import Derived.Maps.AppendAt
import Derived.Laws.MakeOwn
namespace Go.Sl
open Go.RowKit
set_option linter.unusedVariables false
def Cells (b T : Nat) (cs : List Value) : au where
  foot x := x = b
  holds w := w.heap[b]? = some (.cells cs.toArray T (0, 0))
  loc w w' h hw := by rw [h b rfl]; exact hw
def Old (K : World) : au where
  foot x := x < K.heap.size
  holds w := ∀ b, b < K.heap.size → w.heap[b]? = K.heap[b]?
  loc w w' h hw b hb := (h b hb).trans (hw b hb)
theorem Sat.old (K : World) : Sat K K [Old K] := ⟨⟨rfl, rfl, rfl, Nat.le_refl _⟩, fun _ _ => rfl, fun _ hb => hb, fun _ _ _ hB => by simp at hB, trivial⟩
theorem Sat.below {K w : World} {H : List au} (h : Sat K w (Old K :: H)) : Below K.heap.size K w := ⟨h.1.os, h.1.tape, h.1.output, h.1.size, h.head⟩
def Rd (K : World) (H : List au) (p : Option Addr) (v : Value) : Prop := ∀ w, Sat K w H → ∃ a, p = some a ∧ w.cell? a = some v
theorem Rd.up {K : World} {H : List au} {A : au} {p : Option Addr} {v : Value} (h : Rd K H p v) : Rd K (A :: H) p v := fun w hw => h w hw.tail
theorem Rd.here {K : World} {H : List au} {b T o : Nat} {cs : List Value} {v : Value} (h : cs[o]? = some v) : Rd K (Cells b T cs :: H) (some ⟨b, o, none⟩) v := fun w hw => by
  refine ⟨_, rfl, ?_⟩
  have := hw.head
  simp only [Cells] at this
  simp [World.cell?, this, h]
def aT (K : World) (H : List au) (b o : Nat) (vs : List Value) : Prop := ∀ i v, vs[i]? = some v → Rd K H (some ⟨b, o + i, none⟩) v
theorem aT.up {K : World} {H : List au} {A : au} {b o : Nat} {vs : List Value} (h : aT K H b o vs) : aT K (A :: H) b o vs := fun i v hi => (h i v hi).up
theorem aT.here {K : World} {H : List au} {b T o : Nat} {cs vs : List Value} (h : vs <+: cs.drop o) : aT K (Cells b T cs :: H) b o vs := fun i v hi => by
  refine Rd.here ?_
  obtain ⟨t, ht⟩ := h
  have := List.getElem?_drop (xs := cs) (i := o) (j := i)
  rw [← this, ← ht, List.getElem?_append_left (by
    rcases Nat.lt_or_ge i vs.length with h | h
    · exact h
    · simp [List.getElem?_eq_none h] at hi), hi]
theorem aT.all {K : World} {H : List au} {b T : Nat} {cs : List Value} : aT K (Cells b T cs :: H) b 0 cs := aT.here (by simp)
section
variable {Mo : Mode} {P : Program} {K : World} {n : Nat} {Q : Post} {e : Env} {H : List au} {c : Bool} {dst : Option Tmp} {ty : TypeId} {pos : String} {af : Array Edge} {gd : Option (Nat × Bool)} {ops : Array Oper} {rest : List Oper}
def L6 (P : Program) (T : Nat) : Prop := ∀ w, (isAgg T).run P w = .ok false w
def OQ (P : Program) (T s : Nat) : Prop := (∀ w, (isAgg T).run P w = .ok true w) ∧ ∀ w, (sizeOf T).run P w = .ok s w
theorem V.load {x : Operand} {T : Nat} {p : Option Addr} {v : Value} (hT : L6 P T) (hx : OV c e x (.pointer p)) (hr : c = true → Rd K H p v) : Val Mo P K n c e H ⟨dst, .load T x, ty, pos, af, gd⟩ v := fun hc a w ha hw => by
  show ((do pure (Next.value (← Instr.loadAt T (a.eval x)))) : Sem Next).run P w = _
  obtain ⟨p', rfl, h2⟩ := hr hc w hw
  rw [hx.ev hc ha]
  simp [Instr.loadAt, Instr.sureAddr, loadVar, hT w, h2]
theorem V.aU {x : Operand} {T s b o : Nat} {vs : List Value} (hT : OQ P T s) (hx : OV c e x (ptr b o)) (hs : vs.length = s) (hr : c = true → aT K H b o vs) : Val Mo P K n c e H ⟨dst, .load T x, ty, pos, af, gd⟩ (.agg vs.toArray) := fun hc a w ha hw => by
  show ((do pure (Next.value (← Instr.loadAt T (a.eval x)))) : Sem Next).run P w = _
  rw [hx.ev hc ha]
  have h1 := run_loadCells_list (P := P) w ⟨b, o, none⟩ vs (fun j v hj => by
    obtain ⟨a', h1, h2⟩ := hr hc j v hj w hw
    injection h1 with h1; subst h1; rwa [gZ])
  subst hs
  simp [Instr.loadAt, Instr.sureAddr, loadVar, hT.1 w, hT.2 w, h1]
theorem WL.Jr {d : Nat} {op : Op} {R : Value → List au → Prop}
    (hv : ∀ a w, Agree Mo n e a → Sat K w H → ∃ v w' H', (execOp a.eval ⟨some d, op, ty, pos, af, none⟩).run P w = .ok (.value v) w' ∧ Sat K w' H' ∧ R v H') (hd : Nat.blt d n = true)
    (h : ∀ v H', R v H' → WL Mo P K n ops rest Q ((d, v) :: e) H') : WL Mo P K n ops (⟨some d, op, ty, pos, af, none⟩ :: rest) Q e H := fun a w ha hw => by
  obtain ⟨v, w', H', h1, h2, h3⟩ := hv a w ha hw
  exact mI rfl fun S hS => pY h1 (hS _ _ (h v H' h3 _ w' (ha.put d hd v) h2))
theorem WL.Lu {op : Op} {R : List au → Prop}
    (hv : ∀ a w, Agree Mo n e a → Sat K w H → ∃ w' H', (((execOp a.eval ⟨none, op, ty, pos, af, none⟩).run P w = .ok .skip w') ∨ ∃ v, (execOp a.eval ⟨none, op, ty, pos, af, none⟩).run P w = .ok (.value v) w') ∧ Sat K w' H' ∧ R H')
    (h : ∀ H', R H' → WL Mo P K n ops rest Q e H') : WL Mo P K n ops (⟨none, op, ty, pos, af, none⟩ :: rest) Q e H := fun a w ha hw => by
  obtain ⟨w', H', h1, h2, h3⟩ := hv a w ha hw
  refine mI rfl fun S hS => ?_
  rcases h1 with h1 | ⟨v, h1⟩
  · exact Lb h1 (hS _ _ (h H' h3 _ w' (ha.none _) h2))
  · exact pY h1 (hS _ _ (h H' h3 _ w' (ha.none _) h2))
theorem Sat.alloc {w : World} (hw : Sat K w H) (T : Nat) (cs : List Value) : Sat K (w.alloc (.cells cs.toArray T)) (Cells w.heap.size T cs :: H) := by
  refine ⟨hw.1.grow rfl rfl rfl (by simp), hw.2.push (by simp) (fun b hb => ?_) ?_ (fun b hb => ?_)⟩
  · exact Below.heap_alloc _ _ _ hb
  · exact heap_alloc_new w _
  · simp only [Cells] at hb; subst hb; simp
theorem WL.box {d T : Nat} {x : Operand} {v : Value} {cs : List Value} (hx : OV true e x v) (hc : v.cells.toList = cs) (hd : Nat.blt d n = true)
    (h : ∀ b, WL Mo P K n ops rest Q ((d, ptr b 0) :: e) (Cells b T cs :: H)) : WL Mo P K n ops (⟨some d, .box T x, ty, pos, af, none⟩ :: rest) Q e H := by
  refine WL.Jr (R := fun v H' => ∃ b, v = ptr b 0 ∧ H' = Cells b T cs :: H) (fun a w ha hw => ?_) hd (fun v H' ⟨b, e1, e2⟩ => by subst e1 e2; exact h b)
  refine ⟨ptr w.heap.size 0, w.alloc (.cells cs.toArray T), _, ?_, hw.alloc T cs, _, rfl, rfl⟩
  show ((do pure (Next.value (← Instr.box T (a.eval x)))) : Sem Next).run P w = _
  rw [hx.ev rfl ha, ← hc]
  simp [Instr.box, newVar, newRow]
theorem WL.alloc {d T : Nat} {z : Value} {cs : List Value} (hz : ∀ w, (zeroValue T).run P w = .ok z w) (hc : z.cells.toList = cs) (hd : Nat.blt d n = true)
    (h : ∀ b, WL Mo P K n ops rest Q ((d, ptr b 0) :: e) (Cells b T cs :: H)) : WL Mo P K n ops (⟨some d, .alloc T, ty, pos, af, none⟩ :: rest) Q e H := by
  refine WL.Jr (R := fun v H' => ∃ b, v = ptr b 0 ∧ H' = Cells b T cs :: H) (fun a w ha hw => ?_) hd (fun v H' ⟨b, e1, e2⟩ => by subst e1 e2; exact h b)
  refine ⟨ptr w.heap.size 0, w.alloc (.cells cs.toArray T), _, ?_, hw.alloc T cs, _, rfl, rfl⟩
  show ((do pure (Next.value (← Instr.alloc T true (.tuple #[])))) : Sem Next).run P w = _
  simp [Instr.alloc, newVar, newRow, hz w, ← hc]
def kP (cs : List Value) (o : Nat) : List Value → List Value
  | [] => cs
  | v :: vs => kP (cs.set o v) (o + 1) vs
theorem wz : ∀ (vs : List Value) (cs : List Value) (o : Nat), (kP cs o vs).length = cs.length
  | [], _, _ => rfl
  | v :: vs, cs, o => by rw [kP, wz vs]; simp
theorem gN (b k : Nat) (hk : k ≠ b) : ∀ (vs : List Value) (o : Nat) (w : World), (w.setCells b o vs).heap[k]? = w.heap[k]?
  | [], _, _ => rfl
  | v :: vs, o, w => by rw [World.setCells, gN b k hk vs]; exact Below.heap_setCell w _ v k hk
theorem lW (b : Nat) (T : TypeId) (fr : Nat × Nat) : ∀ (vs : List Value) (o : Nat) (w : World) (cs : List Value), w.heap[b]? = some (.cells cs.toArray T fr) → (w.setCells b o vs).heap[b]? = some (.cells (kP cs o vs).toArray T fr)
  | [], _, _, _, h => h
  | v :: vs, o, w, cs, h => by
    rw [World.setCells, kP]
    refine lW b T fr vs (o + 1) _ _ ?_
    simp [World.setCell, Array.getElem?_modify, h]
theorem iB (b : Nat) : ∀ (vs : List Value) (o : Nat) (w : World), (w.setCells b o vs).os = w.os ∧ (w.setCells b o vs).tape = w.tape ∧ (w.setCells b o vs).output = w.output ∧ (w.setCells b o vs).heap.size = w.heap.size
  | [], _, _ => ⟨rfl, rfl, rfl, rfl⟩
  | v :: vs, o, w => by
    rw [World.setCells]
    obtain ⟨h1, h2, h3, h4⟩ := iB b vs (o + 1) (w.setCell ⟨b, o, none⟩ v)
    exact ⟨h1, h2, h3, by rw [h4]; simp⟩
structure aQ (K : World) (H : List au) (b o : Nat) (vs : List Value) (H' : List au) : Prop where
  M9 : ∀ B' ∈ H', ∀ k, B'.foot k → ∃ B ∈ H, B.foot k
  own : ∃ B ∈ H, B.foot b
  may : ∀ w, bA w H → ∀ i, i < vs.length → (w.cell? ⟨b, o + i, none⟩).isSome = true ∧ w.frozen? ⟨b, o + i, none⟩ = false
  sat : ∀ w, bA w H → bA (w.setCells b o vs) H'
theorem aQ.here {b T o : Nat} {cs vs cs' : List Value} (ho : Nat.ble (o + vs.length) cs.length = true) (hc : kP cs o vs = cs') : aQ K (Cells b T cs :: H) b o vs (Cells b T cs' :: H) := by
  have ho' : o + vs.length ≤ cs.length := by simpa using ho
  refine ⟨fun B' hB' k hk => ?_, ⟨_, .head _, rfl⟩, fun w hw i hi => ?_, fun w hw => ?_⟩
  · rcases List.mem_cons.1 hB' with rfl | h
    · exact ⟨_, .head _, hk⟩
    · exact ⟨_, .tail _ h, hk⟩
  · have hb := hw.1
    simp only [Cells] at hb
    exact ⟨by simp [World.cell?, hb]; omega, by simp [World.frozen?, hb]⟩
  · have hb := hw.1
    simp only [Cells] at hb
    obtain ⟨_, _, _, h4⟩ := iB b vs o w
    refine hw.set (Nat.le_of_eq h4.symm) (fun k hk' _ => gN b k hk' vs o w) ?_ (fun k hk' => .inl hk')
    simp only [Cells]
    rw [lW b T (0, 0) vs o w cs hb, ← hc]
theorem aQ.up {A : au} {b o : Nat} {vs : List Value} {H' : List au} (h : aQ K H b o vs H') : aQ K (A :: H) b o vs (A :: H') := by
  obtain ⟨B, hB, hBb⟩ := h.own
  refine ⟨fun B' hB' k hk => ?_, ⟨B, .tail _ hB, hBb⟩, fun w hw => h.may w hw.tail, fun w hw => ?_⟩
  · rcases List.mem_cons.1 hB' with rfl | h'
    · exact ⟨_, .head _, hk⟩
    · obtain ⟨B2, h2, h3⟩ := h.M9 B' h' k hk
      exact ⟨B2, .tail _ h2, h3⟩
  · have hne : ¬ A.foot b := fun ha => hw.2.2.1 b ha B hB hBb
    obtain ⟨_, _, _, h4⟩ := iB b vs o w
    refine ⟨A.loc w _ (fun k hk' => gN b k (fun e => hne (e ▸ hk')) vs o w) hw.1, fun k hk' => by rw [h4]; exact hw.2.1 k hk', fun k hk' B' hB' hb' => ?_, h.sat w hw.tail⟩
    obtain ⟨B2, hB2, hb2⟩ := h.M9 B' hB' k hb'
    exact hw.2.2.1 k hk' B2 hB2 hb2
theorem aQ.run {b o : Nat} {vs : List Value} {H' : List au} (h : aQ K H b o vs H') {w : World} (hw : Sat K w H) (h1 : ∀ v ∈ vs, v.oneCell' = true) :
    (storeCells ⟨b, o, none⟩ vs).run P w = .ok () (w.setCells b o vs) ∧ Sat K (w.setCells b o vs) H' := by
  have hm := h.may w hw.2
  obtain ⟨e1, e2, e3, e4⟩ := iB b vs o w
  refine ⟨?_, hw.1.grow e1 e2 e3 (Nat.le_of_eq e4.symm), h.sat w hw.2⟩
  have := run_storeCells_cells (P := P) b o vs 0 w (fun j hj => by simpa using (hm j hj).1) (fun j hj => by simpa using (hm j hj).2) h1
  simpa using this
theorem WL.store {x y : Operand} {T s b o : Nat} {v : Value} {cs : List Value} {H' : List au} (hT : ∀ w, (sizeOf T).run P w = .ok s w) (hx : OV true e x (ptr b o)) (hy : OV true e y v) (hc : v.cells.toList = cs)
    (hs : cs.length = s) (h1 : cs.all (·.oneCell') = true) (hu : aQ K H b o cs H') (h : WL Mo P K n ops rest Q e H') : WL Mo P K n ops (⟨none, .store T x y, ty, pos, af, none⟩ :: rest) Q e H := by
  refine WL.Lu (R := fun xE => xE = H') (fun a w ha hw => ?_) (fun xE e1 => by subst e1; exact h)
  obtain ⟨k1, k2⟩ := hu.run (P := P) hw (fun v hv => by simpa using List.all_eq_true.1 h1 v hv)
  refine ⟨_, H', .inl ?_, k2, rfl⟩
  show ((do Instr.storeAt T (a.eval x) (a.eval y); pure Next.skip) : Sem Next).run P w = _
  rw [hx.ev rfl ha, hy.ev rfl ha]
  subst hc hs
  simp [Instr.storeAt, Instr.sureAddr, storeVar, hT w, k1]
def Fh (c : Bool) (e : Env) : List Operand → List Value → Prop
  | [], [] => True
  | x :: xs, v :: vs => OV c e x v ∧ Fh c e xs vs
  | _, _ => False
theorem Fh.ev {c : Bool} {a : Act} (ha : Agree Mo n e a) (hc : c = true) : ∀ {xs : List Operand} {vs : List Value}, Fh c e xs vs → xs.map a.eval = vs
  | [], [], _ => rfl
  | x :: xs, v :: vs, h => by rw [List.map_cons, h.1.ev hc ha, Fh.ev ha hc h.2]
def eP (P : Program) (f : FuncId) : Prop := ∀ args w, (callFunc f args).run P w = .ok (.enter f args) w
theorem tq {f : FuncId} {xs : List Operand} {vs : List Value} {ats : Array TypeId} {a : Act} {w : World} (hf : eP P f) (hxs : xs.map a.eval = vs) :
    (execOp a.eval ⟨dst, .call ⟨.value (.func f), xs.toArray, ats⟩, ty, pos, af, gd⟩).run P w = .ok (.enter f vs.toArray) w := by
  rw [execOp_call_go, hf]
  simp [hxs]
theorem uU {y : Operand} {f : FuncId} {first captured : List Value} {xs : List Operand} {vs : List Value} {ats : Array TypeId} {a : Act} {w : World} (hf : eP P f) (hy : a.eval y = .func (.func f) first.toArray captured.toArray) (hxs : xs.map a.eval = vs) :
    (execOp a.eval ⟨dst, .call ⟨.value y, xs.toArray, ats⟩, ty, pos, af, gd⟩).run P w = .ok (.enter f (first ++ vs ++ captured).toArray) w := by
  show ((do let d ← resolve a.eval ⟨.value y, xs.toArray, ats⟩ ty; invoke d.target d.args) : Sem Next).run P w = _
  have h1 : resolve a.eval ⟨.value y, xs.toArray, ats⟩ ty = pure { target := .fn (.func f) captured.toArray, args := first.toArray ++ vs.toArray } := by
    simp only [resolve, hy, List.map_toArray, hxs]; rfl
  rw [h1]
  show (callFunc f (first.toArray ++ vs.toArray ++ captured.toArray)).run P w = _
  rw [hf]; simp
theorem WL.MR {d : Nat} {f : FuncId} {op : Op} {vs : List Value} {post : Value → List au → Prop} (hr : ∀ a w, Agree Mo n e a → (execOp a.eval ⟨some d, op, ty, pos, af, none⟩).run P w = .ok (.enter f vs.toArray) w)
    (hF : Does P f vs.toArray K H post) (hd : Nat.blt d n = true) (h : ∀ v H', post v H' → WL Mo P K n ops rest Q ((d, v) :: e) H') : WL Mo P K n ops (⟨some d, op, ty, pos, af, none⟩ :: rest) Q e H := fun a w ha hw => by
  refine mI rfl fun S hS => AL (hr a w ha) ((hF w hw).mono ?_)
  rintro _ w' ⟨v, H', rfl, h2, h3⟩
  exact ⟨v, rfl, hS _ _ (h v H' h3 _ w' (ha.put d hd v) h2)⟩
theorem WL.call {d : Nat} {f : FuncId} {xs : List Operand} {vs : List Value} {ats : Array TypeId} {post : Value → List au → Prop} (hf : eP P f) (hxs : Fh true e xs vs)
    (hF : Does P f vs.toArray K H post) (hd : Nat.blt d n = true) (h : ∀ v H', post v H' → WL Mo P K n ops rest Q ((d, v) :: e) H') : WL Mo P K n ops (⟨some d, .call ⟨.value (.func f), xs.toArray, ats⟩, ty, pos, af, none⟩ :: rest) Q e H :=
  WL.MR (fun a w ha => tq hf (hxs.ev ha rfl)) hF hd h
theorem WL.kV {d : Nat} {f : FuncId} {y : Operand} {first captured : List Value} {xs : List Operand} {vs : List Value} {ats : Array TypeId} {post : Value → List au → Prop} (hf : eP P f) (hy : OV true e y (.func (.func f) first.toArray captured.toArray)) (hxs : Fh true e xs vs)
    (hF : Does P f (first ++ vs ++ captured).toArray K H post) (hd : Nat.blt d n = true) (h : ∀ v H', post v H' → WL Mo P K n ops rest Q ((d, v) :: e) H') : WL Mo P K n ops (⟨some d, .call ⟨.value y, xs.toArray, ats⟩, ty, pos, af, none⟩ :: rest) Q e H :=
  WL.MR (fun a w ha => uU hf (hy.ev rfl ha) (hxs.ev ha rfl)) hF hd h
def aG (P : Program) (f : FuncId) (args : Array Value) (K : World) (H : List au) (v : Value) : Prop := Does P f args K H fun v' H' => v' = v ∧ H' = H
theorem aG.eq {f : FuncId} {args : Array Value} {v v' : Value} (h : aG P f args K H v) (e : v = v') : aG P f args K H v' := e ▸ h
theorem aG.call {f : FuncId} {args : Array Value} {v : Value} (h : aG P f args K H v) {w : World} (hw : Sat K w H) : Calls P f args w fun e w' => e = .returned v ∧ Sat K w' H :=
  (h w hw).mono fun e w' ⟨v', H', h1, h2, h3, h4⟩ => by subst h3 h4; exact ⟨h1, h2⟩
theorem WL.kN {d j dj : Nat} {want : Bool} {oj : Oper} {f : FuncId} {xs : List Operand} {vs : List Value} {ats : Array TypeId} {v gv : Value} {c : Bool}
    (hj : ops[j]? = some oj) (hdj : oj.dst = some dj) (hl : look e dj = some gv) (hG : GC gv want c) (hf : eP P f) (hxs : Fh c e xs vs) (hF : c = true → aG P f vs.toArray K H v) (hd : Nat.blt d n = true)
    (h : WL Mo P K n ops rest Q ((d, cv c v) :: e) H) : WL Mo P K n ops (⟨some d, .call ⟨.value (.func f), xs.toArray, ats⟩, ty, pos, af, some (j, want)⟩ :: rest) Q e H := fun a w ha hw => by
  have hw' := Region.iI (o := ⟨some d, .call ⟨.value (.func f), xs.toArray, ats⟩, ty, pos, af, some (j, want)⟩) rfl hj hdj hl ha hG
  cases c with
  | false => exact nJ hw' (h _ w (ha.put d hd _) hw)
  | true =>
    refine sH hw' fun R hR => AL (tq hf (hxs.ev ha rfl)) (((hF rfl).call hw).mono ?_)
    rintro _ w' ⟨rfl, h2⟩
    exact ⟨v, rfl, hR _ _ (h _ w' (ha.put d hd v) h2)⟩
end
open Go.RowKit Go.BigFrame
section
variable {Mo : Mode} {P : Program} {K : World} {n : Nat} {Q : Post} {e : Env} {H : List au} {c : Bool} {dst : Option Tmp} {ty : TypeId} {pos : String} {af : Array Edge} {gd : Option (Nat × Bool)} {ops : Array Oper} {rest : List Oper}
abbrev sp (A : Option Addr) (k : Nat) : Value := .pointer (A.map (·.add k))
theorem add_add (a : Addr) (i j : Nat) : (a.add i).add j = a.add (i + j) := by
  cases a with
  | mk b o s =>
    unfold Addr.add
    by_cases hi : i = 0
    · by_cases hj : j = 0
      · simp [hi, hj]
      · simp [hi, hj]
    · by_cases hj : j = 0
      · simp [hi, hj]
      · rw [if_neg hi, if_neg hj, if_neg (by omega)]; simp [Nat.add_assoc]
structure Seq (K : World) (H : List au) (A : Option Addr) (m s : Nat) (vs : List Value) : Prop where
  len : vs.length = m * s
  rd : ∀ i v, vs[i]? = some v → Rd K H (A.map (·.add i)) v
theorem Seq.up {A : Option Addr} {m s : Nat} {vs : List Value} {B : au} (h : Seq K H A m s vs) : Seq K (B :: H) A m s vs := ⟨h.len, fun i v hi => (h.rd i v hi).up⟩
theorem Seq.sat {A : Option Addr} {m s : Nat} {vs : List Value} {H' : List au} (h : Seq K H A m s vs) (hs : ∀ w, Sat K w H' → Sat K w H) : Seq K H' A m s vs := ⟨h.len, fun i v hi w hw => h.rd i v hi w (hs w hw)⟩
theorem Seq.here {b T o m s : Nat} {cs vs : List Value} (hl : vs.length = m * s) (h : vs <+: cs.drop o) : Seq K (Cells b T cs :: H) (some ⟨b, o, none⟩) m s vs := ⟨hl, fun i v hi => by
  have := (aT.here (K := K) (H := H) (b := b) (T := T) h) i v hi
  simpa [gZ] using this⟩
theorem Seq.nil {s : Nat} : Seq K H none 0 s [] := ⟨by simp, fun i v hi => by simp at hi⟩
theorem Seq.cell {A : Option Addr} {m s : Nat} {vs : List Value} (h : Seq K H A m s vs) {w : World} (hw : Sat K w H) {i : Nat} {v : Value} (hi : vs[i]? = some v) : ∃ a, A = some a ∧ w.cell? (a.add i) = some v := by
  obtain ⟨a, h1, h2⟩ := h.rd i v hi w hw
  cases A with
  | none => simp at h1
  | some a' => simp at h1; subst h1; exact ⟨a', rfl, h2⟩
theorem V.len {x : Operand} {t T : TypeId} {E : TypeId} {A : Option Addr} {m cap : Nat} (hT : ∀ w, (underlying T).run P w = .ok (.slice E) w) (hx : OV c e x (.slice A m cap)) :
    Val Mo P K n c e H ⟨dst, .call ⟨.builtin .len, #[x], #[T]⟩, ty, pos, af, gd⟩ (.int .i64 (m : Int)) := fun hc a w ha _ => by
  rw [execOp_builtin, builtin_len]
  have := hx.ev hc ha
  simp [Builtin.len_, hT w, this, goInt]
theorem V.cap {x : Operand} {T E : TypeId} {A : Option Addr} {m cap : Nat} (hT : ∀ w, (underlying T).run P w = .ok (.slice E) w) (hx : OV c e x (.slice A m cap)) :
    Val Mo P K n c e H ⟨dst, .call ⟨.builtin .cap, #[x], #[T]⟩, ty, pos, af, gd⟩ (.int .i64 (cap : Int)) := fun hc a w ha _ => by
  rw [execOp_builtin, builtin_cap]
  have := hx.ev hc ha
  simp [Builtin.cap_, hT w, this, goInt]
theorem V.min {x y : Operand} {ats : Array TypeId} {k : IntKind} {i j : Int} (hx : OV c e x (.int k i)) (hy : OV c e y (.int k j)) :
    Val Mo P K n c e H ⟨dst, .call ⟨.builtin .min, #[x, y], ats⟩, ty, pos, af, gd⟩ (.int k (min i j)) := fun hc a w ha _ => by
  rw [execOp_builtin, builtin_min]
  have h1 := hx.ev hc ha
  have h2 := hy.ev hc ha
  simp [Builtin.min_, h1, h2, Builtin.min2]
  omega
theorem V.max {x y : Operand} {ats : Array TypeId} {k : IntKind} {i j : Int} (hx : OV c e x (.int k i)) (hy : OV c e y (.int k j)) :
    Val Mo P K n c e H ⟨dst, .call ⟨.builtin .max, #[x, y], ats⟩, ty, pos, af, gd⟩ (.int k (max i j)) := fun hc a w ha _ => by
  rw [execOp_builtin, builtin_max]
  have h1 := hx.ev hc ha
  have h2 := hy.ev hc ha
  simp [Builtin.max_, h1, h2, Builtin.max2]
  omega
def iX (P : Program) (T E s : Nat) : Prop := (∀ w, (underlying T).run P w = .ok (.slice E) w) ∧ ∀ w, (sizeOf E).run P w = .ok s w
def Ho (P : Program) (T m E s : Nat) : Prop := (∀ w, (underlying T).run P w = .ok (.array m E) w) ∧ ∀ w, (sizeOf E).run P w = .ok s w
theorem V.fu {x y : Operand} {T E s m cap : Nat} {A : Option Addr} {k : IntKind} {j : Int} {v : Value} (hT : iX P T E s) (hx : OV c e x (.slice A m cap)) (hy : OV c e y (.int k j)) (hb : c = true → 0 ≤ j ∧ j < m)
    (hr : c = true → Rd K H (A.map (·.add (j.toNat * s))) v) : Val Mo P K n c e H ⟨dst, .indexAddr T x y, ty, pos, af, gd⟩ (sp A (j.toNat * s)) := fun hc a w ha hw => by
  show ((do pure (Next.value (← Instr.indexAt T (a.eval x) (a.eval y)))) : Sem Next).run P w = _
  rw [hx.ev hc ha, hy.ev hc ha]
  obtain ⟨p, h1, h2⟩ := hr hc w hw
  cases A with
  | none => simp at h1
  | some a' => simp [Instr.indexAt, asIntOf, hT.1 w, hT.2 w, hb hc]
theorem V.bP {x y : Operand} {T E s m cap b o : Nat} {k : IntKind} {j : Int} (hT : iX P T E s) (hx : OV c e x (.slice (some ⟨b, o, none⟩) m cap)) (hy : OV c e y (.int k j)) (hb : c = true → 0 ≤ j ∧ j < m) :
    Val Mo P K n c e H ⟨dst, .indexAddr T x y, ty, pos, af, gd⟩ (ptr b (o + j.toNat * s)) := fun hc a w ha hw => by
  show ((do pure (Next.value (← Instr.indexAt T (a.eval x) (a.eval y)))) : Sem Next).run P w = _
  rw [hx.ev hc ha, hy.ev hc ha]
  simp [Instr.indexAt, asIntOf, hT.1 w, hT.2 w, hb hc, gZ]
theorem V.J8 {x y : Operand} {T E s m b o : Nat} {k : IntKind} {j : Int} (hT : Ho P T m E s) (hx : OV c e x (ptr b o)) (hy : OV c e y (.int k j)) (hb : c = true → 0 ≤ j ∧ j < m) :
    Val Mo P K n c e H ⟨dst, .indexAddr T x y, ty, pos, af, gd⟩ (ptr b (o + j.toNat * s)) := fun hc a w ha hw => by
  show ((do pure (Next.value (← Instr.indexAt T (a.eval x) (a.eval y)))) : Sem Next).run P w = _
  rw [hx.ev hc ha, hy.ev hc ha]
  simp [Instr.indexAt, Instr.sureAddr, asIntOf, hT.1 w, hT.2 w, hb hc, gZ]
theorem V.Nk {x : Operand} {S f off k : Nat} {A : Option Addr} {v : Value} {k' : Nat} (hF : aN P S f off) (hx : OV c e x (sp A k)) (hr : c = true → Rd K H (A.map (·.add k')) v) : Val Mo P K n c e H ⟨dst, .fieldAddr S x f, ty, pos, af, gd⟩ (sp A (k + off)) := fun hc a w ha hw => by
  show ((do pure (Next.value (← Instr.fieldAt S (a.eval x) f))) : Sem Next).run P w = _
  rw [hx.ev hc ha]
  obtain ⟨p, h1, h2⟩ := hr hc w hw
  cases A with
  | none => simp at h1
  | some a' => simp [sp, hF _ _, add_add]
theorem V.EX {x : Operand} {T s k : Nat} {A : Option Addr} {vs : List Value} (hT : OQ P T s) (hx : OV c e x (sp A k)) (hs : vs.length = s) (h0 : 0 < s) (hr : c = true → ∀ i v, vs[i]? = some v → Rd K H (A.map (·.add (k + i))) v) : Val Mo P K n c e H ⟨dst, .load T x, ty, pos, af, gd⟩ (.agg vs.toArray) := fun hc a w ha hw => by
  show ((do pure (Next.value (← Instr.loadAt T (a.eval x)))) : Sem Next).run P w = _
  rw [hx.ev hc ha]
  subst hs
  obtain ⟨p, h1, _⟩ := hr hc 0 vs[0] (by simp) w hw
  cases A with
  | none => simp at h1
  | some a' =>
    have h1 := run_loadCells_list (P := P) w (a'.add k) vs (fun j v hj => by
      obtain ⟨q, h1, h2⟩ := hr hc j v hj w hw
      simp at h1; subst h1; rwa [add_add])
    simp [sp, Instr.loadAt, Instr.sureAddr, loadVar, hT.1 w, hT.2 w, h1]
theorem V.index {x y : Operand} {T E s m : Nat} {cs : List Value} {k : IntKind} {j : Int} {v : Value} (hT : Ho P T m E s) (hx : OV c e x (.agg cs.toArray)) (hy : OV c e y (.int k j)) (hb : c = true → 0 ≤ j ∧ j < m)
    (hp : c = true → ∀ w, (part E cs.toArray (j.toNat * s)).run P w = .ok v w) : Val Mo P K n c e H ⟨dst, .index T x y, ty, pos, af, gd⟩ v := fun hc a w ha hw => by
  show ((do pure (Next.value (← Instr.index T (a.eval x) (a.eval y)))) : Sem Next).run P w = _
  rw [hx.ev hc ha, hy.ev hc ha]
  simp [Instr.index, asIntOf, hT.1 w, hT.2 w, hb hc, hp hc w]
theorem xZ {E : Nat} {cs : List Value} {o : Nat} {v : Value} (hE : L6 P E) (hv : cs[o]? = some v) : ∀ w, (part E cs.toArray o).run P w = .ok v w := fun w => by simp [part, hE w, hv]
theorem O6 {E s : Nat} {cs : Array Value} {o : Nat} {vs : List Value} (hE : OQ P E s) (hv : cs.extract o (o + s) = vs.toArray) : ∀ w, (part E cs o).run P w = .ok (.agg vs.toArray) w := fun w => by simp only [part, Sem.run_bind, hE.1 w, hE.2 w, Result.andThen_ok, if_true, Sem.run_pure, hv]
theorem V.build {T : Nat} {xs : List (Nat × Operand)} {vs : List (Nat × Value)} {v : Value} (hxs : Fh c e (xs.map (·.2)) (vs.map (·.2))) (hi : xs.map (·.1) = vs.map (·.1)) (hB : ∀ w, (Instr.build T vs.toArray).run P w = .ok v w) :
    Val Mo P K n c e H ⟨dst, .build T xs.toArray, ty, pos, af, gd⟩ v := fun hc a w ha hw => by
  show ((do pure (Next.value (← Instr.build T (xs.toArray.map fun (i, x) => (i, a.eval x))))) : Sem Next).run P w = _
  have h1 := hxs.ev ha hc
  have h2 : xs.map (fun (i, x) => (i, a.eval x)) = vs := by
    apply List.ext_getElem?
    intro i
    have k1 := congrArg (·[i]?) h1
    have k2 := congrArg (·[i]?) hi
    simp only [List.getElem?_map] at k1 k2 ⊢
    cases hx : xs[i]? <;> cases hv : vs[i]? <;> simp [hx, hv] at k1 k2 ⊢
    exact Prod.ext k2 k1
  rw [List.map_toArray, h2]
  simp [hB w]
theorem V.field {x : Operand} {T f : Nat} {cs : Array Value} {v : Value} (hx : OV c e x (.agg cs)) (hF : ∀ w, (Instr.field T (.agg cs) f).run P w = .ok v w) : Val Mo P K n c e H ⟨dst, .field T x f, ty, pos, af, gd⟩ v := fun hc a w ha hw => by
  show ((do pure (Next.value (← Instr.field T (a.eval x) f))) : Sem Next).run P w = _
  rw [hx.ev hc ha]; simp [hF w]
def OO (c : Bool) (e : Env) (x : Option Operand) (d l : Nat) : Prop := match x with | none => l = d | some y => ∃ k j, OV c e y (.int k j) ∧ (c = true → j = (l : Int))
theorem OO.none {d : Nat} : OO c e none d d := rfl
theorem OO.some {y : Operand} {k : IntKind} {j : Int} {l d : Nat} (h : OV c e y (.int k j)) (hj : c = true → j = (l : Int)) : OO c e (some y) d l := ⟨k, j, h, hj⟩
theorem run_sliceBound {i : Int} {k : IntKind} {l y : Nat} {code : BoundsCode} {w : World} (hi : i = (l : Int)) (h : l ≤ y) : (Instr.sliceBound (.int k i) y code).run P w = .ok l w := by
  subst hi
  simp [Instr.sliceBound, asIntOf, h]
theorem wG {b : Bool} {m cap : Nat} {lo hi mx : Option Operand} {l h x : Nat} {a : Act} (ha : Agree Mo n e a) (hl : OO true e lo 0 l) (hh : OO true e hi m h) (hm : OO true e mx cap x) (PN : mx.isSome = true → hi.isSome = true) (h1 : l ≤ h) (h2 : h ≤ x) (h3 : x ≤ cap) (w : World) :
    (Instr.sliceBounds b m cap (lo.map a.eval) (hi.map a.eval) (mx.map a.eval)).run P w = .ok (l, h, x) w := by
  cases mx with
  | none =>
    simp only [OO] at hm; subst hm
    cases hi with
    | none =>
      simp only [OO] at hh; subst hh
      cases lo with
      | none => simp only [OO] at hl; subst hl; simp [Instr.sliceBounds]
      | some y =>
        obtain ⟨k, j, hy, hj⟩ := hl
        simp [Instr.sliceBounds, hy.ev rfl ha, run_sliceBound (hj rfl) h1]
    | some z =>
      obtain ⟨k, j, hz, hj⟩ := hh
      cases lo with
      | none => simp only [OO] at hl; subst hl; simp [Instr.sliceBounds, hz.ev rfl ha, run_sliceBound (hj rfl) h2]
      | some y =>
        obtain ⟨k', j', hy, hj'⟩ := hl
        simp [Instr.sliceBounds, hz.ev rfl ha, run_sliceBound (hj rfl) h2, hy.ev rfl ha, run_sliceBound (hj' rfl) h1]
  | some u =>
    obtain ⟨k2, j2, hu, hj2⟩ := hm
    cases hi with
    | none => simp at PN
    | some z =>
      obtain ⟨k, j, hz, hj⟩ := hh
      cases lo with
      | none => simp only [OO] at hl; subst hl; simp [Instr.sliceBounds, hu.ev rfl ha, run_sliceBound (hj2 rfl) h3, hz.ev rfl ha, run_sliceBound (hj rfl) h2]
      | some y =>
        obtain ⟨k', j', hy, hj'⟩ := hl
        simp [Instr.sliceBounds, hu.ev rfl ha, run_sliceBound (hj2 rfl) h3, hz.ev rfl ha, run_sliceBound (hj rfl) h2, hy.ev rfl ha, run_sliceBound (hj' rfl) h1]
theorem V.slice {x : Operand} {lo hi mx : Option Operand} {T E s m cap l h u : Nat} {A : Option Addr} (hT : iX P T E s) (hx : OV true e x (.slice A m cap)) (hl : OO true e lo 0 l) (hh : OO true e hi m h) (hm : OO true e mx cap u)
    (PN : mx.isSome = true → hi.isSome = true) (h1 : l ≤ h) (h2 : h ≤ u) (h3 : u ≤ cap) :
    Val Mo P K n true e H ⟨dst, .slice T x lo hi mx, ty, pos, af, gd⟩ (.slice (if u = l then A else A.map (·.add (l * s))) (h - l) (u - l)) := fun _ a w ha hw => by
  show ((do pure (Next.value (← Instr.sliceAt T (a.eval x) (lo.map a.eval) (hi.map a.eval) (mx.map a.eval)))) : Sem Next).run P w = _
  rw [hx.ev rfl ha]
  have hb := wG (P := P) (b := true) ha hl hh hm PN h1 h2 h3 w
  simp [Instr.sliceAt, Instr.slice, hT.1 w, hT.2 w, hb]
theorem WL.makeSlice {d : Nat} {x y : Operand} {T E : Nat} {i : TypeInfo} {z : Value} {k k' : IntKind} {l q : Int} (hT : P.underlying T = some (.slice E)) (hi : P.info? E = some i) (hz : i.zero = some z) (hx : OV true e x (.int k l)) (hy : OV true e y (.int k' q))
    (h0 : 0 ≤ l) (hlq : l ≤ q) (hb : (i.bytes : Int) * q ≤ 281474976710656) (h63 : q ≤ 9223372036854775807) (hd : Nat.blt d n = true)
    (h : ∀ b, WL Mo P K n ops rest Q ((d, .slice (some ⟨b, 0, none⟩) l.toNat q.toNat) :: e) (Cells b E (madeCells z.cells (q.toNat * i.size)).toList :: H)) :
    WL Mo P K n ops (⟨some d, .makeSlice T x y, ty, pos, af, none⟩ :: rest) Q e H := by
  refine WL.Jr (R := fun v H' => ∃ b, v = .slice (some ⟨b, 0, none⟩) l.toNat q.toNat ∧ H' = Cells b E (madeCells z.cells (q.toNat * i.size)).toList :: H) (fun a w ha hw => ?_) hd (fun v H' ⟨b, e1, e2⟩ => by subst e1 e2; exact h b)
  refine ⟨_, _, _, ?_, hw.alloc E (madeCells z.cells (q.toNat * i.size)).toList, _, rfl, rfl⟩
  show ((do pure (Next.value (← Instr.makeSlice T (a.eval x) (a.eval y)))) : Sem Next).run P w = _
  rw [hx.ev rfl ha, hy.ev rfl ha, Sem.run_bind, run_make (P := P) w T E i z hT hi hz k k' l q h0 hlq hb h63]
  simp
theorem WL.buildSlice {d : Nat} {T E m : Nat} {xs : List (Nat × Operand)} {vs : List (Nat × Value)} {cs : List Value} (hxs : Fh true e (xs.map (·.2)) (vs.map (·.2))) (hi : xs.map (·.1) = vs.map (·.1))
    (hB : ∀ w, (Instr.buildSlice T m vs.toArray).run P w = .ok (.slice (some ⟨w.heap.size, 0, none⟩) m m) (w.alloc (.cells cs.toArray E))) (hd : Nat.blt d n = true)
    (h : ∀ b, WL Mo P K n ops rest Q ((d, .slice (some ⟨b, 0, none⟩) m m) :: e) (Cells b E cs :: H)) : WL Mo P K n ops (⟨some d, .buildSlice T m xs.toArray, ty, pos, af, none⟩ :: rest) Q e H := by
  refine WL.Jr (R := fun v H' => ∃ b, v = .slice (some ⟨b, 0, none⟩) m m ∧ H' = Cells b E cs :: H) (fun a w ha hw => ?_) hd (fun v H' ⟨b, e1, e2⟩ => by subst e1 e2; exact h b)
  refine ⟨_, _, _, ?_, hw.alloc E cs, _, rfl, rfl⟩
  show ((do pure (Next.value (← Instr.buildSlice T m (xs.toArray.map fun (i, x) => (i, a.eval x))))) : Sem Next).run P w = _
  have h1 := hxs.ev ha rfl
  have h2 : xs.map (fun (i, x) => (i, a.eval x)) = vs := by
    apply List.ext_getElem?
    intro i
    have k1 := congrArg (·[i]?) h1
    have k2 := congrArg (·[i]?) hi
    simp only [List.getElem?_map] at k1 k2 ⊢
    cases hx : xs[i]? <;> cases hv : vs[i]? <;> simp [hx, hv] at k1 k2 ⊢
    exact Prod.ext k2 k1
  rw [List.map_toArray, h2]
  simp [hB w]
def bC (v : Value) (E s m : Nat) (cs : List Value) : au where
  foot x := v.ownBlock = some x
  holds w := w.ownsRow 0 E s v m cs
  loc w w' h hw := by
    refine ⟨hw.1, ?_⟩
    rcases hw.2 with h1 | ⟨g, cap, cur, rfl, h2, h3, h4⟩
    · exact .inl h1
    · exact .inr ⟨g, cap, cur, rfl, h2, by rw [h g rfl]; exact h3, h4⟩
theorem Sat.iA {w : World} (hw : Sat K w H) (E s : Nat) : Sat K w (bC (.slice none 0 0) E s 0 [] :: H) :=
  ⟨hw.1, World.ownsRow_nil w 0 E s, fun b hb => by simp [bC, Value.ownBlock] at hb, fun b hb => by simp [bC, Value.ownBlock] at hb, hw.2⟩
theorem Sat.Dc {w : World} {b E s m cap : Nat} {cs : List Value} (hw : Sat K w (Cells b E cs :: H)) (hl : cs.length = cap * s) (hm : m ≤ cap) (hc : cap ≤ maxLen) : Sat K w (bC (.slice (some ⟨b, 0, none⟩) m cap) E s m (cs.take (m * s)) :: H) := by
  have hb := hw.head
  simp only [Cells] at hb
  refine ⟨hw.1, ⟨?_, .inr ⟨b, cap, cs.toArray, rfl, Nat.zero_le _, hb, hm, hc, by simpa using hl, by simp⟩⟩, fun x hx => ?_, fun x hx B hB hb' => ?_, hw.2.tail⟩
  · rw [List.length_take, hl]; exact Nat.min_eq_left (Nat.mul_le_mul_right _ hm)
  · simp [bC, Value.ownBlock] at hx; subst hx; exact hw.2.2.1 _ rfl
  · simp [bC, Value.ownBlock] at hx; subst hx; exact hw.2.2.2.1 _ rfl B hB hb'
theorem bC.shape {w : World} {v : Value} {E s m : Nat} {cs : List Value} (h : w.ownsRow 0 E s v m cs) : ∃ A cap, v = .slice A m cap ∧ m ≤ cap ∧ (∀ a, A = some a → a.off = 0 ∧ a.spot = none) ∧ (A = none → m = 0 ∧ cap = 0) := by
  rcases h.2 with ⟨rfl, rfl⟩ | ⟨g, cap, cur, rfl, _, _, h4, _⟩
  · exact ⟨none, 0, rfl, Nat.le_refl _, fun a h => by simp at h, fun _ => ⟨rfl, rfl⟩⟩
  · exact ⟨_, cap, rfl, h4, fun a h => by simp at h; subst h; simp, fun h => by simp at h⟩
theorem bC.seq {A : Option Addr} {cap E s m : Nat} {cs : List Value} (hl : cs.length = m * s) : Seq K (bC (.slice A m cap) E s m cs :: H) A m s cs := ⟨hl, fun i v hi w hw => by
  have h := hw.head
  rcases h.2 with ⟨h1, h2⟩ | ⟨g, cap', cur, h1, _⟩
  · exfalso
    simp only [Value.slice.injEq] at h1
    subst h2
    simp at hl
    simp [hl] at hi
  · simp only [Value.slice.injEq] at h1
    obtain ⟨rfl, _, rfl⟩ := h1
    exact ⟨_, rfl, h.cells (g := g) rfl i v hi⟩⟩
def fO (P : Program) (E s bytes : Nat) (z : Value) : Prop := ∃ i, P.info? E = some i ∧ i.zero = some z ∧ i.size = s ∧ i.bytes = bytes ∧ z.cells.size = s ∧ 0 < s
theorem fO.mk {E s bytes : Nat} {z : Value} {i : TypeInfo} (hi : P.info? E = some i) (h1 : i.zero = some z) (h2 : i.size = s) (h3 : i.bytes = bytes) (h4 : z.cells.size = s) (h5 : Nat.blt 0 s = true) : fO P E s bytes z := ⟨i, hi, h1, h2, h3, h4, by simpa using h5⟩
theorem WL.append {d : Nat} {x y : Operand} {T E s bytes m q cap' : Nat} {z v : Value} {cs news : List Value} {B : Option Addr} (hT : P.underlying T = some (.slice E)) (hE : fO P E s bytes z) (hx : OV true e x v) (hy : OV true e y (.slice B q cap'))
    (hn : Seq K H B q s news) (h1 : ∀ u ∈ news, u.oneCell' = true) (hb : (m + q) * bytes ≤ 140737488355328) (hby : Nat.blt 0 bytes = true) (hd : Nat.blt d n = true)
    (h : ∀ A cap, (A = none → m + q = 0 ∧ cap = 0) → m + q ≤ cap → WL Mo P K n ops rest Q ((d, .slice A (m + q) cap) :: e) (bC (.slice A (m + q) cap) E s (m + q) (cs ++ news) :: H)) :
    WL Mo P K n ops (⟨some d, .call ⟨.builtin .append, #[x, y], #[T, T]⟩, ty, pos, af, none⟩ :: rest) Q e (bC v E s m cs :: H) := by
  refine WL.Jr (R := fun u H' => ∃ A cap, u = .slice A (m + q) cap ∧ (A = none → m + q = 0 ∧ cap = 0) ∧ m + q ≤ cap ∧ H' = bC (.slice A (m + q) cap) E s (m + q) (cs ++ news) :: H) (fun a w ha hw => ?_) hd (fun u H' ⟨A, cap, e1, e2, e3, e4⟩ => by subst e1 e4; exact h A cap e2 e3)
  obtain ⟨i, hi, hz, hs, J6, hzs, h0⟩ := hE
  have hbp : 0 < bytes := by simpa using hby
  have hle : m + q ≤ 140737488355328 := Nat.le_trans (Nat.le_mul_of_pos_right _ hbp) hb
  have hfin : ∀ v' w', (execOp a.eval ⟨some d, .call ⟨.builtin .append, #[x, y], #[T, T]⟩, ty, pos, af, none⟩).run P w = .ok (.value v') w' → w'.ownsRow 0 E s v' (m + q) (cs ++ news) → w.grownBy w' v.ownBlock →
      (v'.ownBlock = none ∨ v'.ownBlock = v.ownBlock ∨ v'.ownBlock = some w.heap.size) → ∃ u w'' H', (execOp a.eval ⟨some d, .call ⟨.builtin .append, #[x, y], #[T, T]⟩, ty, pos, af, none⟩).run P w = .ok (.value u) w'' ∧ Sat K w'' H' ∧
        ∃ A cap, u = .slice A (m + q) cap ∧ (A = none → m + q = 0 ∧ cap = 0) ∧ m + q ≤ cap ∧ H' = bC (.slice A (m + q) cap) E s (m + q) (cs ++ news) :: H := fun v' w' hrun hown hg hat => by
    obtain ⟨A, cap, rfl, k1, _, k2⟩ := bC.shape hown
    refine ⟨_, w', _, hrun, ⟨hw.1.grow hg.os hg.tape hg.output hg.size, ?_⟩, A, cap, rfl, k2, k1, rfl⟩
    refine hw.2.set (A' := bC (.slice A (m + q) cap) E s (m + q) (cs ++ news)) hg.size (fun b hb' hlt => hg.block b hlt (fun e => hb' e.symm)) hown (fun b hb' => ?_)
    have hb2 : (Value.slice A (m + q) cap).ownBlock = some b := hb'
    rcases hat with h' | h' | h'
    · rw [h'] at hb2; cases hb2
    · exact .inl (h'.symm.trans hb2)
    · rw [h'] at hb2
      injection hb2 with hb2
      subst hb2
      exact .inr ⟨Nat.le_refl _, (hown.lt _ h').2⟩
  have hown : w.ownsRow 0 E s v m cs := hw.head
  have Ey := hx.ev rfl ha
  have Ij := hy.ev rfl ha
  have xY : ∀ r w', (Builtin.append_ #[T, T] ty #[v, .slice B q cap']).run P w = .ok r w' → (execOp a.eval ⟨some d, .call ⟨.builtin .append, #[x, y], #[T, T]⟩, ty, pos, af, none⟩).run P w = .ok (.value r) w' := fun r w' hr => by
    rw [execOp_builtin, builtin_append]
    simp [Ey, Ij, hr]
  cases B with
  | none =>
    have hnil : news = [] := by
      cases news with
      | nil => rfl
      | cons u us => obtain ⟨p, k1, _⟩ := hn.rd 0 u rfl w hw.tail; simp at k1
    have hq : q = 0 := by
      have := hn.len
      rw [hnil] at this
      rcases Nat.mul_eq_zero.1 this.symm with h | h
      · exact h
      · omega
    subst hnil hq
    refine hfin v w (xY v w ?_) (by simpa using hown) ⟨rfl, rfl, rfl, Nat.le_refl _, fun _ _ _ => rfl⟩ (.inr (.inl rfl))
    obtain ⟨A, cap, rfl, k1, _, _⟩ := bC.shape hown
    cases A <;> simp [Builtin.append_, run_underlying hT, sizeOf, typeInfo, hi, Builtin.lenOf, Builtin.firstCells, k1, storeCells]
  | some b =>
    obtain ⟨v', w', hr, k2, k3, k4, k5⟩ := run_append_own_at (P := P) w 0 T ty E i z s bytes hT hi hz hs J6 hzs h0 v m cs hown b q cap' news hn.len (fun j u hu => by
      obtain ⟨p, k1, k2⟩ := hn.rd j u hu w hw.tail
      simp at k1; subst k1; exact k2) h1 (by simp only [maxLen]; omega) hb (Nat.zero_le _)
    refine hfin v' w' (xY v' w' hr) k2 k3 ?_
    rcases k5 with k5 | k5
    · exact .inr (.inl k5)
    · exact .inr (.inr k5)
end
end Go.Sl
