/- The symbolic executor, ninth part: maps, and many entries of memory bound into one. -/
import Derived.Test.YtcmojpiokjhmhaaSlH
import Derived.MapKept
namespace Go.Sl
open Go.RowKit Go.BigFrame
set_option linter.unusedVariables false
set_option linter.unusedSimpArgs false

section
variable {κ : Type} [DecidableEq κ]
/-- What a map's keys are: values by enc, told apart as κ's. -/
structure KeyL (P : Program) (kt : TypeId) (enc : κ → Value) : Prop where
  check : ∀ (b : Bool) (k : κ) (w : World), (Instr.checkKey b 10000 kt (enc k)).run P w = .ok () w
  eq : ∀ (k k' : κ) (w : World), (Op.equal kt (enc k) (enc k')).run P w = .ok (decide (k = k')) w
  und : ∃ d, P.underlying kt = some d ∧ ∀ k k' : κ, Instr.sameNow d (enc k) (enc k') = none ∨ Instr.sameNow d (enc k) (enc k') = some (decide (k = k'))
  bits : ∀ k : κ, Instr.sameBits 10000 (enc k) (enc k) = true
def ent (enc : κ → Value) (e : κ × Value × Nat) : MapEntry := ⟨enc e.1, e.2.1, e.2.2⟩
def findAt (k : κ) : List (κ × Value × Nat) → Nat → Option (Nat × Value)
  | [], _ => none
  | e :: es, i => if k = e.1 then some (i, e.2.1) else findAt k es (i + 1)
variable {P : Program} {kt : TypeId} {enc : κ → Value}
theorem KeyL.findKey (L : KeyL P kt enc) (k : κ) (es : List (κ × Value × Nat)) (w : World) : (Instr.findKey kt (enc k) (es.map (ent enc))).run P w = .ok (findAt k es 0) w := by
  obtain ⟨d, hd, hn⟩ := L.und
  have h1 : ∀ (es : List (κ × Value × Nat)) i, Instr.findNow d (enc k) (es.map (ent enc)) i = none ∨ Instr.findNow d (enc k) (es.map (ent enc)) i = some (findAt k es i) := by
    intro es
    induction es with
    | nil => intro i; exact .inr rfl
    | cons e es ih =>
      intro i
      simp only [List.map_cons, Instr.findNow, findAt]
      rcases hn k e.1 with h | h
      · left; simp [ent, h]
      · simp only [ent, h]
        by_cases hk : k = e.1
        · simp [hk]
        · simpa [hk] using ih (i + 1)
  have h2 : ∀ (es : List (κ × Value × Nat)) i, (Instr.findAsking kt (enc k) (es.map (ent enc)) i).run P w = .ok (findAt k es i) w := by
    intro es
    induction es with
    | nil => intro i; rfl
    | cons e es ih =>
      intro i
      simp only [List.map_cons, Instr.findAsking, findAt, Sem.run_bind]
      have := L.eq k e.1 w
      simp only [ent] at this ⊢
      rw [this]
      by_cases hk : k = e.1
      · simp [hk]
      · simpa [hk] using ih (i + 1)
  unfold Instr.findKey
  simp only [Sem.run_bind, run_underlying hd, Result.andThen_ok]
  rcases h1 es 0 with h | h
  · rw [h]; exact h2 es 0
  · rw [h]; rfl
theorem findAt_some {k : κ} {v : Value} : ∀ {es : List (κ × Value × Nat)} {i j : Nat}, findAt k es i = some (j, v) → ∃ q, j = i + q ∧ ∃ b, es[q]? = some (k, v, b)
  | [], _, _, h => by simp [findAt] at h
  | e :: es, i, j, h => by
    simp only [findAt] at h
    split at h
    · rename_i hk
      simp at h
      obtain ⟨rfl, rfl⟩ := h
      exact ⟨0, rfl, e.2.2, by simp [hk]⟩
    · obtain ⟨q, rfl, b, h1⟩ := findAt_some h
      exact ⟨q + 1, by omega, b, by simpa using h1⟩
theorem findAt_shift {k : κ} : ∀ (es : List (κ × Value × Nat)) (i : Nat), (findAt k es i).map (·.2) = (findAt k es 0).map (·.2)
  | [], _ => rfl
  | e :: es, i => by
    simp only [findAt]
    split
    · rfl
    · rw [findAt_shift es (i + 1), findAt_shift es 1]
/-- What a list of entries says of a key. -/
def looks (es : List (κ × Value × Nat)) (k : κ) : Option Value := (findAt k es 0).map (·.2)
theorem looks_cons (e : κ × Value × Nat) (es : List (κ × Value × Nat)) (k : κ) : looks (e :: es) k = if k = e.1 then some e.2.1 else looks es k := by
  unfold looks
  simp only [findAt]
  split
  · rfl
  · exact findAt_shift es 1
theorem looks_none {es : List (κ × Value × Nat)} {k : κ} (h : findAt k es 0 = none) : ∀ e ∈ es, e.1 ≠ k := by
  have h' : looks es k = none := by unfold looks; rw [h]; rfl
  clear h
  induction es with
  | nil => intro e he; cases he
  | cons a es ih =>
    intro e he
    rw [looks_cons] at h'
    split at h'
    · cases h'
    · rename_i hk
      rcases List.mem_cons.1 he with rfl | he
      · exact fun h => hk h.symm
      · exact ih h' e he
theorem looks_push {es : List (κ × Value × Nat)} {k : κ} {v : Value} {b : Nat} (h : ∀ e ∈ es, e.1 ≠ k) (k' : κ) : looks (es ++ [(k, v, b)]) k' = if k' = k then some v else looks es k' := by
  induction es with
  | nil => rw [List.nil_append, looks_cons]
  | cons a es ih =>
    rw [List.cons_append, looks_cons, looks_cons, ih (fun e he => h e (.tail _ he))]
    have := h a (.head _)
    by_cases h1 : k' = a.1
    · rw [if_pos h1, if_neg (by rw [h1]; exact this), if_pos h1]
    · rw [if_neg h1, if_neg h1]
theorem looks_modify {k : κ} {v : Value} : ∀ {es : List (κ × Value × Nat)} {q : Nat} {v0 : Value} {b : Nat}, es[q]? = some (k, v0, b) → (es.map (·.1)).Nodup → ∀ k', looks (es.modify q fun e => (k, v, e.2.2)) k' = if k' = k then some v else looks es k'
  | [], _, _, _, h, _, _ => by simp at h
  | e :: es, 0, v0, b, h, _, k' => by
    simp at h
    subst h
    rw [List.modify_zero_cons, looks_cons, looks_cons]
    by_cases h1 : k' = k <;> simp [h1]
  | e :: es, q + 1, v0, b, h, hn, k' => by
    rw [List.modify_succ_cons, looks_cons, looks_cons, looks_modify (v := v) (by simpa using h) (List.nodup_cons.1 (by simpa using hn)).2]
    by_cases h1 : k' = e.1
    · have h2 : e.1 ≠ k := fun h2 => by
        simp only [List.map_cons, List.nodup_cons] at hn
        exact hn.1 (h2 ▸ List.mem_map.2 ⟨_, List.mem_of_getElem? (by simpa using h), rfl⟩)
      rw [if_pos h1, if_pos h1, if_neg (by rw [h1]; exact h2)]
    · rw [if_neg h1, if_neg h1]
theorem looks_erase {k : κ} : ∀ {es : List (κ × Value × Nat)} {q : Nat} {v0 : Value} {b : Nat}, es[q]? = some (k, v0, b) → (es.map (·.1)).Nodup → ∀ k', looks (es.eraseIdx q) k' = if k' = k then none else looks es k'
  | [], _, _, _, h, _, _ => by simp at h
  | e :: es, 0, v0, b, h, hn, k' => by
    simp at h
    subst h
    rw [List.eraseIdx_cons_zero, looks_cons]
    by_cases h1 : k' = k
    · subst h1
      simp only [if_true]
      have h0 : k' ∉ es.map (·.1) := by simp only [List.map_cons, List.nodup_cons] at hn; exact hn.1
      clear hn
      induction es with
      | nil => rfl
      | cons a es ih =>
        rw [looks_cons, if_neg (fun h => h0 (by simp [h])), ih (fun h => h0 (by simp [h]))]
    · simp [h1]
  | e :: es, q + 1, v0, b, h, hn, k' => by
    rw [List.eraseIdx_cons_succ, looks_cons, looks_cons, looks_erase (by simpa using h) (List.nodup_cons.1 (by simpa using hn)).2]
    by_cases h1 : k' = e.1
    · have h2 : e.1 ≠ k := fun h2 => by
        simp only [List.map_cons, List.nodup_cons] at hn
        exact hn.1 (h2 ▸ List.mem_map.2 ⟨_, List.mem_of_getElem? (by simpa using h), rfl⟩)
      rw [if_pos h1, if_pos h1, if_neg (by rw [h1]; exact h2)]
    · rw [if_neg h1, if_neg h1]
/-- Block b is a map that says f. -/
def MapA (b : Nat) (enc : κ → Value) (f : κ → Option Value) : Assn where
  foot x := x = b
  holds w := ∃ (l : List (κ × Value × Nat)) (c : Nat), w.heap[b]? = some (.map (l.map (ent enc)).toArray c) ∧ (l.map (·.1)).Nodup ∧ ∀ k, looks l k = f k
  loc w w' h hw := by rw [h b rfl]; exact hw
def upd (f : κ → Option Value) (k : κ) (v : Option Value) : κ → Option Value := fun k' => if k' = k then v else f k'
theorem Sat.map_eq {K w : World} {b : Nat} {f g : κ → Option Value} {H : List Assn} (h : Sat K w (MapA b enc f :: H)) (he : ∀ k, f k = g k) : Sat K w (MapA b enc g :: H) := by
  obtain rfl : f = g := funext he
  exact h
variable {Mo : Mode} {K : World} {n : Nat} {Q : Post} {e : Env} {H : List Assn} {c : Bool} {dst : Option Tmp} {ty : TypeId} {pos : String} {af : Array Edge} {gd : Option (Nat × Bool)} {ops : Array Oper} {rest : List Oper}
def RdM (K : World) (H : List Assn) (b : Nat) (enc : κ → Value) (f : κ → Option Value) : Prop := ∀ w, Sat K w H → (MapA b enc f).holds w
theorem RdM.here {b : Nat} {f : κ → Option Value} : RdM K (MapA b enc f :: H) b enc f := fun w hw => hw.head
theorem RdM.up {A : Assn} {b : Nat} {f : κ → Option Value} (h : RdM K H b enc f) : RdM K (A :: H) b enc f := fun w hw => h w hw.tail
theorem V.lookup {x y : Operand} {T et b : Nat} {z : Value} {k : κ} {f : κ → Option Value} (hT : P.underlying T = some (.map kt et)) (hz : ∀ w, (zeroValue et).run P w = .ok z w) (L : KeyL P kt enc) (hx : OV c e x (.map (some b))) (hy : OV c e y (enc k))
    (hm : c = true → RdM K H b enc f) : Val Mo P K n c e H ⟨dst, .lookup T x y false, ty, pos, af, gd⟩ ((f k).getD z) := fun hc a w ha hw => by
  show ((do pure (Next.value (← Instr.lookup T (a.eval x) (a.eval y) false))) : Sem Next).run P w = _
  rw [hx.ev hc ha, hy.ev hc ha]
  obtain ⟨l, ck, h1, h2, h3⟩ := hm hc w hw
  have h4 := L.findKey k l w
  have h5 : f k = (findAt k l 0).map (·.2) := (h3 k).symm
  simp only [Instr.lookup, Sem.run_bind, run_underlying hT, Result.andThen_ok, MapKept.run_getObj_map h1, L.check, h4, Sem.run_pure]
  rw [h5]
  cases findAt k l 0 with
  | none => simp [hz w]
  | some p => simp
theorem V.lookupOk {x y : Operand} {T et b : Nat} {z : Value} {k : κ} {f : κ → Option Value} (hT : P.underlying T = some (.map kt et)) (hz : ∀ w, (zeroValue et).run P w = .ok z w) (L : KeyL P kt enc) (hx : OV c e x (.map (some b))) (hy : OV c e y (enc k))
    (hm : c = true → RdM K H b enc f) : Val Mo P K n c e H ⟨dst, .lookup T x y true, ty, pos, af, gd⟩ (.tuple #[(f k).getD z, .bool (f k).isSome]) := fun hc a w ha hw => by
  show ((do pure (Next.value (← Instr.lookup T (a.eval x) (a.eval y) true))) : Sem Next).run P w = _
  rw [hx.ev hc ha, hy.ev hc ha]
  obtain ⟨l, ck, h1, h2, h3⟩ := hm hc w hw
  have h4 := L.findKey k l w
  have h5 : f k = (findAt k l 0).map (·.2) := (h3 k).symm
  simp only [Instr.lookup, Sem.run_bind, run_underlying hT, Result.andThen_ok, MapKept.run_getObj_map h1, L.check, h4, Sem.run_pure]
  rw [h5]
  cases findAt k l 0 with
  | none => simp [hz w]
  | some p => simp
/-- The block of a map is turned. -/
theorem Sat.setMap {w : World} {b : Nat} {f g : κ → Option Value} (hw : Sat K w (MapA b enc f :: H)) {l : List (κ × Value × Nat)} {ck : Nat} (h2 : (l.map (·.1)).Nodup) (h3 : ∀ k, looks l k = g k) :
    Sat K { w with heap := w.heap.setIfInBounds b (.map (l.map (ent enc)).toArray ck) } (MapA b enc g :: H) := by
  have hb := hw.2.2.1 b rfl
  refine ⟨hw.1.grow rfl rfl rfl (by simp), hw.2.set (by simp) (fun x hx _ => ?_) ⟨l, ck, ?_, h2, h3⟩ (fun x hx => .inl hx)⟩
  · have hne : b ≠ x := fun h => hx h.symm
    show (w.heap.setIfInBounds b _)[x]? = _
    rw [Array.getElem?_setIfInBounds, if_neg hne]
  · show (w.heap.setIfInBounds b _)[b]? = _
    rw [Array.getElem?_setIfInBounds, if_pos rfl, if_pos hb]
theorem WL.mapUpdate {x y z : Operand} {T et b : Nat} {k : κ} {v : Value} {f : κ → Option Value} (hT : P.underlying T = some (.map kt et)) (L : KeyL P kt enc) (hx : OV true e x (.map (some b))) (hy : OV true e y (enc k)) (hz : OV true e z v)
    (h : WL Mo P K n ops rest Q e (MapA b enc (upd f k (some v)) :: H)) : WL Mo P K n ops (⟨none, .mapUpdate T x y z, ty, pos, af, none⟩ :: rest) Q e (MapA b enc f :: H) := by
  refine WL.eff0 (R := fun H' => H' = MapA b enc (upd f k (some v)) :: H) (fun a w ha hw => ?_) (fun H' e1 => by subst e1; exact h)
  obtain ⟨l, ck, h1, h2, h3⟩ := hw.head
  have h4 := L.findKey k l w
  have hev : ∀ w', (Instr.mapUpdate T (.map (some b)) (enc k) v).run P w = .ok () w' → (execOp a.eval ⟨none, .mapUpdate T x y z, ty, pos, af, none⟩).run P w = .ok .skip w' := fun w' hr => by
    show ((do Instr.mapUpdate T (a.eval x) (a.eval y) (a.eval z); pure Next.skip) : Sem Next).run P w = _
    rw [hx.ev rfl ha, hy.ev rfl ha, hz.ev rfl ha]
    simp [hr]
  cases hf : findAt k l 0 with
  | none =>
    have hno := looks_none hf
    refine ⟨_, _, .inl (hev _ ?_), hw.setMap (l := l ++ [(k, v, ck)]) (ck := ck + 1) (g := upd f k (some v)) ?_ ?_, rfl⟩
    · simp only [Instr.mapUpdate, Sem.run_bind, run_underlying hT, Result.andThen_ok, MapKept.run_getObj_map h1, L.check, h4, hf]
      rw [MapKept.run_setObj_map _ h1]
      simp [ent]
    · rw [List.map_append, List.map_cons, List.map_nil]
      refine List.nodup_append.2 ⟨h2, by simp, fun a ha b hb => ?_⟩
      simp at hb
      subst hb
      obtain ⟨e', he', rfl⟩ := List.mem_map.1 ha
      exact hno e' he'
    · intro k'
      rw [looks_push hno, h3]; rfl
  | some p =>
    obtain ⟨j, v0⟩ := p
    obtain ⟨q, rfl, bn, hq⟩ := findAt_some hf
    simp only [Nat.zero_add] at hf
    refine ⟨_, _, .inl (hev _ ?_), hw.setMap (l := l.modify q fun e => (k, v, e.2.2)) (ck := ck) (g := upd f k (some v)) ?_ ?_, rfl⟩
    · have hkey : ((l.map (ent enc)).toArray[q]?).map (·.key) = some (enc k) := by simp [hq, ent]
      simp only [Instr.mapUpdate, Sem.run_bind, run_underlying hT, Result.andThen_ok, MapKept.run_getObj_map h1, L.check, h4, hf, hkey, Option.getD_some, Instr.keyThatStays, L.bits, if_true, Sem.run_pure]
      rw [MapKept.run_setObj_map _ h1]
      have : (l.map (ent enc)).toArray.modify q (fun e => { e with key := enc k, val := v }) = ((l.modify q fun e => (k, v, e.2.2)).map (ent enc)).toArray := by
        apply Array.ext_getElem?
        intro i
        simp only [Array.getElem?_modify, List.getElem?_toArray, List.getElem?_map, List.getElem?_modify]
        by_cases hi : q = i
        · simp only [hi, if_true]
          cases l[i]? <;> simp [ent]
        · simp only [hi, if_false]
          cases l[i]? <;> simp
      rw [this]
    · have : (l.modify q fun e => (k, v, e.2.2)).map (·.1) = l.map (·.1) := by
        apply List.ext_getElem?
        intro i
        simp only [List.getElem?_map, List.getElem?_modify]
        by_cases hi : q = i
        · subst hi; simp [hq]
        · simp only [hi, if_false]; cases l[i]? <;> simp
      rw [this]; exact h2
    · intro k'
      rw [looks_modify hq h2, h3]; rfl
theorem WL.delete {d : Nat} {x y : Operand} {T T' et b : Nat} {k : κ} {f : κ → Option Value} (hT : P.underlying T = some (.map kt et)) (L : KeyL P kt enc) (hx : OV true e x (.map (some b))) (hy : OV true e y (enc k)) (hd : Nat.blt d n = true)
    (h : WL Mo P K n ops rest Q ((d, .tuple #[]) :: e) (MapA b enc (upd f k none) :: H)) : WL Mo P K n ops (⟨some d, .call ⟨.builtin .delete, #[x, y], #[T, T']⟩, ty, pos, af, none⟩ :: rest) Q e (MapA b enc f :: H) := by
  refine WL.eff (R := fun v H' => v = .tuple #[] ∧ H' = MapA b enc (upd f k none) :: H) (fun a w ha hw => ?_) hd (fun v H' ⟨e1, e2⟩ => by subst e1 e2; exact h)
  obtain ⟨l, ck, h1, h2, h3⟩ := hw.head
  have h4 := L.findKey k l w
  have ev1 := hx.ev rfl ha
  have ev2 := hy.ev rfl ha
  have hev : ∀ w', (Builtin.delete_ #[T, T'] ty #[.map (some b), enc k]).run P w = .ok (.tuple #[]) w' → (execOp a.eval ⟨some d, .call ⟨.builtin .delete, #[x, y], #[T, T']⟩, ty, pos, af, none⟩).run P w = .ok (.value (.tuple #[])) w' := fun w' hr => by
    rw [execOp_builtin, builtin_delete]
    simp [ev1, ev2, hr]
  cases hf : findAt k l 0 with
  | none =>
    have hno := looks_none hf
    refine ⟨_, _, _, hev _ ?_, hw.setMap (l := l) (ck := ck) (g := upd f k none) h2 ?_, rfl, rfl⟩
    · simp only [Builtin.delete_, List.getElem?_toArray, List.getElem?_cons_zero, List.getElem?_cons_succ, Sem.run_bind, run_underlying hT, Result.andThen_ok, MapKept.run_getObj_map h1, L.check, h4, hf]
      rw [MapKept.run_setObj_map _ h1]
      simp
    · intro k'
      rw [h3]
      unfold upd
      by_cases hk : k' = k
      · subst hk
        rw [if_pos rfl, ← h3]
        unfold looks
        rw [hf]; rfl
      · rw [if_neg hk]
  | some p =>
    obtain ⟨j, v0⟩ := p
    obtain ⟨q, rfl, bn, hq⟩ := findAt_some hf
    simp only [Nat.zero_add] at hf
    refine ⟨_, _, _, hev _ ?_, hw.setMap (l := l.eraseIdx q) (ck := ck) (g := upd f k none) ?_ ?_, rfl, rfl⟩
    · simp only [Builtin.delete_, List.getElem?_toArray, List.getElem?_cons_zero, List.getElem?_cons_succ, Sem.run_bind, run_underlying hT, Result.andThen_ok, MapKept.run_getObj_map h1, L.check, h4, hf]
      rw [MapKept.run_setObj_map _ h1]
      have : (l.map (ent enc)).toArray.eraseIdxIfInBounds q = ((l.eraseIdx q).map (ent enc)).toArray := by
        have hlt : q < l.length := by
          rcases Nat.lt_or_ge q l.length with h | h
          · exact h
          · rw [List.getElem?_eq_none h] at hq; cases hq
        simp [Array.eraseIdxIfInBounds, hlt]
        apply List.ext_getElem?
        intro i
        simp only [List.getElem?_eraseIdx, List.getElem?_map]
        split <;> rfl
      simp [this]
    · exact List.Nodup.sublist ((List.eraseIdx_sublist _ _).map _) h2
    · intro k'
      rw [looks_erase hq h2, h3]; rfl
theorem WL.makeMap {d T : Nat} (enc : κ → Value) (hd : Nat.blt d n = true)
    (h : ∀ b, WL Mo P K n ops rest Q ((d, .map (some b)) :: e) (MapA b enc (fun _ => none) :: H)) : WL Mo P K n ops (⟨some d, .makeMap T none, ty, pos, af, none⟩ :: rest) Q e H := by
  refine WL.eff (R := fun v H' => ∃ b, v = .map (some b) ∧ H' = MapA b enc (fun _ => none) :: H) (fun a w ha hw => ?_) hd (fun v H' ⟨b, e1, e2⟩ => by subst e1 e2; exact h b)
  refine ⟨.map (some w.heap.size), w.alloc (.map #[] 0), _, ?_, ⟨hw.1.grow rfl rfl rfl (by simp), hw.2.push (A := MapA w.heap.size enc (fun _ => none)) (by simp) (fun b hb => ?_) ⟨[], 0, ?_, by simp, fun _ => rfl⟩ (fun b hb => ?_)⟩, w.heap.size, rfl, rfl⟩
  · rfl
  · exact Below.heap_alloc _ _ _ hb
  · exact heap_alloc_new w _
  · simp only [MapA] at hb; subst hb; simp
end

/-- A map of bools that holds only true ones. -/
def boolF {κ : Type} (m : κ → Bool) : κ → Option Value := fun k => if m k then some (.bool true) else none
theorem boolF_get {κ : Type} (m : κ → Bool) (k : κ) : (boolF m k).getD (.bool false) = .bool (m k) := by
  unfold boolF
  cases m k <;> rfl
theorem boolF_upd {κ : Type} [DecidableEq κ] (m : κ → Bool) (k : κ) : upd (boolF m) k (some (.bool true)) = boolF (fun k' => if k' = k then true else m k') := by
  funext q
  unfold upd boolF
  by_cases h : q = k <;> simp [h]
/-! ### Keys -/
theorem KeyL.int {P : Program} {kt : TypeId} {k : IntKind} (h : P.underlying kt = some (.int k)) : KeyL P kt (fun i : Int => Value.int k i) where
  check b i w := MapKept.run_checkKey h (by simp [MapKept.IsKey]) b 9999
  eq i j w := run_equalIn_int w 9999 kt k k i j h
  und := ⟨_, h, fun i j => .inr (by simp [Instr.sameNow]; rfl)⟩
  bits i := by simp [Instr.sameBits]
end Go.Sl
