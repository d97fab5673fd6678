/- The symbolic executor, fourth part: slices. -/
import Derived.Test.YtcmojpiokjhmhaaSlC
import Derived.Maps.AppendAt
import Derived.Laws.MakeOwn
namespace Go.Sl
open Go.RowKit Go.BigFrame
set_option linter.unusedVariables false

section
variable {Mo : Mode} {P : Program} {K : World} {n : Nat} {Q : Post} {e : Env} {H : List Assn} {c : Bool} {dst : Option Tmp} {ty : TypeId} {pos : String} {af : Array Edge} {gd : Option (Nat × Bool)} {ops : Array Oper} {rest : List Oper}

/-- A place in a slice. -/
abbrev sp (A : Option Addr) (k : Nat) : Value := .pointer (A.map (·.add k))
theorem add_add (a : Addr) (i j : Nat) : (a.add i).add j = a.add (i + j) := by
  cases a with
  | mk b o s =>
    unfold Addr.add
    by_cases hi : i = 0
    · by_cases hj : j = 0
      · simp [hi, hj]
      · simp [hi, hj]
    · by_cases hj : j = 0
      · simp [hi, hj]
      · rw [if_neg hi, if_neg hj, if_neg (by omega)]; simp [Nat.add_assoc]
theorem sp_mk (b o k : Nat) : sp (some ⟨b, o, none⟩) k = ptr b (o + k) := by simp [sp, ptr, add_mk]
/-- A slice's cells, in every world of the class; nil ones and empty ones alike. -/
structure Seq (K : World) (H : List Assn) (A : Option Addr) (m s : Nat) (vs : List Value) : Prop where
  len : vs.length = m * s
  rd : ∀ i v, vs[i]? = some v → Rd K H (A.map (·.add i)) v
theorem Seq.up {A : Option Addr} {m s : Nat} {vs : List Value} {B : Assn} (h : Seq K H A m s vs) : Seq K (B :: H) A m s vs := ⟨h.len, fun i v hi => (h.rd i v hi).up⟩
theorem Seq.sat {A : Option Addr} {m s : Nat} {vs : List Value} {H' : List Assn} (h : Seq K H A m s vs) (hs : ∀ w, Sat K w H' → Sat K w H) : Seq K H' A m s vs := ⟨h.len, fun i v hi w hw => h.rd i v hi w (hs w hw)⟩
theorem Seq.here {b T o m s : Nat} {cs vs : List Value} (hl : vs.length = m * s) (h : vs <+: cs.drop o) : Seq K (Cells b T cs :: H) (some ⟨b, o, none⟩) m s vs := ⟨hl, fun i v hi => by
  have := (Rds.here (K := K) (H := H) (b := b) (T := T) h) i v hi
  simpa [add_mk] using this⟩
theorem Seq.nil {s : Nat} : Seq K H none 0 s [] := ⟨by simp, fun i v hi => by simp at hi⟩
theorem Seq.cell {A : Option Addr} {m s : Nat} {vs : List Value} (h : Seq K H A m s vs) {w : World} (hw : Sat K w H) {i : Nat} {v : Value} (hi : vs[i]? = some v) : ∃ a, A = some a ∧ w.cell? (a.add i) = some v := by
  obtain ⟨a, h1, h2⟩ := h.rd i v hi w hw
  cases A with
  | none => simp at h1
  | some a' => simp at h1; subst h1; exact ⟨a', rfl, h2⟩

theorem V.len {x : Operand} {t T : TypeId} {E : TypeId} {A : Option Addr} {m cap : Nat} (hT : ∀ w, (underlying T).run P w = .ok (.slice E) w) (hx : OV c e x (.slice A m cap)) :
    Val Mo P K n c e H ⟨dst, .call ⟨.builtin .len, #[x], #[T]⟩, ty, pos, af, gd⟩ (.int .i64 (m : Int)) := fun hc a w ha _ => by
  rw [execOp_builtin, builtin_len]
  have := hx.ev hc ha
  simp [Builtin.len_, hT w, this, goInt]
theorem V.lenStr {x : Operand} {T : TypeId} {s : ByteArray} (hT : ∀ w, (underlying T).run P w = .ok .string w) (hx : OV c e x (.string s)) :
    Val Mo P K n c e H ⟨dst, .call ⟨.builtin .len, #[x], #[T]⟩, ty, pos, af, gd⟩ (.int .i64 (s.size : Int)) := fun hc a w ha _ => by
  rw [execOp_builtin, builtin_len]
  have := hx.ev hc ha
  simp [Builtin.len_, hT w, this, goInt]
theorem V.cap {x : Operand} {T E : TypeId} {A : Option Addr} {m cap : Nat} (hT : ∀ w, (underlying T).run P w = .ok (.slice E) w) (hx : OV c e x (.slice A m cap)) :
    Val Mo P K n c e H ⟨dst, .call ⟨.builtin .cap, #[x], #[T]⟩, ty, pos, af, gd⟩ (.int .i64 (cap : Int)) := fun hc a w ha _ => by
  rw [execOp_builtin, builtin_cap]
  have := hx.ev hc ha
  simp [Builtin.cap_, hT w, this, goInt]
theorem V.min {x y : Operand} {ats : Array TypeId} {k : IntKind} {i j : Int} (hx : OV c e x (.int k i)) (hy : OV c e y (.int k j)) :
    Val Mo P K n c e H ⟨dst, .call ⟨.builtin .min, #[x, y], ats⟩, ty, pos, af, gd⟩ (.int k (min i j)) := fun hc a w ha _ => by
  rw [execOp_builtin, builtin_min]
  have h1 := hx.ev hc ha
  have h2 := hy.ev hc ha
  simp [Builtin.min_, h1, h2, Builtin.min2]
  omega
theorem V.max {x y : Operand} {ats : Array TypeId} {k : IntKind} {i j : Int} (hx : OV c e x (.int k i)) (hy : OV c e y (.int k j)) :
    Val Mo P K n c e H ⟨dst, .call ⟨.builtin .max, #[x, y], ats⟩, ty, pos, af, gd⟩ (.int k (max i j)) := fun hc a w ha _ => by
  rw [execOp_builtin, builtin_max]
  have h1 := hx.ev hc ha
  have h2 := hy.ev hc ha
  simp [Builtin.max_, h1, h2, Builtin.max2]
  omega

def SliceTy (P : Program) (T E s : Nat) : Prop := (∀ w, (underlying T).run P w = .ok (.slice E) w) ∧ ∀ w, (sizeOf E).run P w = .ok s w
def ArrTy (P : Program) (T m E s : Nat) : Prop := (∀ w, (underlying T).run P w = .ok (.array m E) w) ∧ ∀ w, (sizeOf E).run P w = .ok s w
/-- xs[i], xs a slice that is read. -/
theorem V.idxS {x y : Operand} {T E s m cap : Nat} {A : Option Addr} {k : IntKind} {j : Int} {v : Value} (hT : SliceTy P T E s) (hx : OV c e x (.slice A m cap)) (hy : OV c e y (.int k j)) (hb : c = true → 0 ≤ j ∧ j < m)
    (hr : c = true → Rd K H (A.map (·.add (j.toNat * s))) v) : Val Mo P K n c e H ⟨dst, .indexAddr T x y, ty, pos, af, gd⟩ (sp A (j.toNat * s)) := fun hc a w ha hw => by
  show ((do pure (Next.value (← Instr.indexAt T (a.eval x) (a.eval y)))) : Sem Next).run P w = _
  rw [hx.ev hc ha, hy.ev hc ha]
  obtain ⟨p, h1, h2⟩ := hr hc w hw
  cases A with
  | none => simp at h1
  | some a' => simp [Instr.indexAt, asIntOf, hT.1 w, hT.2 w, hb hc]
theorem V.idxB {x y : Operand} {T E s m cap b o : Nat} {k : IntKind} {j : Int} (hT : SliceTy P T E s) (hx : OV c e x (.slice (some ⟨b, o, none⟩) m cap)) (hy : OV c e y (.int k j)) (hb : c = true → 0 ≤ j ∧ j < m) :
    Val Mo P K n c e H ⟨dst, .indexAddr T x y, ty, pos, af, gd⟩ (ptr b (o + j.toNat * s)) := fun hc a w ha hw => by
  show ((do pure (Next.value (← Instr.indexAt T (a.eval x) (a.eval y)))) : Sem Next).run P w = _
  rw [hx.ev hc ha, hy.ev hc ha]
  simp [Instr.indexAt, asIntOf, hT.1 w, hT.2 w, hb hc, add_mk]
theorem V.idxA {x y : Operand} {T E s m b o : Nat} {k : IntKind} {j : Int} (hT : ArrTy P T m E s) (hx : OV c e x (ptr b o)) (hy : OV c e y (.int k j)) (hb : c = true → 0 ≤ j ∧ j < m) :
    Val Mo P K n c e H ⟨dst, .indexAddr T x y, ty, pos, af, gd⟩ (ptr b (o + j.toNat * s)) := fun hc a w ha hw => by
  show ((do pure (Next.value (← Instr.indexAt T (a.eval x) (a.eval y)))) : Sem Next).run P w = _
  rw [hx.ev hc ha, hy.ev hc ha]
  simp [Instr.indexAt, Instr.sureAddr, asIntOf, hT.1 w, hT.2 w, hb hc, add_mk]
theorem V.fieldS {x : Operand} {S f off k : Nat} {A : Option Addr} {v : Value} {k' : Nat} (hF : FieldOff P S f off) (hx : OV c e x (sp A k)) (hr : c = true → Rd K H (A.map (·.add k')) v) : Val Mo P K n c e H ⟨dst, .fieldAddr S x f, ty, pos, af, gd⟩ (sp A (k + off)) := fun hc a w ha hw => by
  show ((do pure (Next.value (← Instr.fieldAt S (a.eval x) f))) : Sem Next).run P w = _
  rw [hx.ev hc ha]
  obtain ⟨p, h1, h2⟩ := hr hc w hw
  cases A with
  | none => simp at h1
  | some a' => simp [sp, hF _ _, add_add]
/-- A whole element, a whole array. -/
theorem V.loadS {x : Operand} {T s k : Nat} {A : Option Addr} {vs : List Value} (hT : Agg P T s) (hx : OV c e x (sp A k)) (hs : vs.length = s) (h0 : 0 < s) (hr : c = true → ∀ i v, vs[i]? = some v → Rd K H (A.map (·.add (k + i))) v) : Val Mo P K n c e H ⟨dst, .load T x, ty, pos, af, gd⟩ (.agg vs.toArray) := fun hc a w ha hw => by
  show ((do pure (Next.value (← Instr.loadAt T (a.eval x)))) : Sem Next).run P w = _
  rw [hx.ev hc ha]
  subst hs
  obtain ⟨p, h1, _⟩ := hr hc 0 vs[0] (by simp) w hw
  cases A with
  | none => simp at h1
  | some a' =>
    have h1 := run_loadCells_list (P := P) w (a'.add k) vs (fun j v hj => by
      obtain ⟨q, h1, h2⟩ := hr hc j v hj w hw
      simp at h1; subst h1; rwa [add_add])
    simp [sp, Instr.loadAt, Instr.sureAddr, loadVar, hT.1 w, hT.2 w, h1]
/-- A part of an array or a struct that is a value. -/
theorem V.index {x y : Operand} {T E s m : Nat} {cs : List Value} {k : IntKind} {j : Int} {v : Value} (hT : ArrTy P T m E s) (hx : OV c e x (.agg cs.toArray)) (hy : OV c e y (.int k j)) (hb : c = true → 0 ≤ j ∧ j < m)
    (hp : c = true → ∀ w, (part E cs.toArray (j.toNat * s)).run P w = .ok v w) : Val Mo P K n c e H ⟨dst, .index T x y, ty, pos, af, gd⟩ v := fun hc a w ha hw => by
  show ((do pure (Next.value (← Instr.index T (a.eval x) (a.eval y)))) : Sem Next).run P w = _
  rw [hx.ev hc ha, hy.ev hc ha]
  simp [Instr.index, asIntOf, hT.1 w, hT.2 w, hb hc, hp hc w]
theorem part1 {E : Nat} {cs : List Value} {o : Nat} {v : Value} (hE : Scal P E) (hv : cs[o]? = some v) : ∀ w, (part E cs.toArray o).run P w = .ok v w := fun w => by simp [part, hE w, hv]
theorem partA {E s : Nat} {cs : Array Value} {o : Nat} {vs : List Value} (hE : Agg P E s) (hv : cs.extract o (o + s) = vs.toArray) : ∀ w, (part E cs o).run P w = .ok (.agg vs.toArray) w := fun w => by simp only [part, Sem.run_bind, hE.1 w, hE.2 w, Result.andThen_ok, if_true, Sem.run_pure, hv]
/-- build, field: by the kernel's own reckoning. -/
theorem V.build {T : Nat} {xs : List (Nat × Operand)} {vs : List (Nat × Value)} {v : Value} (hxs : OVs c e (xs.map (·.2)) (vs.map (·.2))) (hi : xs.map (·.1) = vs.map (·.1)) (hB : ∀ w, (Instr.build T vs.toArray).run P w = .ok v w) :
    Val Mo P K n c e H ⟨dst, .build T xs.toArray, ty, pos, af, gd⟩ v := fun hc a w ha hw => by
  show ((do pure (Next.value (← Instr.build T (xs.toArray.map fun (i, x) => (i, a.eval x))))) : Sem Next).run P w = _
  have h1 := hxs.ev ha hc
  have h2 : xs.map (fun (i, x) => (i, a.eval x)) = vs := by
    apply List.ext_getElem?
    intro i
    have k1 := congrArg (·[i]?) h1
    have k2 := congrArg (·[i]?) hi
    simp only [List.getElem?_map] at k1 k2 ⊢
    cases hx : xs[i]? <;> cases hv : vs[i]? <;> simp [hx, hv] at k1 k2 ⊢
    exact Prod.ext k2 k1
  rw [List.map_toArray, h2]
  simp [hB w]
theorem V.field {x : Operand} {T f : Nat} {cs : Array Value} {v : Value} (hx : OV c e x (.agg cs)) (hF : ∀ w, (Instr.field T (.agg cs) f).run P w = .ok v w) : Val Mo P K n c e H ⟨dst, .field T x f, ty, pos, af, gd⟩ v := fun hc a w ha hw => by
  show ((do pure (Next.value (← Instr.field T (a.eval x) f))) : Sem Next).run P w = _
  rw [hx.ev hc ha]; simp [hF w]

/-! xs[lo:hi:max] -/
def OO (c : Bool) (e : Env) (x : Option Operand) (d l : Nat) : Prop := match x with | none => l = d | some y => ∃ k j, OV c e y (.int k j) ∧ (c = true → j = (l : Int))
theorem OO.none {d : Nat} : OO c e none d d := rfl
theorem OO.some {y : Operand} {k : IntKind} {j : Int} {l d : Nat} (h : OV c e y (.int k j)) (hj : c = true → j = (l : Int)) : OO c e (some y) d l := ⟨k, j, h, hj⟩
theorem run_sliceBound {i : Int} {k : IntKind} {l y : Nat} {code : BoundsCode} {w : World} (hi : i = (l : Int)) (h : l ≤ y) : (Instr.sliceBound (.int k i) y code).run P w = .ok l w := by
  subst hi
  simp [Instr.sliceBound, asIntOf, h]
theorem run_sliceBounds {b : Bool} {m cap : Nat} {lo hi mx : Option Operand} {l h x : Nat} {a : Act} (ha : Agree Mo n e a) (hl : OO true e lo 0 l) (hh : OO true e hi m h) (hm : OO true e mx cap x) (hmh : mx.isSome = true → hi.isSome = true) (h1 : l ≤ h) (h2 : h ≤ x) (h3 : x ≤ cap) (w : World) :
    (Instr.sliceBounds b m cap (lo.map a.eval) (hi.map a.eval) (mx.map a.eval)).run P w = .ok (l, h, x) w := by
  cases mx with
  | none =>
    simp only [OO] at hm; subst hm
    cases hi with
    | none =>
      simp only [OO] at hh; subst hh
      cases lo with
      | none => simp only [OO] at hl; subst hl; simp [Instr.sliceBounds]
      | some y =>
        obtain ⟨k, j, hy, hj⟩ := hl
        simp [Instr.sliceBounds, hy.ev rfl ha, run_sliceBound (hj rfl) h1]
    | some z =>
      obtain ⟨k, j, hz, hj⟩ := hh
      cases lo with
      | none => simp only [OO] at hl; subst hl; simp [Instr.sliceBounds, hz.ev rfl ha, run_sliceBound (hj rfl) h2]
      | some y =>
        obtain ⟨k', j', hy, hj'⟩ := hl
        simp [Instr.sliceBounds, hz.ev rfl ha, run_sliceBound (hj rfl) h2, hy.ev rfl ha, run_sliceBound (hj' rfl) h1]
  | some u =>
    obtain ⟨k2, j2, hu, hj2⟩ := hm
    cases hi with
    | none => simp at hmh
    | some z =>
      obtain ⟨k, j, hz, hj⟩ := hh
      cases lo with
      | none => simp only [OO] at hl; subst hl; simp [Instr.sliceBounds, hu.ev rfl ha, run_sliceBound (hj2 rfl) h3, hz.ev rfl ha, run_sliceBound (hj rfl) h2]
      | some y =>
        obtain ⟨k', j', hy, hj'⟩ := hl
        simp [Instr.sliceBounds, hu.ev rfl ha, run_sliceBound (hj2 rfl) h3, hz.ev rfl ha, run_sliceBound (hj rfl) h2, hy.ev rfl ha, run_sliceBound (hj' rfl) h1]
theorem V.slice {x : Operand} {lo hi mx : Option Operand} {T E s m cap l h u : Nat} {A : Option Addr} (hT : SliceTy P T E s) (hx : OV true e x (.slice A m cap)) (hl : OO true e lo 0 l) (hh : OO true e hi m h) (hm : OO true e mx cap u)
    (hmh : mx.isSome = true → hi.isSome = true) (h1 : l ≤ h) (h2 : h ≤ u) (h3 : u ≤ cap) :
    Val Mo P K n true e H ⟨dst, .slice T x lo hi mx, ty, pos, af, gd⟩ (.slice (if u = l then A else A.map (·.add (l * s))) (h - l) (u - l)) := fun _ a w ha hw => by
  show ((do pure (Next.value (← Instr.sliceAt T (a.eval x) (lo.map a.eval) (hi.map a.eval) (mx.map a.eval)))) : Sem Next).run P w = _
  rw [hx.ev rfl ha]
  have hb := run_sliceBounds (P := P) (b := true) ha hl hh hm hmh h1 h2 h3 w
  simp [Instr.sliceAt, Instr.slice, hT.1 w, hT.2 w, hb]
/-- Of an array behind a pointer. -/
theorem V.sliceArr {x : Operand} {lo hi mx : Option Operand} {T E s m l h u b o : Nat} (hT : ArrTy P T m E s) (hx : OV true e x (ptr b o)) (hl : OO true e lo 0 l) (hh : OO true e hi m h) (hm : OO true e mx m u)
    (hmh : mx.isSome = true → hi.isSome = true) (h1 : l ≤ h) (h2 : h ≤ u) (h3 : u ≤ m) :
    Val Mo P K n true e H ⟨dst, .slice T x lo hi mx, ty, pos, af, gd⟩ (.slice (some ⟨b, if u = l then o else o + l * s, none⟩) (h - l) (u - l)) := fun _ a w ha hw => by
  show ((do pure (Next.value (← Instr.sliceAt T (a.eval x) (lo.map a.eval) (hi.map a.eval) (mx.map a.eval)))) : Sem Next).run P w = _
  rw [hx.ev rfl ha]
  have hb := run_sliceBounds (P := P) (b := false) ha hl hh hm hmh h1 h2 h3 w
  simp [Instr.sliceAt, Instr.sureAddr, hT.1 w, hT.2 w, hb, add_mk]
  split <;> rfl

/-! Slices that are made -/
theorem WL.makeSlice {d : Nat} {x y : Operand} {T E : Nat} {i : TypeInfo} {z : Value} {k k' : IntKind} {l q : Int} (hT : P.underlying T = some (.slice E)) (hi : P.info? E = some i) (hz : i.zero = some z) (hx : OV true e x (.int k l)) (hy : OV true e y (.int k' q))
    (h0 : 0 ≤ l) (hlq : l ≤ q) (hb : (i.bytes : Int) * q ≤ 281474976710656) (h63 : q ≤ 9223372036854775807) (hd : Nat.blt d n = true)
    (h : ∀ b, WL Mo P K n ops rest Q ((d, .slice (some ⟨b, 0, none⟩) l.toNat q.toNat) :: e) (Cells b E (madeCells z.cells (q.toNat * i.size)).toList :: H)) :
    WL Mo P K n ops (⟨some d, .makeSlice T x y, ty, pos, af, none⟩ :: rest) Q e H := by
  refine WL.eff (R := fun v H' => ∃ b, v = .slice (some ⟨b, 0, none⟩) l.toNat q.toNat ∧ H' = Cells b E (madeCells z.cells (q.toNat * i.size)).toList :: H) (fun a w ha hw => ?_) hd (fun v H' ⟨b, e1, e2⟩ => by subst e1 e2; exact h b)
  refine ⟨_, _, _, ?_, hw.alloc E (madeCells z.cells (q.toNat * i.size)).toList, _, rfl, rfl⟩
  show ((do pure (Next.value (← Instr.makeSlice T (a.eval x) (a.eval y)))) : Sem Next).run P w = _
  rw [hx.ev rfl ha, hy.ev rfl ha, Sem.run_bind, run_make (P := P) w T E i z hT hi hz k k' l q h0 hlq hb h63]
  simp
/-- []T{x, ..} -/
theorem WL.buildSlice {d : Nat} {T E m : Nat} {xs : List (Nat × Operand)} {vs : List (Nat × Value)} {cs : List Value} (hxs : OVs true e (xs.map (·.2)) (vs.map (·.2))) (hi : xs.map (·.1) = vs.map (·.1))
    (hB : ∀ w, (Instr.buildSlice T m vs.toArray).run P w = .ok (.slice (some ⟨w.heap.size, 0, none⟩) m m) (w.alloc (.cells cs.toArray E))) (hd : Nat.blt d n = true)
    (h : ∀ b, WL Mo P K n ops rest Q ((d, .slice (some ⟨b, 0, none⟩) m m) :: e) (Cells b E cs :: H)) : WL Mo P K n ops (⟨some d, .buildSlice T m xs.toArray, ty, pos, af, none⟩ :: rest) Q e H := by
  refine WL.eff (R := fun v H' => ∃ b, v = .slice (some ⟨b, 0, none⟩) m m ∧ H' = Cells b E cs :: H) (fun a w ha hw => ?_) hd (fun v H' ⟨b, e1, e2⟩ => by subst e1 e2; exact h b)
  refine ⟨_, _, _, ?_, hw.alloc E cs, _, rfl, rfl⟩
  show ((do pure (Next.value (← Instr.buildSlice T m (xs.toArray.map fun (i, x) => (i, a.eval x))))) : Sem Next).run P w = _
  have h1 := hxs.ev ha rfl
  have h2 : xs.map (fun (i, x) => (i, a.eval x)) = vs := by
    apply List.ext_getElem?
    intro i
    have k1 := congrArg (·[i]?) h1
    have k2 := congrArg (·[i]?) hi
    simp only [List.getElem?_map] at k1 k2 ⊢
    cases hx : xs[i]? <;> cases hv : vs[i]? <;> simp [hx, hv] at k1 k2 ⊢
    exact Prod.ext k2 k1
  rw [List.map_toArray, h2]
  simp [hB w]

/-- A slice of the call's own: nil, or at the head of a row. -/
def SlA (v : Value) (E s m : Nat) (cs : List Value) : Assn where
  foot x := v.ownBlock = some x
  holds w := w.ownsRow 0 E s v m cs
  loc w w' h hw := by
    refine ⟨hw.1, ?_⟩
    rcases hw.2 with h1 | ⟨g, cap, cur, rfl, h2, h3, h4⟩
    · exact .inl h1
    · exact .inr ⟨g, cap, cur, rfl, h2, by rw [h g rfl]; exact h3, h4⟩
theorem Sat.slNil {w : World} (hw : Sat K w H) (E s : Nat) : Sat K w (SlA (.slice none 0 0) E s 0 [] :: H) :=
  ⟨hw.1, World.ownsRow_nil w 0 E s, fun b hb => by simp [SlA, Value.ownBlock] at hb, fun b hb => by simp [SlA, Value.ownBlock] at hb, hw.2⟩
/-- A row that was made becomes such a slice. -/
theorem Sat.toSl {w : World} {b E s m cap : Nat} {cs : List Value} (hw : Sat K w (Cells b E cs :: H)) (hl : cs.length = cap * s) (hm : m ≤ cap) (hc : cap ≤ maxLen) : Sat K w (SlA (.slice (some ⟨b, 0, none⟩) m cap) E s m (cs.take (m * s)) :: H) := by
  have hb := hw.head
  simp only [Cells] at hb
  refine ⟨hw.1, ⟨?_, .inr ⟨b, cap, cs.toArray, rfl, Nat.zero_le _, hb, hm, hc, by simpa using hl, by simp⟩⟩, fun x hx => ?_, fun x hx B hB hb' => ?_, hw.2.tail⟩
  · rw [List.length_take, hl]; exact Nat.min_eq_left (Nat.mul_le_mul_right _ hm)
  · simp [SlA, Value.ownBlock] at hx; subst hx; exact hw.2.2.1 _ rfl
  · simp [SlA, Value.ownBlock] at hx; subst hx; exact hw.2.2.2.1 _ rfl B hB hb'
theorem SlA.shape {w : World} {v : Value} {E s m : Nat} {cs : List Value} (h : w.ownsRow 0 E s v m cs) : ∃ A cap, v = .slice A m cap ∧ m ≤ cap ∧ (∀ a, A = some a → a.off = 0 ∧ a.spot = none) ∧ (A = none → m = 0 ∧ cap = 0) := by
  rcases h.2 with ⟨rfl, rfl⟩ | ⟨g, cap, cur, rfl, _, _, h4, _⟩
  · exact ⟨none, 0, rfl, Nat.le_refl _, fun a h => by simp at h, fun _ => ⟨rfl, rfl⟩⟩
  · exact ⟨_, cap, rfl, h4, fun a h => by simp at h; subst h; simp, fun h => by simp at h⟩
theorem SlA.seq {A : Option Addr} {cap E s m : Nat} {cs : List Value} (hl : cs.length = m * s) : Seq K (SlA (.slice A m cap) E s m cs :: H) A m s cs := ⟨hl, fun i v hi w hw => by
  have h := hw.head
  rcases h.2 with ⟨h1, h2⟩ | ⟨g, cap', cur, h1, _⟩
  · exfalso
    simp only [Value.slice.injEq] at h1
    subst h2
    simp at hl
    simp [hl] at hi
  · simp only [Value.slice.injEq] at h1
    obtain ⟨rfl, _, rfl⟩ := h1
    exact ⟨_, rfl, h.cells (g := g) rfl i v hi⟩⟩
def ElemTy (P : Program) (E s bytes : Nat) (z : Value) : Prop := ∃ i, P.info? E = some i ∧ i.zero = some z ∧ i.size = s ∧ i.bytes = bytes ∧ z.cells.size = s ∧ 0 < s
theorem ElemTy.mk {E s bytes : Nat} {z : Value} {i : TypeInfo} (hi : P.info? E = some i) (h1 : i.zero = some z) (h2 : i.size = s) (h3 : i.bytes = bytes) (h4 : z.cells.size = s) (h5 : Nat.blt 0 s = true) : ElemTy P E s bytes z := ⟨i, hi, h1, h2, h3, h4, by simpa using h5⟩
/-- append of what is read: v is at the front of memory. -/
theorem WL.append {d : Nat} {x y : Operand} {T E s bytes m q cap' : Nat} {z v : Value} {cs news : List Value} {B : Option Addr} (hT : P.underlying T = some (.slice E)) (hE : ElemTy P E s bytes z) (hx : OV true e x v) (hy : OV true e y (.slice B q cap'))
    (hn : Seq K H B q s news) (h1 : ∀ u ∈ news, u.oneCell' = true) (hb : (m + q) * bytes ≤ 140737488355328) (hby : Nat.blt 0 bytes = true) (hd : Nat.blt d n = true)
    (h : ∀ A cap, (A = none → m + q = 0 ∧ cap = 0) → m + q ≤ cap → WL Mo P K n ops rest Q ((d, .slice A (m + q) cap) :: e) (SlA (.slice A (m + q) cap) E s (m + q) (cs ++ news) :: H)) :
    WL Mo P K n ops (⟨some d, .call ⟨.builtin .append, #[x, y], #[T, T]⟩, ty, pos, af, none⟩ :: rest) Q e (SlA v E s m cs :: H) := by
  refine WL.eff (R := fun u H' => ∃ A cap, u = .slice A (m + q) cap ∧ (A = none → m + q = 0 ∧ cap = 0) ∧ m + q ≤ cap ∧ H' = SlA (.slice A (m + q) cap) E s (m + q) (cs ++ news) :: H) (fun a w ha hw => ?_) hd (fun u H' ⟨A, cap, e1, e2, e3, e4⟩ => by subst e1 e4; exact h A cap e2 e3)
  obtain ⟨i, hi, hz, hs, hby', hzs, h0⟩ := hE
  have hbp : 0 < bytes := by simpa using hby
  have hle : m + q ≤ 140737488355328 := Nat.le_trans (Nat.le_mul_of_pos_right _ hbp) hb
  have hfin : ∀ v' w', (execOp a.eval ⟨some d, .call ⟨.builtin .append, #[x, y], #[T, T]⟩, ty, pos, af, none⟩).run P w = .ok (.value v') w' → w'.ownsRow 0 E s v' (m + q) (cs ++ news) → w.grownBy w' v.ownBlock →
      (v'.ownBlock = none ∨ v'.ownBlock = v.ownBlock ∨ v'.ownBlock = some w.heap.size) → ∃ u w'' H', (execOp a.eval ⟨some d, .call ⟨.builtin .append, #[x, y], #[T, T]⟩, ty, pos, af, none⟩).run P w = .ok (.value u) w'' ∧ Sat K w'' H' ∧
        ∃ A cap, u = .slice A (m + q) cap ∧ (A = none → m + q = 0 ∧ cap = 0) ∧ m + q ≤ cap ∧ H' = SlA (.slice A (m + q) cap) E s (m + q) (cs ++ news) :: H := fun v' w' hrun hown hg hat => by
    obtain ⟨A, cap, rfl, k1, _, k2⟩ := SlA.shape hown
    refine ⟨_, w', _, hrun, ⟨hw.1.grow hg.os hg.tape hg.output hg.size, ?_⟩, A, cap, rfl, k2, k1, rfl⟩
    refine hw.2.set (A' := SlA (.slice A (m + q) cap) E s (m + q) (cs ++ news)) hg.size (fun b hb' hlt => hg.block b hlt (fun e => hb' e.symm)) hown (fun b hb' => ?_)
    have hb2 : (Value.slice A (m + q) cap).ownBlock = some b := hb'
    rcases hat with h' | h' | h'
    · rw [h'] at hb2; cases hb2
    · exact .inl (h'.symm.trans hb2)
    · rw [h'] at hb2
      injection hb2 with hb2
      subst hb2
      exact .inr ⟨Nat.le_refl _, (hown.lt _ h').2⟩
  have hown : w.ownsRow 0 E s v m cs := hw.head
  have ev1 := hx.ev rfl ha
  have ev2 := hy.ev rfl ha
  have hrun0 : ∀ r w', (Builtin.append_ #[T, T] ty #[v, .slice B q cap']).run P w = .ok r w' → (execOp a.eval ⟨some d, .call ⟨.builtin .append, #[x, y], #[T, T]⟩, ty, pos, af, none⟩).run P w = .ok (.value r) w' := fun r w' hr => by
    rw [execOp_builtin, builtin_append]
    simp [ev1, ev2, hr]
  cases B with
  | none =>
    have hnil : news = [] := by
      cases news with
      | nil => rfl
      | cons u us => obtain ⟨p, k1, _⟩ := hn.rd 0 u rfl w hw.tail; simp at k1
    have hq : q = 0 := by
      have := hn.len
      rw [hnil] at this
      rcases Nat.mul_eq_zero.1 this.symm with h | h
      · exact h
      · omega
    subst hnil hq
    refine hfin v w (hrun0 v w ?_) (by simpa using hown) ⟨rfl, rfl, rfl, Nat.le_refl _, fun _ _ _ => rfl⟩ (.inr (.inl rfl))
    obtain ⟨A, cap, rfl, k1, _, _⟩ := SlA.shape hown
    cases A <;> simp [Builtin.append_, run_underlying hT, sizeOf, typeInfo, hi, Builtin.lenOf, Builtin.firstCells, k1, storeCells]
  | some b =>
    obtain ⟨v', w', hr, k2, k3, k4, k5⟩ := run_append_own_at (P := P) w 0 T ty E i z s bytes hT hi hz hs hby' hzs h0 v m cs hown b q cap' news hn.len (fun j u hu => by
      obtain ⟨p, k1, k2⟩ := hn.rd j u hu w hw.tail
      simp at k1; subst k1; exact k2) h1 (by simp only [maxLen]; omega) hb (Nat.zero_le _)
    refine hfin v' w' (hrun0 v' w' hr) k2 k3 ?_
    rcases k5 with k5 | k5
    · exact .inr (.inl k5)
    · exact .inr (.inr k5)
end
end Go.Sl
