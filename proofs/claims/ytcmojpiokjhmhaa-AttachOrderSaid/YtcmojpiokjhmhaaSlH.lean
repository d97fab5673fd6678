/- The symbolic executor, eighth part: == of structs and arrays. -/
import Derived.Test.YtcmojpiokjhmhaaSlG
import Derived.Laws.StructEq
namespace Go.Sl
open Go.RowKit
set_option linter.unusedVariables false
set_option linter.unusedSimpArgs false

section
variable {P : Program}
def EqIs (P : Program) (k : Nat) (t : TypeId) (x y : Value) (b : Bool) : Prop := ∀ w, (Op.equalIn k t x y).run P w = .ok b w
def EqF (P : Program) (k : Nat) (xs ys : Array Value) (fs : List Field) (b : Bool) : Prop := ∀ w, (Op.eqFields k xs ys fs).run P w = .ok b w
def PartIs (P : Program) (t : TypeId) (xs : Array Value) (o : Nat) (v : Value) : Prop := ∀ w, (part t xs o).run P w = .ok v w
theorem EqIs.int {k : Nat} {t : TypeId} {i : IntKind} {a b : Int} (h : P.underlying t = some (.int i)) : EqIs P (k + 1) t (.int i a) (.int i b) (decide (a = b)) := fun w => by
  rw [run_equalIn_int w k t i i a b h]
  rfl
theorem EqIs.bool {k : Nat} {t : TypeId} {a b : Bool} (h : P.underlying t = some .bool) : EqIs P (k + 1) t (.bool a) (.bool b) (a == b) := fun w => run_equalIn_bool w k t a b h
theorem EqIs.string {k : Nat} {t : TypeId} {a b : ByteArray} (h : P.underlying t = some .string) : EqIs P (k + 1) t (.string a) (.string b) (a.toList == b.toList) := fun w => run_equalIn_string w k t a b h
theorem EqF.nil {k : Nat} {xs ys : Array Value} : EqF P k xs ys [] true := fun w => by simp [Op.eqFields]
theorem EqF.cons {k : Nat} {xs ys : Array Value} {f : Field} {fs : List Field} {a b : Value} {r s : Bool} (hn : (f.name == "_") = false) (ha : PartIs P f.type xs f.offset a) (hb : PartIs P f.type ys f.offset b) (he : EqIs P k f.type a b r) (hr : EqF P k xs ys fs s) :
    EqF P k xs ys (f :: fs) (r && s) := fun w => by
  have hn' : f.name ≠ "_" := by simpa using hn
  rw [Op.eqFields]
  simp only [if_pos hn', Sem.run_bind, ha w, hb w, he w, Result.andThen_ok]
  cases r
  · simp
  · simpa using hr w
theorem EqIs.struct {k : Nat} {t : TypeId} {fs : Array Field} {xs ys : Array Value} {r : Bool} (hu : P.underlying t = some (.struct fs)) (hp : P.stoodInHeld t = false) (h : EqF P k xs ys fs.toList r) : EqIs P (k + 1) t (.agg xs) (.agg ys) r := fun w => by
  have hf : P.fieldsOf t = fs := by simp [Program.fieldsOf, hu]
  rw [run_equalIn_struct (P := P) w k t xs ys (by rw [hf]; exact hu) hp, hf]
  exact h w
inductive EqE (P : Program) (k : Nat) (e n : Nat) (xs ys : Array Value) : List Nat → Bool → Prop
  | nil : EqE P k e n xs ys [] true
  | cons {i : Nat} {is : List Nat} {a b : Value} {r s : Bool} (ha : PartIs P e xs (i * n) a) (hb : PartIs P e ys (i * n) b) (he : EqIs P k e a b r) (hr : EqE P k e n xs ys is s) : EqE P k e n xs ys (i :: is) (r && s)
theorem EqIs.array {k : Nat} {t : TypeId} {m e n : Nat} {xs ys : Array Value} {r : Bool} (hu : P.underlying t = some (.array m e)) (hs : ∀ w, (sizeOf e).run P w = .ok n w) (h : EqE P k e n xs ys (List.range' 0 m 1) r) : EqIs P (k + 1) t (.agg xs) (.agg ys) r := fun w => by
  rw [Op.equalIn]
  simp only [Sem.run_bind, run_underlying hu, Result.andThen_ok, hs, Std.Legacy.Range.forIn_eq_forIn_range', Std.Legacy.Range.size, Nat.sub_zero, Nat.add_sub_cancel, Nat.div_one]
  generalize List.range' 0 m 1 = l at h ⊢
  induction h with
  | nil => simp
  | @cons i is a b r s ha hb he hr ih =>
    simp only [List.forIn_cons, Sem.run_bind, ha w, hb w, he w, Result.andThen_ok]
    cases r
    · simp
    · simp only [Bool.not_true, Bool.false_eq_true, if_false, Sem.run_pure, Result.andThen_ok, Bool.true_and]
      exact ih
variable {K : World} {n : Nat} {e : Env} {H : List Assn} {c : Bool} {dst : Option Tmp} {ty : TypeId} {pos : String} {af : Array Edge} {gd : Option (Nat × Bool)}
theorem V.eqlA {Mo : Mode} {x y : Operand} {t t' : TypeId} {xs ys : Array Value} {b : Bool} (hm : P.eqGuardType P.depth t = false) (hx : OV c e x (.agg xs)) (hy : OV c e y (.agg ys)) (h : EqIs P 10000 t (.agg xs) (.agg ys) b) :
    Val Mo P K n c e H ⟨dst, .binOp .eql t x y t', ty, pos, af, gd⟩ (.bool b) := fun hc a w ha _ =>
  run_bin (hx.ev hc ha) (hy.ev hc ha) (run_eqGuard_agg w _ _ _ _ _ _ hm) (by rw [run_eql_struct, h w]; rfl)
theorem V.neqA {Mo : Mode} {x y : Operand} {t t' : TypeId} {xs ys : Array Value} {b : Bool} (hm : P.eqGuardType P.depth t = false) (hx : OV c e x (.agg xs)) (hy : OV c e y (.agg ys)) (h : EqIs P 10000 t (.agg xs) (.agg ys) b) :
    Val Mo P K n c e H ⟨dst, .binOp .neq t x y t', ty, pos, af, gd⟩ (.bool (!b)) := fun hc a w ha _ =>
  run_bin (hx.ev hc ha) (hy.ev hc ha) (run_eqGuard_agg w _ _ _ _ _ _ hm) (by rw [run_neq_struct, h w]; rfl)
end
end Go.Sl
