/- The symbolic executor, second part: what each operation yields. -/
import Derived.Test.YtcmojpiokjhmhaaSlA
namespace Go.Sl
open Go.RowKit
set_option linter.unusedVariables false

abbrev ptr (b o : Nat) : Value := .pointer (some ⟨b, o, none⟩)
theorem add_mk (b o k : Nat) : (⟨b, o, none⟩ : Addr).add k = ⟨b, o + k, none⟩ := by unfold Addr.add; split <;> simp_all

section
variable {Mo : Mode} {P : Program} {K : World} {n : Nat} {Q : Post} {e : Env} {H : List Assn} {c : Bool} {dst : Option Tmp} {ty : TypeId} {pos : String} {af : Array Edge} {gd : Option (Nat × Bool)}

theorem V.move {x : Operand} {v : Value} (hx : OV c e x v) : Val Mo P K n c e H ⟨dst, .move x, ty, pos, af, gd⟩ v := fun hc a w ha _ => by
  show Result.ok (Next.value (a.eval x)) w = _; rw [hx.ev hc ha]
theorem V.assign {x : Operand} {v : Value} (hx : OV c e x v) : Val Mo P K n c e H ⟨dst, .assign x, ty, pos, af, gd⟩ v := fun hc a w ha _ => by
  show Result.ok (Next.value (a.eval x)) w = _; rw [hx.ev hc ha]
theorem run_pick {a : Act} {w : World} {q x y : Operand} {g : Bool} (h : a.eval q = .bool g) : (execOp a.eval ⟨dst, .pick q x y, ty, pos, af, gd⟩).run P w = .ok (.value (if g then a.eval x else a.eval y)) w := by
  show ((do pure (Next.value (if ← asBool (a.eval q) then a.eval x else a.eval y))) : Sem Next).run P w = _
  rw [h]; rfl
theorem V.pickT {q x y : Operand} {v : Value} (hq : OV c e q (.bool true)) (hx : OV c e x v) : Val Mo P K n c e H ⟨dst, .pick q x y, ty, pos, af, gd⟩ v := fun hc a w ha _ => by
  rw [run_pick (hq.ev hc ha), hx.ev hc ha]; rfl
theorem V.pickF {q x y : Operand} {v : Value} (hq : OV c e q (.bool false)) (hy : OV c e y v) : Val Mo P K n c e H ⟨dst, .pick q x y, ty, pos, af, gd⟩ v := fun hc a w ha _ => by
  rw [run_pick (hq.ev hc ha), hy.ev hc ha]; rfl
theorem V.pickAnd {q x : Operand} {g p : Bool} (hq : OV c e q (.bool g)) (hx : OV (c && g) e x (.bool p)) : Val Mo P K n c e H ⟨dst, .pick q x (.const (.bool false)), ty, pos, af, gd⟩ (.bool (g && p)) := fun hc a w ha _ => by
  rw [run_pick (hq.ev hc ha)]
  subst hc
  cases g with
  | true => rw [hx.ev rfl ha]; rfl
  | false => rfl
theorem V.pickOr {q y : Operand} {g p : Bool} (hq : OV c e q (.bool g)) (hy : OV (c && !g) e y (.bool p)) : Val Mo P K n c e H ⟨dst, .pick q (.const (.bool true)) y, ty, pos, af, gd⟩ (.bool (g || p)) := fun hc a w ha _ => by
  rw [run_pick (hq.ev hc ha)]
  subst hc
  cases g with
  | false => rw [hy.ev rfl ha]; rfl
  | true => rfl
theorem run_bin {a : Act} {w : World} {op : BinOp} {t t' : TypeId} {x y : Operand} {u v : Value} {r : Value} (hx : a.eval x = u) (hy : a.eval y = v) (hg : (eqGuard op t x y u v).run P w = .ok () w) (hr : (binOp op t u v).run P w = .ok r w) :
    (execOp a.eval ⟨dst, .binOp op t x y t', ty, pos, af, gd⟩).run P w = .ok (.value r) w := by
  show (((eqGuard op t x y (a.eval x) (a.eval y) >>= fun _ => binOp op t (a.eval x) (a.eval y)) >>= fun r => pure (Next.value r)) : Sem Next).run P w = _
  rw [hx, hy]
  simp only [Sem.run_bind, hg, hr, Result.andThen_ok, Sem.run_pure]
theorem eqGuard_int {w : World} {op : BinOp} {t : TypeId} {x y : Operand} {k k' : IntKind} {i j : Int} : (eqGuard op t x y (.int k i) (.int k' j)).run P w = .ok () w := by
  unfold eqGuard; cases op <;> rfl
theorem eqGuard_bool {w : World} {op : BinOp} {t : TypeId} {x y : Operand} {i j : Bool} : (eqGuard op t x y (.bool i) (.bool j)).run P w = .ok () w := by
  unfold eqGuard; cases op <;> rfl
theorem eqGuard_string {w : World} {op : BinOp} {t : TypeId} {x y : Operand} {i j : ByteArray} : (eqGuard op t x y (.string i) (.string j)).run P w = .ok () w := by
  unfold eqGuard; cases op <;> rfl
theorem eqGuard_ptr {w : World} {op : BinOp} {t : TypeId} {x y : Operand} {i j : Option Addr} : (eqGuard op t x y (.pointer i) (.pointer j)).run P w = .ok () w := by
  unfold eqGuard; cases op <;> rfl
section ints
variable {x y : Operand} {k k' : IntKind} {i j : Int} {t t' : TypeId}
theorem V.int2 {op : BinOp} {r : Value} (hx : OV c e x (.int k i)) (hy : OV c e y (.int k' j)) (hr : ∀ w, (binOp op t (.int k i) (.int k' j)).run P w = .ok r w) : Val Mo P K n c e H ⟨dst, .binOp op t x y t', ty, pos, af, gd⟩ r :=
  fun hc a w ha _ => run_bin (hx.ev hc ha) (hy.ev hc ha) eqGuard_int (hr w)
theorem V.lss (hx : OV c e x (.int k i)) (hy : OV c e y (.int k j)) : Val Mo P K n c e H ⟨dst, .binOp .lss t x y t', ty, pos, af, gd⟩ (.bool (decide (i < j))) := V.int2 hx hy fun w => by simp [binOp, Op.intCmp]
theorem V.leq (hx : OV c e x (.int k i)) (hy : OV c e y (.int k j)) : Val Mo P K n c e H ⟨dst, .binOp .leq t x y t', ty, pos, af, gd⟩ (.bool (decide (i ≤ j))) := V.int2 hx hy fun w => by simp [binOp, Op.intCmp]
theorem V.gtr (hx : OV c e x (.int k i)) (hy : OV c e y (.int k j)) : Val Mo P K n c e H ⟨dst, .binOp .gtr t x y t', ty, pos, af, gd⟩ (.bool (decide (j < i))) := V.int2 hx hy fun w => by simp [binOp, Op.intCmp]
theorem V.geq (hx : OV c e x (.int k i)) (hy : OV c e y (.int k j)) : Val Mo P K n c e H ⟨dst, .binOp .geq t x y t', ty, pos, af, gd⟩ (.bool (decide (j ≤ i))) := V.int2 hx hy fun w => by simp [binOp, Op.intCmp]
theorem V.eql (hx : OV c e x (.int k i)) (hy : OV c e y (.int k j)) : Val Mo P K n c e H ⟨dst, .binOp .eql t x y t', ty, pos, af, gd⟩ (.bool (decide (i = j))) := V.int2 hx hy fun w => by
  simp [binOp, Op.intCmp]; rw [Bool.eq_iff_iff]; simp
theorem V.neq (hx : OV c e x (.int k i)) (hy : OV c e y (.int k j)) : Val Mo P K n c e H ⟨dst, .binOp .neq t x y t', ty, pos, af, gd⟩ (.bool (!decide (i = j))) := V.int2 hx hy fun w => by
  simp [binOp, Op.intCmp]; rw [Bool.eq_iff_iff]; simp
theorem V.add (hx : OV c e x (.int k i)) (hy : OV c e y (.int k j)) : Val Mo P K n c e H ⟨dst, .binOp .add t x y t', ty, pos, af, gd⟩ (.int k (k.wrap (i + j))) := V.int2 hx hy fun w => by simp [binOp, Op.intArith]
theorem V.sub (hx : OV c e x (.int k i)) (hy : OV c e y (.int k j)) : Val Mo P K n c e H ⟨dst, .binOp .sub t x y t', ty, pos, af, gd⟩ (.int k (k.wrap (i - j))) := V.int2 hx hy fun w => by simp [binOp, Op.intArith]
theorem V.mul (hx : OV c e x (.int k i)) (hy : OV c e y (.int k j)) : Val Mo P K n c e H ⟨dst, .binOp .mul t x y t', ty, pos, af, gd⟩ (.int k (k.wrap (i * j))) := V.int2 hx hy fun w => by simp [binOp, Op.intArith]
theorem wrap_i64 {i : Int} (h : -9223372036854775808 ≤ i ∧ i ≤ 9223372036854775807) : IntKind.i64.wrap i = i := IntWalk.i64_in i h
theorem V.val_eq {o : Oper} {v v' : Value} (h : Val Mo P K n c e H o v) (he : c = true → v = v') : Val Mo P K n c e H o v' := fun hc => by rw [← he hc]; exact h hc
theorem V.addI (hx : OV c e x (.int .i64 i)) (hy : OV c e y (.int .i64 j)) (h : c = true → -9223372036854775808 ≤ i + j ∧ i + j ≤ 9223372036854775807) : Val Mo P K n c e H ⟨dst, .binOp .add t x y t', ty, pos, af, gd⟩ (.int .i64 (i + j)) := V.val_eq (V.add hx hy) fun hc => by rw [wrap_i64 (h hc)]
theorem V.subI (hx : OV c e x (.int .i64 i)) (hy : OV c e y (.int .i64 j)) (h : c = true → -9223372036854775808 ≤ i - j ∧ i - j ≤ 9223372036854775807) : Val Mo P K n c e H ⟨dst, .binOp .sub t x y t', ty, pos, af, gd⟩ (.int .i64 (i - j)) := V.val_eq (V.sub hx hy) fun hc => by rw [wrap_i64 (h hc)]
theorem V.mulI (hx : OV c e x (.int .i64 i)) (hy : OV c e y (.int .i64 j)) (h : c = true → -9223372036854775808 ≤ i * j ∧ i * j ≤ 9223372036854775807) : Val Mo P K n c e H ⟨dst, .binOp .mul t x y t', ty, pos, af, gd⟩ (.int .i64 (i * j)) := V.val_eq (V.mul hx hy) fun hc => by rw [wrap_i64 (h hc)]
theorem V.quo (hx : OV c e x (.int k i)) (hy : OV c e y (.int k j)) (h : j ≠ 0) : Val Mo P K n c e H ⟨dst, .binOp .quo t x y t', ty, pos, af, gd⟩ (.int k (k.wrap (i.tdiv j))) := V.int2 hx hy fun w => by simp [binOp, Op.intDiv, h]
theorem V.rem (hx : OV c e x (.int k i)) (hy : OV c e y (.int k j)) (h : j ≠ 0) : Val Mo P K n c e H ⟨dst, .binOp .rem t x y t', ty, pos, af, gd⟩ (.int k (i.tmod j)) := V.int2 hx hy fun w => by simp [binOp, Op.intDiv, h]
/-- '/' and '%' of an int that is not negative by a positive one. -/
theorem V.quoI (hx : OV c e x (.int .i64 i)) (hy : OV c e y (.int .i64 j)) (h : c = true → 0 ≤ i ∧ i ≤ 9223372036854775807 ∧ 0 < j) : Val Mo P K n c e H ⟨dst, .binOp .quo t x y t', ty, pos, af, gd⟩ (.int .i64 (i / j)) := fun hc => by
  obtain ⟨h1, h2, h3⟩ := h hc
  refine V.val_eq (V.quo hx hy (by omega)) (fun _ => ?_) hc
  rw [Int.tdiv_eq_ediv_of_nonneg h1, wrap_i64 ⟨by have := Int.ediv_nonneg h1 (Int.le_of_lt h3); omega, by have := Int.ediv_le_self j h1; omega⟩]
theorem V.remI (hx : OV c e x (.int .i64 i)) (hy : OV c e y (.int .i64 j)) (h : c = true → 0 ≤ i ∧ 0 < j) : Val Mo P K n c e H ⟨dst, .binOp .rem t x y t', ty, pos, af, gd⟩ (.int .i64 (i % j)) := fun hc => by
  obtain ⟨h1, h3⟩ := h hc
  refine V.val_eq (V.rem hx hy (by omega)) (fun _ => ?_) hc
  rw [Int.tmod_eq_emod_of_nonneg h1]
/-- and, or, xor, and not: as the model has it. -/
def bitsOf (op : BinOp) (k : IntKind) (i j : Int) : Int :=
  let a := BitVec.ofInt k.bits i
  let b := BitVec.ofInt k.bits j
  k.wrap (match op with | .and => (a &&& b) | .or => (a ||| b) | .xor => (a ^^^ b) | _ => (a &&& ~~~b)).toNat
theorem V.and (hx : OV c e x (.int k i)) (hy : OV c e y (.int k j)) : Val Mo P K n c e H ⟨dst, .binOp .and t x y t', ty, pos, af, gd⟩ (.int k (bitsOf .and k i j)) := V.int2 hx hy fun w => by simp [binOp, Op.intBits, bitsOf]
theorem V.or (hx : OV c e x (.int k i)) (hy : OV c e y (.int k j)) : Val Mo P K n c e H ⟨dst, .binOp .or t x y t', ty, pos, af, gd⟩ (.int k (bitsOf .or k i j)) := V.int2 hx hy fun w => by simp [binOp, Op.intBits, bitsOf]
theorem V.xor (hx : OV c e x (.int k i)) (hy : OV c e y (.int k j)) : Val Mo P K n c e H ⟨dst, .binOp .xor t x y t', ty, pos, af, gd⟩ (.int k (bitsOf .xor k i j)) := V.int2 hx hy fun w => by simp [binOp, Op.intBits, bitsOf]
theorem V.andNot (hx : OV c e x (.int k i)) (hy : OV c e y (.int k j)) : Val Mo P K n c e H ⟨dst, .binOp .andNot t x y t', ty, pos, af, gd⟩ (.int k (bitsOf .andNot k i j)) := V.int2 hx hy fun w => by simp [binOp, Op.intBits, bitsOf]
theorem V.shl (hx : OV c e x (.int k i)) (hy : OV c e y (.int k' j)) (h : 0 ≤ j) : Val Mo P K n c e H ⟨dst, .binOp .shl t x y t', ty, pos, af, gd⟩ (.int k (k.wrap (i * 2 ^ (min j.toNat k.bits)))) := V.int2 hx hy fun w => by
  simp [binOp, Op.shift, Int.not_lt.2 h]
theorem V.shr (hx : OV c e x (.int k i)) (hy : OV c e y (.int k' j)) (h : 0 ≤ j) : Val Mo P K n c e H ⟨dst, .binOp .shr t x y t', ty, pos, af, gd⟩ (.int k (i.fdiv (2 ^ (min j.toNat k.bits)))) := V.int2 hx hy fun w => by
  simp [binOp, Op.shift, Int.not_lt.2 h]
end ints
theorem V.eqlB {x y : Operand} {t t' : TypeId} {i j : Bool} (ht : P.underlying t = some .bool) (hx : OV c e x (.bool i)) (hy : OV c e y (.bool j)) : Val Mo P K n c e H ⟨dst, .binOp .eql t x y t', ty, pos, af, gd⟩ (.bool (i == j)) :=
  fun hc a w ha _ => run_bin (hx.ev hc ha) (hy.ev hc ha) eqGuard_bool (by
    show ((Op.equal t (.bool i) (.bool j) >>= fun r => pure (Value.bool r)) : Sem Value).run P w = _
    simp only [Sem.run_bind, run_equal_bool w t i j ht, Result.andThen_ok, Sem.run_pure])
theorem V.neqB {x y : Operand} {t t' : TypeId} {i j : Bool} (ht : P.underlying t = some .bool) (hx : OV c e x (.bool i)) (hy : OV c e y (.bool j)) : Val Mo P K n c e H ⟨dst, .binOp .neq t x y t', ty, pos, af, gd⟩ (.bool (!(i == j))) :=
  fun hc a w ha _ => run_bin (hx.ev hc ha) (hy.ev hc ha) eqGuard_bool (by
    show ((Op.equal t (.bool i) (.bool j) >>= fun r => pure (Value.bool (!r))) : Sem Value).run P w = _
    simp only [Sem.run_bind, run_equal_bool w t i j ht, Result.andThen_ok, Sem.run_pure])
theorem V.eqlS {x y : Operand} {t t' : TypeId} {i j : ByteArray} (hx : OV c e x (.string i)) (hy : OV c e y (.string j)) : Val Mo P K n c e H ⟨dst, .binOp .eql t x y t', ty, pos, af, gd⟩ (.bool (i.toList == j.toList)) :=
  fun hc a w ha _ => run_bin (hx.ev hc ha) (hy.ev hc ha) eqGuard_string (by simp [binOp, Op.stringOp])
theorem V.neqS {x y : Operand} {t t' : TypeId} {i j : ByteArray} (hx : OV c e x (.string i)) (hy : OV c e y (.string j)) : Val Mo P K n c e H ⟨dst, .binOp .neq t x y t', ty, pos, af, gd⟩ (.bool (!(i.toList == j.toList))) :=
  fun hc a w ha _ => run_bin (hx.ev hc ha) (hy.ev hc ha) eqGuard_string (by simp [binOp, Op.stringOp])
theorem V.eqlP {x y : Operand} {t t' : TypeId} {i : Option Addr} (ht : P.underlying t = some (.pointer (P.pointee t))) (hx : OV c e x (.pointer i)) (hy : OV c e y (.pointer none)) : Val Mo P K n c e H ⟨dst, .binOp .eql t x y t', ty, pos, af, gd⟩ (.bool i.isNone) :=
  fun hc a w ha _ => run_bin (hx.ev hc ha) (hy.ev hc ha) eqGuard_ptr (by
    have h1 : (binOp .eql t (.pointer i) (.pointer none)) = ((Op.equal t (.pointer i) (.pointer none) >>= fun r => pure (Value.bool r)) : Sem Value) := by cases i <;> rfl
    rw [h1]
    simp only [Sem.run_bind, run_equal_pointer_nil w t i ht, Result.andThen_ok, Sem.run_pure])
theorem V.neqP {x y : Operand} {t t' : TypeId} {i : Option Addr} (ht : P.underlying t = some (.pointer (P.pointee t))) (hx : OV c e x (.pointer i)) (hy : OV c e y (.pointer none)) : Val Mo P K n c e H ⟨dst, .binOp .neq t x y t', ty, pos, af, gd⟩ (.bool (!i.isNone)) :=
  fun hc a w ha _ => run_bin (hx.ev hc ha) (hy.ev hc ha) eqGuard_ptr (by
    have h1 : (binOp .neq t (.pointer i) (.pointer none)) = ((Op.equal t (.pointer i) (.pointer none) >>= fun r => pure (Value.bool (!r))) : Sem Value) := by cases i <;> rfl
    rw [h1]
    simp only [Sem.run_bind, run_equal_pointer_nil w t i ht, Result.andThen_ok, Sem.run_pure])
theorem V.not {x : Operand} {t : TypeId} {g : Bool} (hx : OV c e x (.bool g)) : Val Mo P K n c e H ⟨dst, .unOp .not t x, ty, pos, af, gd⟩ (.bool (!g)) := fun hc a w ha _ => by
  show ((do pure (Next.value (← Op.unary .not (a.eval x)))) : Sem Next).run P w = _
  rw [hx.ev hc ha]; rfl
theorem V.extract {x : Operand} {i : Nat} {vs : List Value} {v : Value} (hx : OV c e x (.tuple vs.toArray)) (hv : vs[i]? = some v) : Val Mo P K n c e H ⟨dst, .extract x i, ty, pos, af, gd⟩ v := fun hc a w ha _ => by
  show ((do pure (Next.value (← Instr.extract (a.eval x) i))) : Sem Next).run P w = _
  rw [hx.ev hc ha]
  simp [Instr.extract, hv]
theorem V.convI {x : Operand} {s t : TypeId} {k k' : IntKind} {i : Int} {ds : TypeDesc} (hs : ∀ w, (underlying s).run P w = .ok ds w) (ht : ∀ w, (underlying t).run P w = .ok (.int k') w) (hx : OV c e x (.int k i)) :
    Val Mo P K n c e H ⟨dst, .convert s t x, ty, pos, af, gd⟩ (.int k' (k'.wrap i)) := fun hc a w ha _ => by
  show ((do pure (Next.value (← convert s t (a.eval x)))) : Sem Next).run P w = _
  rw [hx.ev hc ha]
  simp only [convert, Sem.run_bind, hs, ht, Result.andThen_ok]
  cases ds <;> rfl
theorem V.convW {x : Operand} {s t : TypeId} {k k' : IntKind} {i : Int} {ds : TypeDesc} (hs : ∀ w, (underlying s).run P w = .ok ds w) (ht : ∀ w, (underlying t).run P w = .ok (.int k') w) (hx : OV c e x (.int k i)) (hi : c = true → k'.wrap i = i) :
    Val Mo P K n c e H ⟨dst, .convert s t x, ty, pos, af, gd⟩ (.int k' i) := V.val_eq (V.convI hs ht hx) fun hc => by rw [hi hc]
/-- An address of a field, an element. -/
def FieldOff (P : Program) (S f off : Nat) : Prop := ∀ (a : Addr) (w : World), (Instr.fieldAt S (.pointer (some a)) f).run P w = .ok (.pointer (some (a.add off))) w
theorem V.fieldAddr {x : Operand} {S f off b o : Nat} (hF : FieldOff P S f off) (hx : OV c e x (ptr b o)) : Val Mo P K n c e H ⟨dst, .fieldAddr S x f, ty, pos, af, gd⟩ (ptr b (o + off)) := fun hc a w ha _ => by
  show ((do pure (Next.value (← Instr.fieldAt S (a.eval x) f))) : Sem Next).run P w = _
  rw [hx.ev hc ha, Sem.run_bind, hF, add_mk]; rfl
theorem V.nilCheck {x : Operand} {p : Addr} (hx : OV c e x (.pointer (some p))) : Val Mo P K n c e H ⟨dst, .nilCheck x, ty, pos, af, gd⟩ (.pointer (some p)) := fun hc a w ha _ => by
  show (match a.eval x with
    | .pointer none | .nilIface | .nilFunc => runtimePanic .nilDeref
    | .func (.method name) first captured => _
    | x => pure (.value x) : Sem Next).run P w = _
  rw [hx.ev hc ha]; rfl
end
end Go.Sl
