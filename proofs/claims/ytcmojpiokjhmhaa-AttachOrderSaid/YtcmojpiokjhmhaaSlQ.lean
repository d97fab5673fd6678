/- The symbolic executor, thirteenth part: own slices that are written in place; clear; what exists in every world. -/
import Derived.Test.YtcmojpiokjhmhaaSlP
import Derived.Lib.SliceRun
namespace Go.Sl
open Go.RowKit Go.BigFrame
set_option linter.unusedVariables false
set_option linter.unusedSimpArgs false

section
variable {Mo : Mode} {P : Program} {K : World} {n : Nat} {Q : Post} {e : Env} {H : List Assn} {c : Bool} {dst : Option Tmp} {ty : TypeId} {pos : String} {af : Array Edge} {gd : Option (Nat × Bool)} {ops : Array Oper} {rest : List Oper}
/-- In every world there is something; for each of it the call does. -/
theorem Does.ex {α : Type} {f : FuncId} {args : Array Value} {post : Value → List Assn → Prop} {p : α → Prop} {M : α → List Assn} (hx : ∀ w, Sat K w H → ∃ a, p a ∧ Sat K w (M a)) (h : ∀ a, p a → Does P f args K (M a) post) : Does P f args K H post := fun w hw => by
  obtain ⟨a, h1, h2⟩ := hx w hw
  exact h a h1 w h2
theorem WL.ex {α : Type} {p : α → Prop} {M : α → List Assn} (hx : ∀ w, Sat K w H → ∃ a, p a ∧ Sat K w (M a)) (h : ∀ a, p a → WL Mo P K n ops rest Q e (M a)) : WL Mo P K n ops rest Q e H := fun a w ha hw => by
  obtain ⟨x, h1, h2⟩ := hx w hw
  exact h x h1 a w ha h2
theorem WC.ex {code : Code} {α : Type} {p : α → Prop} {M : α → List Assn} (hx : ∀ w, Sat K w H → ∃ a, p a ∧ Sat K w (M a)) (h : ∀ a, p a → WC Mo P K n code Q e (M a)) : WC Mo P K n code Q e H := fun a w ha hw => by
  obtain ⟨x, h1, h2⟩ := hx w hw
  exact h x h1 a w ha h2
/-- What every world of the class says may be used. -/
theorem WL.have_ {p : Prop} (hp : ∀ w, Sat K w H → p) (h : p → WL Mo P K n ops rest Q e H) : WL Mo P K n ops rest Q e H := fun a w ha hw => h (hp w hw) a w ha hw
theorem WC.have_ {code : Code} {p : Prop} (hp : ∀ w, Sat K w H → p) (h : p → WC Mo P K n code Q e H) : WC Mo P K n code Q e H := fun a w ha hw => h (hp w hw) a w ha hw
theorem SlA.addr {a : Addr} {m cap E s : Nat} {cs : List Value} {w : World} (h : Sat K w (SlA (.slice (some a) m cap) E s m cs :: H)) : ∃ g, a = ⟨g, 0, none⟩ := by
  rcases h.head.2 with ⟨h1, _⟩ | ⟨g, cap', cur, h1, _⟩
  · cases h1
  · simp only [Value.slice.injEq, Option.some.injEq] at h1
    exact ⟨g, h1.1⟩
theorem SlA.nilCs {m cap E s : Nat} {cs : List Value} {w : World} (h : Sat K w (SlA (.slice none m cap) E s m cs :: H)) : m = 0 ∧ cap = 0 ∧ cs = [] := by
  rcases h.head.2 with ⟨h1, h2⟩ | ⟨g, cap', cur, h1, _⟩
  · simp only [Value.slice.injEq] at h1
    exact ⟨h1.2.1, h1.2.2, List.eq_nil_of_length_eq_zero (by rw [h.head.1, h2, Nat.zero_mul])⟩
  · simp at h1
theorem SlA.len {v : Value} {m E s : Nat} {cs : List Value} {w : World} (h : Sat K w (SlA v E s m cs :: H)) : cs.length = m * s := h.head.1
/-- The whole row behind an own slice. -/
theorem Sat.slCells {w : World} {g E s m cap : Nat} {cs : List Value} (hw : Sat K w (SlA (.slice (some ⟨g, 0, none⟩) m cap) E s m cs :: H)) :
    ∃ rest : List Value, ((cs ++ rest).length = cap * s ∧ cs.length = m * s ∧ m ≤ cap ∧ cap ≤ maxLen) ∧ Sat K w (Cells g E (cs ++ rest) :: H) := by
  obtain ⟨h1, h2⟩ := hw.head
  rcases h2 with ⟨h2, _⟩ | ⟨g', cap', cur, h2, _, h3, h4, h5, h6, h7⟩
  · cases h2
  · simp only [Value.slice.injEq, Option.some.injEq, Addr.mk.injEq] at h2
    obtain ⟨⟨rfl, _⟩, _, rfl⟩ := h2
    have hcat : cs ++ cur.toList.drop (m * s) = cur.toList := by rw [← h7, List.take_append_drop]
    refine ⟨cur.toList.drop (m * s), ⟨by rw [hcat, Array.length_toList, h6], h1, h4, h5⟩, hw.1, ?_, fun x hx => ?_, fun x hx B hB hb' => ?_, hw.2.tail⟩
    · rw [hcat]
      simp only [Cells, Array.toArray_toList]
      exact h3
    · simp only [Cells] at hx
      subst hx
      exact hw.2.2.1 _ (by simp [SlA, Value.ownBlock])
    · simp only [Cells] at hx
      subst hx
      exact hw.2.2.2.1 _ (by simp [SlA, Value.ownBlock]) B hB hb'
/-- clear(s), s of one-cell elements. -/
theorem WL.clear0 {x : Operand} {T E b o q cap : Nat} {z : Value} {A : Option Addr} {H' : List Assn} (hT : P.underlying T = some (.slice E)) (hz : ∀ w, (zeroValue E).run P w = .ok z w) (hzc : z.cells = #[z]) (h1 : z.oneCell' = true)
    (hx : OV true e x (.slice A q cap)) (hA : q ≠ 0 → A = some ⟨b, o, none⟩) (hu : Upd K H b o (List.replicate q z) H') (h : WL Mo P K n ops rest Q e H') :
    WL Mo P K n ops (⟨none, .call ⟨.builtin .clear, #[x], #[T]⟩, ty, pos, af, none⟩ :: rest) Q e H := by
  refine WL.eff0 (R := fun H'' => H'' = H') (fun a w ha hw => ?_) (fun H'' e1 => by subst e1; exact h)
  obtain ⟨k1, k2⟩ := hu.run (P := P) hw (fun v hv => by rw [List.eq_of_mem_replicate hv]; exact h1)
  refine ⟨_, H', .inr ⟨.tuple #[], ?_⟩, k2, rfl⟩
  rw [execOp_builtin, builtin_clear]
  have ev1 := hx.ev rfl ha
  rcases Nat.eq_zero_or_pos q with h0 | h0
  · subst h0
    cases A <;> simp [ev1, Builtin.clear_, run_underlying hT, World.setCells]
  · rw [hA (by omega)] at ev1
    have hm := hu.may w hw.2
    have := Lib.run_clear_slice (P := P) w T E ty z hT hz hzc h1 b o q cap h0 (fun j hj => (hm j (by simpa using hj)).1) (fun j hj => (hm j (by simpa using hj)).2)
    simp only [List.map_toArray, List.map_cons, List.map_nil, ev1]
    rw [Sem.run_bind, this]
    rfl
/-- s[i], s a string. -/
theorem V.idxStr {x y : Operand} {T : TypeId} {s : ByteArray} {k : IntKind} {j : Int} {b : UInt8} (hT : P.underlying T = some .string) (hx : OV c e x (.string s)) (hy : OV c e y (.int k j)) (hb : c = true → 0 ≤ j ∧ s[j.toNat]? = some b) :
    Val Mo P K n c e H ⟨dst, .index T x y, ty, pos, af, gd⟩ (.int .u8 b.toNat) := fun hc a w ha hw => by
  show ((do pure (Next.value (← Instr.index T (a.eval x) (a.eval y)))) : Sem Next).run P w = _
  rw [hx.ev hc ha, hy.ev hc ha]
  obtain ⟨h1, h2⟩ := hb hc
  simp [Instr.index, asIntOf, run_underlying hT, h1, h2]
theorem Upd.row {b T o : Nat} {cs vs : List Value} (ho : o + vs.length ≤ cs.length) : Upd K (Cells b T cs :: H) b o vs (Cells b T (cs.take o ++ vs ++ cs.drop (o + vs.length)) :: H) := Upd.here (by simpa using ho) (setL_append _ _ _ ho)
end
end Go.Sl
