/- The symbolic executor, eleventh part: entries of memory picked by number. -/
import Derived.Test.YtcmojpiokjhmhaaSlN
namespace Go.Sl
open Go.RowKit Go.BigFrame
set_option linter.unusedVariables false
set_option linter.unusedSimpArgs false

def Apart (A B : Assn) : Prop := ∀ b, A.foot b → ¬ B.foot b
theorem SatL.iff {w : World} : ∀ {l : List Assn}, SatL w l ↔ (∀ A ∈ l, A.holds w ∧ ∀ b, A.foot b → b < w.heap.size) ∧ ∀ (i j : Nat) (A B : Assn), i ≠ j → l[i]? = some A → l[j]? = some B → Apart A B
  | [] => by simp [SatL]
  | A :: l => by
    constructor
    · intro h
      obtain ⟨k1, k2⟩ := SatL.iff.1 h.tail
      refine ⟨fun B hB => ?_, fun i j B C hij hi hj => ?_⟩
      · rcases List.mem_cons.1 hB with rfl | hB
        · exact ⟨h.1, h.2.1⟩
        · exact k1 B hB
      · cases i with
        | zero =>
          cases j with
          | zero => exact absurd rfl hij
          | succ j =>
            simp at hi hj
            subst hi
            exact fun b hb => h.2.2.1 b hb C (List.mem_of_getElem? hj)
        | succ i =>
          cases j with
          | zero =>
            simp at hi hj
            subst hj
            exact fun b hb hb' => h.2.2.1 b hb' B (List.mem_of_getElem? hi) hb
          | succ j => exact k2 i j B C (fun h => hij (by rw [h])) (by simpa using hi) (by simpa using hj)
    · rintro ⟨k1, k2⟩
      refine ⟨(k1 A (.head _)).1, (k1 A (.head _)).2, fun b hb B hB => ?_, SatL.iff.2 ⟨fun B hB => k1 B (.tail _ hB), fun i j B C hij hi hj => k2 (i + 1) (j + 1) B C (fun h => hij (by omega)) (by simpa using hi) (by simpa using hj)⟩⟩
      obtain ⟨i, hi⟩ := List.getElem?_of_mem hB
      exact k2 0 (i + 1) A B (by omega) rfl (by simpa using hi) b hb
def selL (l : List Assn) : List Nat → List Assn
  | [] => []
  | i :: is => match l[i]? with | some A => A :: selL l is | none => selL l is
theorem selL_mem {l : List Assn} : ∀ {is : List Nat} {A : Assn}, A ∈ selL l is → ∃ i ∈ is, l[i]? = some A
  | [], _, h => by simp [selL] at h
  | i :: is, A, h => by
    simp only [selL] at h
    split at h
    · rename_i B hB
      rcases List.mem_cons.1 h with rfl | h
      · exact ⟨i, .head _, hB⟩
      · obtain ⟨j, h1, h2⟩ := selL_mem h; exact ⟨j, .tail _ h1, h2⟩
    · obtain ⟨j, h1, h2⟩ := selL_mem h; exact ⟨j, .tail _ h1, h2⟩
theorem SatL.sel {w : World} {l : List Assn} (h : SatL w l) : ∀ {is : List Nat}, is.Nodup → SatL w (selL l is)
  | [], _ => trivial
  | i :: is, hn => by
    obtain ⟨k1, k2⟩ := SatL.iff.1 h
    have hn' := List.nodup_cons.1 hn
    simp only [selL]
    split
    · rename_i A hA
      have hm := k1 A (List.mem_of_getElem? hA)
      refine ⟨hm.1, hm.2, fun b hb B hB => ?_, h.sel hn'.2⟩
      obtain ⟨j, h1, h2⟩ := selL_mem hB
      exact k2 i j A B (fun e => hn'.1 (e ▸ h1)) hA h2 b hb
    · exact h.sel hn'.2
/-- Of the first n entries those of the numbers told, in that order; the rest behind them. -/
theorem Sat.sel {K w : World} {H : List Assn} (n : Nat) (is : List Nat) (hn : decide is.Nodup = true) (h : Sat K w H) : Sat K w (selL (H.take n) is ++ H.drop n) := by
  refine ⟨h.1, ?_⟩
  have h0 : SatL w (H.take n ++ H.drop n) := by rw [List.take_append_drop]; exact h.2
  obtain ⟨h1, h2, h3⟩ := SatL.append.1 h0
  refine SatL.append.2 ⟨h1.sel (of_decide_eq_true hn), h2, fun b ⟨A, hA, hb⟩ B hB => h3 b ⟨A, ?_, hb⟩ B hB⟩
  obtain ⟨i, _, hi⟩ := selL_mem hA
  exact List.mem_of_getElem? hi

section
variable {Mo : Mode} {P : Program} {K : World} {n : Nat} {Q : Post} {e : Env} {H : List Assn} {c : Bool} {dst : Option Tmp} {ty : TypeId} {pos : String} {af : Array Edge} {gd : Option (Nat × Bool)} {ops : Array Oper} {rest : List Oper}
theorem WL.delete0 {κ : Type} [DecidableEq κ] {enc : κ → Value} {kt : TypeId} {x y : Operand} {T T' et b : Nat} {k : κ} {f : κ → Option Value} (hT : P.underlying T = some (.map kt et)) (L : KeyL P kt enc) (hx : OV true e x (.map (some b))) (hy : OV true e y (enc k))
    (h : WL Mo P K n ops rest Q e (MapA b enc (upd f k none) :: H)) : WL Mo P K n ops (⟨none, .call ⟨.builtin .delete, #[x, y], #[T, T']⟩, ty, pos, af, none⟩ :: rest) Q e (MapA b enc f :: H) := by
  refine WL.eff0 (R := fun H' => H' = MapA b enc (upd f k none) :: H) (fun a w ha hw => ?_) (fun H' e1 => by subst e1; exact h)
  obtain ⟨l, ck, h1, h2, h3⟩ := hw.head
  have h4 := L.findKey k l w
  have ev1 := hx.ev rfl ha
  have ev2 := hy.ev rfl ha
  have hev : ∀ w', (Builtin.delete_ #[T, T'] ty #[.map (some b), enc k]).run P w = .ok (.tuple #[]) w' → (execOp a.eval ⟨none, .call ⟨.builtin .delete, #[x, y], #[T, T']⟩, ty, pos, af, none⟩).run P w = .ok (.value (.tuple #[])) w' := fun w' hr => by
    rw [execOp_builtin, builtin_delete]
    simp [ev1, ev2, hr]
  cases hf : findAt k l 0 with
  | none =>
    have hno := looks_none hf
    refine ⟨_, _, .inr ⟨_, hev _ ?_⟩, hw.setMap (l := l) (ck := ck) (g := upd f k none) h2 ?_, rfl⟩
    · simp only [Builtin.delete_, List.getElem?_toArray, List.getElem?_cons_zero, List.getElem?_cons_succ, Sem.run_bind, run_underlying hT, Result.andThen_ok, MapKept.run_getObj_map h1, L.check, h4, hf]
      rw [MapKept.run_setObj_map _ h1]
      simp
    · intro k'
      rw [h3]
      unfold upd
      by_cases hk : k' = k
      · subst hk
        rw [if_pos rfl, ← h3]
        unfold looks
        rw [hf]; rfl
      · rw [if_neg hk]
  | some p =>
    obtain ⟨j, v0⟩ := p
    obtain ⟨q, rfl, bn, hq⟩ := findAt_some hf
    simp only [Nat.zero_add] at hf
    refine ⟨_, _, .inr ⟨_, hev _ ?_⟩, hw.setMap (l := l.eraseIdx q) (ck := ck) (g := upd f k none) ?_ ?_, rfl⟩
    · simp only [Builtin.delete_, List.getElem?_toArray, List.getElem?_cons_zero, List.getElem?_cons_succ, Sem.run_bind, run_underlying hT, Result.andThen_ok, MapKept.run_getObj_map h1, L.check, h4, hf]
      rw [MapKept.run_setObj_map _ h1]
      have : (l.map (ent enc)).toArray.eraseIdxIfInBounds q = ((l.eraseIdx q).map (ent enc)).toArray := by
        have hlt : q < l.length := by
          rcases Nat.lt_or_ge q l.length with h | h
          · exact h
          · rw [List.getElem?_eq_none h] at hq; cases hq
        simp [Array.eraseIdxIfInBounds, hlt]
        apply List.ext_getElem?
        intro i
        simp only [List.getElem?_eraseIdx, List.getElem?_map]
        split <;> rfl
      simp [this]
    · exact List.Nodup.sublist ((List.eraseIdx_sublist _ _).map _) h2
    · intro k'
      rw [looks_erase hq h2, h3]; rfl
theorem WL.delete0R {κ : Type} [DecidableEq κ] {enc : κ → Value} {kt : TypeId} {x y : Operand} {T T' et b : Nat} {k : κ} {f : κ → Option Value} {H' : List Assn} (hT : P.underlying T = some (.map kt et)) (L : KeyL P kt enc) (hx : OV true e x (.map (some b))) (hy : OV true e y (enc k))
    (hR : Repl (MapA b enc f) (MapA b enc (upd f k none)) H H') (h : WL Mo P K n ops rest Q e H') : WL Mo P K n ops (⟨none, .call ⟨.builtin .delete, #[x, y], #[T, T']⟩, ty, pos, af, none⟩ :: rest) Q e H :=
  WL.atFront hR (fun R h => WL.delete0 hT L hx hy h) h
end
theorem ints_replicate (k : IntKind) (m : Nat) (x : Int) : ints k (List.replicate m x) = List.replicate m (.int k x) := by simp [ints]
theorem ints_set (k : IntKind) (xs : List Int) (i : Nat) (x : Int) : (ints k xs).set i (.int k x) = ints k (xs.set i x) := by simp [ints, List.map_set]
theorem replicate_step {i m : Nat} {x y : Int} (h : i < m) : (List.replicate i x ++ List.replicate (m - i) y).set i x = List.replicate (i + 1) x ++ List.replicate (m - (i + 1)) y := by
  apply List.ext_getElem?
  intro j
  simp only [List.getElem?_set, List.getElem?_append, List.length_replicate, List.length_append, List.getElem?_replicate]
  by_cases h1 : i = j
  · subst h1; simp; omega
  · by_cases h2 : j < i
    · simp [h1, h2, show j < i + 1 by omega]
    · simp [h1, h2, show ¬ j < i + 1 by omega, show j - i < m - i ↔ j - (i + 1) < m - (i + 1) by omega]
theorem sub0 {u s : Nat} {A : Option Addr} : (if u = 0 then A else A.map (·.add (0 * s))) = A := by
  split
  · rfl
  · cases A with
    | none => rfl
    | some a => simp [Addr.add]
theorem Seq.take {K : World} {H : List Assn} {A : Option Addr} {m h : Nat} {vs : List Value} (hs : Seq K H A m 1 vs) (hh : h ≤ m) : Seq K H A h 1 (vs.take h) := by
  have hl := hs.len
  refine ⟨by rw [List.length_take]; omega, fun i v hi => hs.rd i v ?_⟩
  rw [List.getElem?_take] at hi
  split at hi
  · exact hi
  · cases hi
theorem ints_take (k : IntKind) (xs : List Int) (n : Nat) : (ints k xs).take n = ints k (xs.take n) := by simp [ints]
theorem ints_drop (k : IntKind) (xs : List Int) (n : Nat) : (ints k xs).drop n = ints k (xs.drop n) := by simp [ints]
theorem IsBytes.take {xs : List Int} (h : IsBytes xs) (n : Nat) : IsBytes (xs.take n) := fun x hx => h x (List.mem_of_mem_take hx)
theorem IsBytes.append {xs ys : List Int} (h : IsBytes xs) (h' : IsBytes ys) : IsBytes (xs ++ ys) := fun x hx => (List.mem_append.1 hx).elim (h x) (h' x)
theorem IsBytes.repl {n : Nat} {x : Int} (h : 0 ≤ x ∧ x < 256) : IsBytes (List.replicate n x) := fun y hy => by rw [List.eq_of_mem_replicate hy]; exact h
theorem IsBytes.drop {xs : List Int} (h : IsBytes xs) (n : Nat) : IsBytes (xs.drop n) := fun x hx => h x (List.mem_of_mem_drop hx)

/-- What every world of the class says may be used. -/
theorem Does.have_ {P : Program} {K : World} {F : List Assn} {f : FuncId} {args : Array Value} {post : Value → List Assn → Prop} {p : Prop} (hp : ∀ w, Sat K w F → p) (h : p → Does P f args K F post) : Does P f args K F post := fun w hw => h (hp w hw) w hw
theorem Seq.none_nil {K : World} {F : List Assn} {m s : Nat} {vs : List Value} (hs : Seq K F none m s vs) {w : World} (hw : Sat K w F) : vs = [] := by
  cases vs with
  | nil => rfl
  | cons v vs => obtain ⟨a, h, _⟩ := hs.rd 0 v rfl w hw; cases h
end Go.Sl
