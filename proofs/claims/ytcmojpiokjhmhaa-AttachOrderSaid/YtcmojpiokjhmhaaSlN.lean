/- The symbolic executor, tenth part: many entries of memory bound into one; stores and copies at places that are not literals; closures. -/
import Derived.Test.YtcmojpiokjhmhaaSlM
namespace Go.Sl
open Go.RowKit Go.BigFrame
set_option linter.unusedVariables false
set_option linter.unusedSimpArgs false

theorem SatL.at_size {w w' : World} {A : Assn} (h : ∀ b, A.foot b → w'.heap[b]? = w.heap[b]?) (hb : ∀ b, A.foot b → b < w.heap.size) : ∀ b, A.foot b → b < w'.heap.size := fun b hf => by
  have h1 := h b hf
  have h2 : w.heap[b]? = some (w.heap[b]'(hb b hf)) := Array.getElem?_eq_getElem (hb b hf)
  rw [h2] at h1
  rcases Nat.lt_or_ge b w'.heap.size with h3 | h3
  · exact h3
  · rw [Array.getElem?_eq_none h3] at h1; cases h1
theorem SatL.loc {w w' : World} : ∀ {l : List Assn}, (∀ b, (∃ A ∈ l, A.foot b) → w'.heap[b]? = w.heap[b]?) → SatL w l → SatL w' l
  | [], _, _ => trivial
  | A :: l, hk, h => ⟨A.loc w w' (fun b hb => hk b ⟨A, .head _, hb⟩) h.1, SatL.at_size (fun b hb => hk b ⟨A, .head _, hb⟩) h.2.1, h.2.2.1, SatL.loc (fun b ⟨B, hB, hb⟩ => hk b ⟨B, .tail _ hB, hb⟩) h.tail⟩
/-- Many as one. -/
def AllA (l : List Assn) : Assn where
  foot x := ∃ A ∈ l, A.foot x
  holds w := SatL w l
  loc w w' h hw := SatL.loc h hw
theorem SatL.append {w : World} : ∀ {l H : List Assn}, SatL w (l ++ H) ↔ SatL w l ∧ SatL w H ∧ ∀ b, (∃ A ∈ l, A.foot b) → ∀ B ∈ H, ¬ B.foot b
  | [], H => by simp [SatL]
  | A :: l, H => by
    have ih := SatL.append (w := w) (l := l) (H := H)
    constructor
    · intro h
      obtain ⟨k1, k2, k3⟩ := ih.1 h.tail
      refine ⟨⟨h.1, h.2.1, fun b hb B hB => h.2.2.1 b hb B (List.mem_append_left _ hB), k1⟩, k2, fun b ⟨B, hB, hb⟩ C hC => ?_⟩
      rcases List.mem_cons.1 hB with rfl | hB
      · exact h.2.2.1 b hb C (List.mem_append_right _ hC)
      · exact k3 b ⟨B, hB, hb⟩ C hC
    · rintro ⟨h1, h2, h3⟩
      refine ⟨h1.1, h1.2.1, fun b hb B hB => ?_, ih.2 ⟨h1.tail, h2, fun b ⟨B, hB, hb⟩ => h3 b ⟨B, .tail _ hB, hb⟩⟩⟩
      rcases List.mem_append.1 hB with hB | hB
      · exact h1.2.2.1 b hb B hB
      · exact h3 b ⟨A, .head _, hb⟩ B hB
theorem SatL.foot_lt {w : World} {l : List Assn} (h : SatL w l) {b : Nat} (hb : ∃ A ∈ l, A.foot b) : b < w.heap.size := by
  obtain ⟨A, hA, hf⟩ := hb
  exact (h.mem hA).2 b hf
theorem SatL.all {w : World} {l H : List Assn} : SatL w (AllA l :: H) ↔ SatL w (l ++ H) := by
  rw [SatL.append]
  exact ⟨fun h => ⟨h.1, h.tail, h.2.2.1⟩, fun h => ⟨h.1, fun b hb => h.1.foot_lt hb, h.2.2, h.2.1⟩⟩
theorem Sat.unall {K w : World} {l H : List Assn} (h : Sat K w (AllA l :: H)) : Sat K w (l ++ H) := ⟨h.1, SatL.all.1 h.2⟩
theorem Sat.all {K w : World} {l H : List Assn} (h : Sat K w (l ++ H)) : Sat K w (AllA l :: H) := ⟨h.1, SatL.all.2 h.2⟩
/-- One more. -/
theorem Sat.absorb {K w : World} {A : Assn} {l H : List Assn} (h : Sat K w (A :: AllA l :: H)) : Sat K w (AllA (A :: l) :: H) :=
  Sat.all ⟨h.1, ⟨h.2.1, h.2.2.1, fun b hb B hB => by
    rcases List.mem_append.1 hB with hB | hB
    · exact fun hf => h.2.2.2.1 b hb (AllA l) (.head _) ⟨B, hB, hf⟩
    · exact h.2.2.2.1 b hb B (.tail _ hB), SatL.all.1 h.2.tail⟩⟩
theorem Sat.memA {K w : World} {l H : List Assn} {A : Assn} (h : Sat K w (AllA l :: H)) (hA : A ∈ l) : Sat K w [A] :=
  ⟨h.1, (SatL.mem h.2.1 hA).1, (SatL.mem h.2.1 hA).2, fun _ _ _ hB => by simp at hB, trivial⟩
theorem Sat.one {K w : World} {A : Assn} {H : List Assn} (h : Sat K w (A :: H)) : Sat K w [A] := ⟨h.1, h.2.1, h.2.2.1, fun _ _ _ hB => by simp at hB, trivial⟩

section
variable {Mo : Mode} {P : Program} {K : World} {n : Nat} {Q : Post} {e : Env} {H : List Assn} {c : Bool} {dst : Option Tmp} {ty : TypeId} {pos : String} {af : Array Edge} {gd : Option (Nat × Bool)} {ops : Array Oper} {rest : List Oper}
/-- A slice that is read in one entry alone. -/
def SeqIn (l : List Assn) (A : Option Addr) (m s : Nat) (vs : List Value) : Prop := vs.length = m * s ∧ ∀ K w, Sat K w [AllA l] → ∀ i v, vs[i]? = some v → ∃ a, A.map (·.add i) = some a ∧ w.cell? a = some v
theorem SeqIn.seq {l : List Assn} {A : Option Addr} {m s : Nat} {vs : List Value} (h : SeqIn l A m s vs) : Seq K (AllA l :: H) A m s vs := ⟨h.1, fun i v hi w hw => h.2 K w hw.one i v hi⟩
theorem SeqIn.mono {l l' : List Assn} {A : Option Addr} {m s : Nat} {vs : List Value} (h : SeqIn l A m s vs) (hl : ∀ K w, Sat K w [AllA l'] → Sat K w [AllA l]) : SeqIn l' A m s vs := ⟨h.1, fun K w hw => h.2 K w (hl K w hw)⟩
theorem SeqIn.up {l : List Assn} {B : Assn} {A : Option Addr} {m s : Nat} {vs : List Value} (h : SeqIn l A m s vs) : SeqIn (B :: l) A m s vs := h.mono fun K w hw => by
  have h1 := hw.unall
  exact Sat.all (l := l) (H := []) h1.tail
theorem SeqIn.here {l : List Assn} {B : Assn} {A : Option Addr} {m s : Nat} {vs : List Value} (h : ∀ K, Seq K [B] A m s vs) : SeqIn (B :: l) A m s vs := by
  refine ⟨(h default).len, fun K w hw i v hi => (h K).rd i v hi w ?_⟩
  exact hw.unall.one
theorem SeqIn.nil {l : List Assn} {s : Nat} : SeqIn l none 0 s [] := ⟨by simp, fun K w _ i v hi => by simp at hi⟩
theorem setL_append (cs : List Value) : ∀ (vs : List Value) (o : Nat), o + vs.length ≤ cs.length → setL cs o vs = cs.take o ++ vs ++ cs.drop (o + vs.length) := by
  intro vs
  induction vs generalizing cs with
  | nil => intro o h; simp [setL]
  | cons v vs ih =>
    intro o h
    simp only [List.length_cons] at h
    rw [setL, ih _ _ (by simp; omega)]
    apply List.ext_getElem?
    intro i
    simp only [List.getElem?_append, List.getElem?_take, List.getElem?_drop, List.length_append, List.length_take, List.length_set, List.getElem?_set, List.length_cons, List.getElem?_cons]
    rcases Nat.lt_trichotomy i o with hi | hi | hi
    · have e1 : i < min (o + 1) cs.length + vs.length := by omega
      have e2 : i < min (o + 1) cs.length := by omega
      have e3 : i < min o cs.length := by omega
      have e4 : i < min o cs.length + (vs.length + 1) := by omega
      simp [e1, e2, e3, e4, show i < o + 1 by omega, show o ≠ i by omega, hi]
    · subst hi
      have e1 : i < min (i + 1) cs.length + vs.length := by omega
      have e2 : i < min (i + 1) cs.length := by omega
      have e4 : i < min i cs.length + (vs.length + 1) := by omega
      have e3 : ¬ i < min i cs.length := by omega
      simp [e1, e2, e3, e4, show i - min i cs.length = 0 by omega, show i < cs.length by omega]
    · have m1 : min (o + 1) cs.length = o + 1 := by omega
      have m2 : min o cs.length = o := by omega
      rw [m1, m2]
      have e2 : ¬ i < o + 1 := by omega
      have e3 : ¬ i < o := by omega
      have e5 : i - o ≠ 0 := by omega
      simp only [e2, e3, if_false]
      by_cases h1 : i < o + 1 + vs.length
      · simp [h1, show i < o + (vs.length + 1) by omega, e5, show i - (o + 1) = i - o - 1 by omega]
      · have e6 : o ≠ o + (vs.length + 1) + (i - (o + (vs.length + 1))) := by omega
        simp [h1, show ¬ i < o + (vs.length + 1) by omega, show o + 1 + vs.length + (i - (o + 1 + vs.length)) = o + (vs.length + 1) + (i - (o + (vs.length + 1))) by omega]
        intro h7; exact absurd h7 e6
/-- One cell at a place that is no literal. -/
theorem Upd.at_ {b T o : Nat} {cs : List Value} {v : Value} (ho : o < cs.length) : Upd K (Cells b T cs :: H) b o [v] (Cells b T (cs.set o v) :: H) := Upd.here (by simp; omega) rfl
theorem Upd.front {b T : Nat} {cs vs : List Value} (ho : vs.length ≤ cs.length) : Upd K (Cells b T cs :: H) b 0 vs (Cells b T (vs ++ cs.drop vs.length) :: H) := Upd.here (by simpa using ho) (by rw [setL_append _ _ _ (by simpa using ho)]; simp)
/-- copy of a slice that is read into a row that was made. -/
theorem WL.copySeq {d : Nat} {x y : Operand} {T T' E b dl dc q cap' : Nat} {B : Option Addr} {news : List Value} {H' : List Assn} (hT : SliceTy P T E 1) (hx : OV true e x (.slice (some ⟨b, 0, none⟩) dl dc)) (hy : OV true e y (.slice B q cap'))
    (hn : Seq K H B q 1 news) (hl : q ≤ dl) (h1 : ∀ v ∈ news, v.oneCell' = true) (hu : Upd K H b 0 news H') (hd : Nat.blt d n = true)
    (h : WL Mo P K n ops rest Q ((d, .int .i64 (q : Int)) :: e) H') : WL Mo P K n ops (⟨some d, .call ⟨.builtin .copy, #[x, y], #[T, T']⟩, ty, pos, af, none⟩ :: rest) Q e H := by
  refine WL.eff (R := fun v H'' => v = .int .i64 (q : Int) ∧ H'' = H') (fun a w ha hw => ?_) hd (fun v H'' ⟨e1, e2⟩ => by subst e1 e2; exact h)
  obtain ⟨k1, k2⟩ := hu.run (P := P) hw h1
  refine ⟨_, _, H', ?_, k2, rfl, rfl⟩
  have hlen : news.length = q := by rw [hn.len, Nat.mul_one]
  have hm : q.min dl = q := Nat.min_eq_left hl
  rw [execOp_builtin, builtin_copy]
  have ev1 := hx.ev rfl ha
  have ev2 := hy.ev rfl ha
  have hf : (Builtin.firstCells 1 q (.slice B q cap')).run P w = .ok news.toArray w := by
    cases B with
    | none =>
      have : news = [] := by
        cases news with
        | nil => rfl
        | cons u us => obtain ⟨p, h1, _⟩ := hn.rd 0 u rfl w hw; simp at h1
      subst this
      rfl
    | some pb =>
      have := run_loadCells_list (P := P) w pb news (fun j v hj => by
        obtain ⟨p, h1, h2⟩ := hn.cell hw hj
        simp at h1; subst h1; exact h2)
      rw [hlen] at this
      simpa [Builtin.firstCells] using this
  simp [Builtin.copy_, ev1, ev2, hT.1 w, hT.2 w, Builtin.lenOf, hm, hf, k1, goInt]
/-- One entry turned in its place. -/
inductive Repl (A A' : Assn) : List Assn → List Assn → Prop
  | here {H : List Assn} : Repl A A' (A :: H) (A' :: H)
  | up {B : Assn} {H H' : List Assn} (h : Repl A A' H H') : Repl A A' (B :: H) (B :: H')
theorem Repl.front {A A' : Assn} {H H' : List Assn} (h : Repl A A' H H') : ∃ R, (∀ w, SatL w H → SatL w (A :: R)) ∧ (∀ w, SatL w (A' :: R) → SatL w H') ∧ (∀ B ∈ H', B = A' ∨ B ∈ R) ∧ (∀ B ∈ R, B ∈ H) ∧ A ∈ H := by
  induction h with
  | here => exact ⟨_, fun w h => h, fun w h => h, fun B hB => List.mem_cons.1 hB, fun B hB => .tail _ hB, .head _⟩
  | @up B H H' h ih =>
    obtain ⟨R, h1, h2, h3, h4, h5⟩ := ih
    refine ⟨B :: R, fun w h => (h.cons_congr (h1 w) (fun C hC => ?_)).swap, fun w h => h.swap.cons_congr (h2 w) (fun C hC => ?_), fun C hC => ?_, fun C hC => ?_, .tail _ h5⟩
    · rcases List.mem_cons.1 hC with rfl | hC
      · exact h5
      · exact h4 C hC
    · rcases h3 C hC with rfl | h
      · exact .head _
      · exact .tail _ h
    · rcases List.mem_cons.1 hC with rfl | hC
      · exact .inr (.head _)
      · exact (h3 C hC).imp id (.tail _)
    · rcases List.mem_cons.1 hC with rfl | hC
      · exact .head _
      · exact .tail _ (h4 C hC)
/-- An operation at the front's entry is one at its place. -/
theorem WL.atFront {A A' : Assn} {H' : List Assn} {o : Oper} (hR : Repl A A' H H') (hop : ∀ R, WL Mo P K n ops rest Q e (A' :: R) → WL Mo P K n ops (o :: rest) Q e (A :: R)) (h : WL Mo P K n ops rest Q e H') : WL Mo P K n ops (o :: rest) Q e H := by
  obtain ⟨R, h1, h2, _⟩ := hR.front
  exact WL.sub (Sub.refl _) (fun w hw => ⟨hw.1, h1 w hw.2⟩) (hop R (WL.sub (Sub.refl _) (fun w hw => ⟨hw.1, h2 w hw.2⟩) h))
theorem WL.atFrontD {A A' : Assn} {H' : List Assn} {o : Oper} {d : Nat} {v : Value} (hR : Repl A A' H H') (hop : ∀ R, WL Mo P K n ops rest Q ((d, v) :: e) (A' :: R) → WL Mo P K n ops (o :: rest) Q e (A :: R)) (h : WL Mo P K n ops rest Q ((d, v) :: e) H') : WL Mo P K n ops (o :: rest) Q e H := by
  obtain ⟨R, h1, h2, _⟩ := hR.front
  exact WL.sub (Sub.refl _) (fun w hw => ⟨hw.1, h1 w hw.2⟩) (hop R (WL.sub (Sub.refl _) (fun w hw => ⟨hw.1, h2 w hw.2⟩) h))
theorem WL.mapUpdateR {κ : Type} [DecidableEq κ] {enc : κ → Value} {kt : TypeId} {x y z : Operand} {T et b : Nat} {k : κ} {v : Value} {f : κ → Option Value} {H' : List Assn} (hT : P.underlying T = some (.map kt et)) (L : KeyL P kt enc) (hx : OV true e x (.map (some b))) (hy : OV true e y (enc k)) (hz : OV true e z v)
    (hR : Repl (MapA b enc f) (MapA b enc (upd f k (some v))) H H') (h : WL Mo P K n ops rest Q e H') : WL Mo P K n ops (⟨none, .mapUpdate T x y z, ty, pos, af, none⟩ :: rest) Q e H :=
  WL.atFront hR (fun R h => WL.mapUpdate hT L hx hy hz h) h
theorem WL.deleteR {κ : Type} [DecidableEq κ] {enc : κ → Value} {kt : TypeId} {d : Nat} {x y : Operand} {T T' et b : Nat} {k : κ} {f : κ → Option Value} {H' : List Assn} (hT : P.underlying T = some (.map kt et)) (L : KeyL P kt enc) (hx : OV true e x (.map (some b))) (hy : OV true e y (enc k)) (hd : Nat.blt d n = true)
    (hR : Repl (MapA b enc f) (MapA b enc (upd f k none)) H H') (h : WL Mo P K n ops rest Q ((d, .tuple #[]) :: e) H') : WL Mo P K n ops (⟨some d, .call ⟨.builtin .delete, #[x, y], #[T, T']⟩, ty, pos, af, none⟩ :: rest) Q e H :=
  WL.atFrontD hR (fun R h => WL.delete hT L hx hy hd h) h
/-- A closure. -/
theorem V.makeFunc {fn : Fn} {first captured : List Operand} {us vs : List Value} (hf : OVs c e first us) (hv : OVs c e captured vs) : Val Mo P K n c e H ⟨dst, .makeFunc fn first.toArray captured.toArray, ty, pos, af, gd⟩ (.func fn us.toArray vs.toArray) := fun hc a w ha hw => by
  show ((do pure (Next.value (← Instr.makeFunc fn (first.toArray.map a.eval) (captured.toArray.map a.eval)))) : Sem Next).run P w = _
  rw [List.map_toArray, List.map_toArray, hf.ev ha hc, hv.ev ha hc]
  rfl
end
end Go.Sl
