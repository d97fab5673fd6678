/- The symbolic executor, sixth part: small forms that a printed walk uses. -/
import Derived.Test.YtcmojpiokjhmhaaSlE
namespace Go.Sl
open Go.RowKit Go.BigFrame
set_option linter.unusedVariables false

def Gets (cs : List Value) : Nat → List Value → Prop
  | _, [] => True
  | o, v :: vs => cs[o]? = some v ∧ Gets cs (o + 1) vs
theorem Gets.at_ {cs : List Value} : ∀ {vs : List Value} {o : Nat}, Gets cs o vs → ∀ i v, vs[i]? = some v → cs[o + i]? = some v
  | [], _, _, i, v, h => by simp at h
  | u :: us, o, hg, 0, v, h => by simp at h; subst h; exact hg.1
  | u :: us, o, hg, i + 1, v, h => by
    have := Gets.at_ hg.2 i v (by simpa using h)
    rwa [show o + (i + 1) = o + 1 + i by omega]
theorem Rds.gets {K : World} {H : List Assn} {b T o : Nat} {cs vs : List Value} (h : Gets cs o vs) : Rds K (Cells b T cs :: H) b o vs := fun i v hi => Rd.here (h.at_ i v hi)
theorem partG {P : Program} {E s : Nat} {cs : List Value} {o : Nat} {vs : List Value} (hE : Agg P E s) (hl : vs.length = s) (hg : Gets cs o vs) : ∀ w, (part E cs.toArray o).run P w = .ok (.agg vs.toArray) w := by
  refine partA hE ?_
  apply Array.ext_getElem?
  intro i
  rw [Array.getElem?_extract]
  by_cases hi : i < vs.length
  · have h1 := hg.at_ i vs[i] (by simp)
    have hsz : o + i < cs.length := by
      rcases Nat.lt_or_ge (o + i) cs.length with h | h
      · exact h
      · rw [List.getElem?_eq_none h] at h1; cases h1
    rw [if_pos (by simp; omega)]
    simp [h1]
  · have h2 : ¬ i < min (o + s) cs.toArray.size - o := by omega
    rw [if_neg h2]
    simp; omega
theorem look_eq {e : Env} {t : Nat} {v v' : Value} (h : look e t = some v) (he : v = v') : look e t = some v' := he ▸ h
theorem Sat.p1 {K w : World} {A B : Assn} {H : List Assn} (h : Sat K w (A :: B :: H)) : Sat K w (B :: A :: H) := Sat.pull 1 h
theorem Sat.p2 {K w : World} {A B C : Assn} {H : List Assn} (h : Sat K w (A :: B :: C :: H)) : Sat K w (C :: A :: B :: H) := Sat.pull 2 h
theorem Sat.p3 {K w : World} {A B C D : Assn} {H : List Assn} (h : Sat K w (A :: B :: C :: D :: H)) : Sat K w (D :: A :: B :: C :: H) := Sat.pull 3 h
theorem Sat.p4 {K w : World} {A B C D E : Assn} {H : List Assn} (h : Sat K w (A :: B :: C :: D :: E :: H)) : Sat K w (E :: A :: B :: C :: D :: H) := Sat.pull 4 h
theorem Sat.p5 {K w : World} {A B C D E G : Assn} {H : List Assn} (h : Sat K w (A :: B :: C :: D :: E :: G :: H)) : Sat K w (G :: A :: B :: C :: D :: E :: H) := Sat.pull 5 h
theorem Sat.p6 {K w : World} {A B C D E G I : Assn} {H : List Assn} (h : Sat K w (A :: B :: C :: D :: E :: G :: I :: H)) : Sat K w (I :: A :: B :: C :: D :: E :: G :: H) := Sat.pull 6 h
/-- The second entry is dropped. -/
theorem Sat.drop2 {K w : World} {A B : Assn} {H : List Assn} (h : Sat K w (A :: B :: H)) : Sat K w (A :: H) := h.p1.tail
theorem Sat.cells_eq {K w : World} {b T : Nat} {cs cs' : List Value} {H : List Assn} (h : Sat K w (Cells b T cs :: H)) (he : cs = cs') : Sat K w (Cells b T cs' :: H) := he ▸ h
theorem Sat.sl_eq {K w : World} {v : Value} {E s m : Nat} {cs cs' : List Value} {H : List Assn} (h : Sat K w (SlA v E s m cs :: H)) (he : cs = cs') : Sat K w (SlA v E s m cs' :: H) := he ▸ h
theorem Seq.all {K : World} {H : List Assn} {b T m s : Nat} {cs : List Value} (hl : cs.length = m * s) : Seq K (Cells b T cs :: H) (some ⟨b, 0, none⟩) m s cs := Seq.here hl (by simp)
/-- Numbers as values. -/
def ints (k : IntKind) (xs : List Int) : List Value := xs.map (Value.int k)
theorem ints_length (k : IntKind) (xs : List Int) : (ints k xs).length = xs.length := by simp [ints]
theorem ints_get (k : IntKind) (xs : List Int) {i : Nat} (h : i < xs.length) : (ints k xs)[i]? = some (.int k xs[i]) := by simp [ints, h]
theorem ints_getD (k : IntKind) (xs : List Int) {i : Nat} (h : i < xs.length) : (ints k xs)[i]? = some (.int k (xs.getD i 0)) := by simp [ints, h]
theorem ints_append (k : IntKind) (xs ys : List Int) : ints k (xs ++ ys) = ints k xs ++ ints k ys := by simp [ints]
theorem ints_one (k : IntKind) (xs : List Int) : ∀ u ∈ ints k xs, u.oneCell' = true := by simp [ints, Value.oneCell']

theorem Seq.int_rd {K : World} {H : List Assn} {A : Option Addr} {m : Nat} {k : IntKind} {xs : List Int} (h : Seq K H A m 1 (ints k xs)) {j : Int} (hj : 0 ≤ j ∧ j < (m : Int)) : Rd K H (A.map (·.add (j.toNat * 1))) (.int k (xs.getD j.toNat 0)) := by
  have hl : xs.length = m := by simpa [ints] using h.len
  have := h.rd j.toNat _ (ints_getD k xs (by omega))
  simpa using this
theorem Seq.nilI {K : World} {H : List Assn} {k : IntKind} : Seq K H none 0 1 (ints k []) := Seq.nil
theorem Seq.allI {K : World} {H : List Assn} {b T m : Nat} {k : IntKind} {xs : List Int} (hl : xs.length = m) : Seq K (Cells b T (ints k xs) :: H) (some ⟨b, 0, none⟩) m 1 (ints k xs) := Seq.all (by simp [ints, hl])

/-! Results that lie in memory -/
def Rg (tmps : Array Value) (r : ResultVar) : Sem Value := match r with | .tmp t => pure (tmps.getD t undef) | .cell x t => do loadVar t (← asAddr (tmps.getD x undef))
theorem results_Rg (fn : Func) (tmps : Array Value) : results fn tmps = (do let vs ← fn.results.mapM (Rg tmps); pure (if h : vs.size = 1 then vs[0] else .tuple vs)) := rfl
def R1 (Mo : Mode) (P : Program) (K : World) (n : Nat) (r : ResultVar) (e : Env) (H : List Assn) (v : Value) : Prop :=
  ∀ a w, Agree Mo n e a → Sat K w H → (Rg a.tmps r).run P w = .ok v w
section
variable {Mo : Mode} {P : Program} {K : World} {n : Nat} {e : Env} {H : List Assn}
theorem R1.tmp {t : Tmp} {v : Value} (h : look e t = some v) : R1 Mo P K n (.tmp t) e H v := fun a w ha _ => by simp only [Rg, ha.at_ t v h]; rfl
theorem R1.cellA {t T s b o : Nat} {vs : List Value} (h : look e t = some (ptr b o)) (hT : Agg P T s) (hs : vs.length = s) (hr : Rds K H b o vs) : R1 Mo P K n (.cell t T) e H (.agg vs.toArray) := fun a w ha hw => by
  have h1 := run_loadCells_list (P := P) w ⟨b, o, none⟩ vs (fun j v hj => by
    obtain ⟨a', h1, h2⟩ := hr j v hj w hw
    injection h1 with h1; subst h1; rwa [add_mk])
  subst hs
  simp only [Rg, ha.at_ t _ h]
  simp [asAddr, loadVar, hT.1 w, hT.2 w, h1]
theorem R1.cell1 {t T : Nat} {p : Option Addr} {v : Value} (h : look e t = some (.pointer p)) (hT : Scal P T) (hr : Rd K H p v) : R1 Mo P K n (.cell t T) e H v := fun a w ha hw => by
  obtain ⟨p', rfl, h2⟩ := hr w hw
  simp only [Rg, ha.at_ t _ h]
  simp [asAddr, loadVar, hT w, h2]
theorem Res.one {fn : Func} {r : ResultVar} {v : Value} (hr : fn.results = #[r]) (h : R1 Mo P K n r e H v) : Res Mo P K n fn e H v := fun a w ha hw => by
  rw [results_Rg, hr]
  simp [h a w ha hw]
theorem Res.two {fn : Func} {r r' : ResultVar} {v v' : Value} (hr : fn.results = #[r, r']) (h : R1 Mo P K n r e H v) (h' : R1 Mo P K n r' e H v') : Res Mo P K n fn e H (.tuple #[v, v']) := fun a w ha hw => by
  rw [results_Rg, hr]
  simp [h a w ha hw, h' a w ha hw]
end
section
variable {Mo : Mode} {P : Program} {K : World} {n : Nat} {Q : Post} {e : Env} {H : List Assn} {ty : TypeId} {pos : String} {af : Array Edge} {ops : Array Oper} {rest : List Oper}
/-- make([]T, m), T of one cell. -/
theorem WL.make1 {d : Nat} {x y : Operand} {T E bytes m : Nat} {z : Value} {k k' : IntKind} {l q : Int} (hT : P.underlying T = some (.slice E)) (hE : ElemTy P E 1 bytes z) (hx : OV true e x (.int k l)) (hy : OV true e y (.int k' q))
    (hl : l = (m : Int)) (hq : q = (m : Int)) (hb : (bytes : Int) * (m : Int) ≤ 281474976710656) (hbp : Nat.blt 0 bytes = true) (hz : z.cells = #[z]) (hd : Nat.blt d n = true)
    (h : ∀ b, WL Mo P K n ops rest Q ((d, .slice (some ⟨b, 0, none⟩) m m) :: e) (Cells b E (List.replicate m z) :: H)) :
    WL Mo P K n ops (⟨some d, .makeSlice T x y, ty, pos, af, none⟩ :: rest) Q e H := by
  obtain ⟨i, hi, hiz, hs, hby, hzs, h0⟩ := hE
  subst hl hq
  have hbp' : 0 < bytes := by simpa using hbp
  have h63 : (m : Int) ≤ 9223372036854775807 := by
    have : (1 : Int) * (m : Int) ≤ (bytes : Int) * (m : Int) := Int.mul_le_mul_of_nonneg_right (by omega) (by omega)
    omega
  have hlist : (madeCells z.cells ((m : Int).toNat * i.size)).toList = List.replicate m z := by
    rw [hz, hs]
    apply List.ext_getElem
    · simp [madeCells]
    · intro j h1 h2
      simp [madeCells, Nat.mod_one]
  refine WL.makeSlice hT hi hiz hx hy (by omega) (Int.le_refl _) (by rw [hby]; exact hb) h63 hd (fun b => ?_)
  rw [hlist]
  exact h b
theorem WL.make1L {d : Nat} {x y : Operand} {T E bytes : Nat} (m : Nat) {z : Value} {k k' : IntKind} {l q : Int} {cs : List Value} (hT : P.underlying T = some (.slice E)) (hE : ElemTy P E 1 bytes z) (hx : OV true e x (.int k l)) (hy : OV true e y (.int k' q))
    (hl : l = (m : Int)) (hq : q = (m : Int)) (hb : (bytes : Int) * (m : Int) ≤ 281474976710656) (hbp : Nat.blt 0 bytes = true) (hz : z.cells = #[z]) (hc : List.replicate m z = cs) (hd : Nat.blt d n = true)
    (h : ∀ b, WL Mo P K n ops rest Q ((d, .slice (some ⟨b, 0, none⟩) m m) :: e) (Cells b E cs :: H)) :
    WL Mo P K n ops (⟨some d, .makeSlice T x y, ty, pos, af, none⟩ :: rest) Q e H := WL.make1 hT hE hx hy hl hq hb hbp hz hd (by rw [hc]; exact h)
end
end Go.Sl
