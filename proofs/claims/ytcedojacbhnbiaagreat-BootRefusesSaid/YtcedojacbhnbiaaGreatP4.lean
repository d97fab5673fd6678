import Derived.Test.YtcedojacbhnbiaaGreatP3
namespace Go.Sl
open Go.RowKit Go.BigFrame
set_option linter.unusedVariables false
set_option linter.unusedSimpArgs false
theorem bA.perm {w : World} {l l' : List au} (h : l.Perm l') : bA w l → bA w l' := by
  induction h with
  | nil => exact id
  | cons x h ih => exact fun hw => hw.ni ih (fun B hB => h.mem_iff.2 hB)
  | swap x y l => exact fun hw => hw.swap
  | trans _ _ h1 h2 => exact fun hw => h2 (h1 hw)
theorem bA.KW {w : World} {l l' H : List au} (h : l.Perm l') : bA w (l ++ H) → bA w (l' ++ H) := bA.perm (h.append_right H)
theorem JR {α β : Type} {f : α → β} {l : List β} : ∀ {m : List β}, m.Perm l → ∀ {dn : List α}, dn.map f = m → ∃ Lh, dn.Perm Lh ∧ Lh.map f = l := by
  intro m h
  induction h with
  | nil => intro dn hd; exact ⟨dn, .refl _, hd⟩
  | cons x h ih =>
    intro dn hd
    cases dn with
    | nil => cases hd
    | cons a dn =>
      simp only [List.map_cons, List.cons.injEq] at hd
      obtain ⟨Lh, h1, h2⟩ := ih hd.2
      exact ⟨a :: Lh, h1.cons a, by simp [hd.1, h2]⟩
  | swap x y l =>
    intro dn hd
    match dn, hd with
    | a :: b :: dn, hd =>
      simp only [List.map_cons, List.cons.injEq] at hd
      exact ⟨b :: a :: dn, .swap b a dn, by simp [hd]⟩
  | trans _ _ h1 h2 =>
    intro dn hd
    obtain ⟨d1, k1, k2⟩ := h1 hd
    obtain ⟨d2, k3, k4⟩ := h2 k2
    exact ⟨d2, k1.trans k3, k4⟩
structure I4 where
  i : Nat
  d : Nat
  v : Nat → Value
  A : Nat → au
def yJ (ops : Array Oper) (Et : Array Bool) : Nat → Array Bool → List Nat → Bool
  | 0, L, R => R.isEmpty && (L == Et)
  | k + 1, L, R => (Region.ready .any ops L == R) && !R.isEmpty && (List.range R.length).all fun j => yJ ops Et k (L.setIfInBounds (R.getD j 0) true) (R.eraseIdx j)
section
variable {ds : List Deferred} {P : Program} {K : World} {n : Nat} {Q : Post} {e0 e : Env} {H F0 : List au} {ops : Array Oper} {Et : Array Bool}
theorem WA.LV (es : List I4) (hnd : (es.map (·.d)).Nodup) (h0 : ∀ x ∈ es, look e0 x.d = none)
    (hop : ∀ x ∈ es, ∃ o, ops[x.i]? = some o ∧ ∀ e' H' Q', Sub e0 e' → (∀ b, WL ⟨none, ds⟩ P K n ops [] Q' ((x.d, x.v b) :: e') (x.A b :: H')) → WL ⟨none, ds⟩ P K n ops [o] Q' e' H') (fuel : Nat)
    (hF : ∀ w, Sat K w H → Sat K w F0)
    (h : ∀ bs : List Nat, bs.length = es.length → WA ⟨none, ds⟩ P K n F0 ops Q fuel Et ((es.zip bs).map (fun p => (p.1.d, p.1.v p.2)) ++ e0) ((es.zip bs).map (fun p => p.1.A p.2) ++ H)) :
    ∀ (k : Nat) (rem : List I4) (dn : List (I4 × Nat)) (listed : Array Bool) (e' : Env), rem.length = k → (rem ++ dn.map (·.1)).Perm es → yJ ops Et k listed (rem.map (·.i)) = true → Sub e0 e' →
      (∀ p ∈ dn, look e' p.1.d = some (p.1.v p.2)) → WA ⟨none, ds⟩ P K n F0 ops Q (k + fuel) listed e' (dn.map (fun p => p.1.A p.2) ++ H) := by
  intro k
  induction k with
  | zero =>
    intro rem dn listed e' hl hp hc hE hd
    obtain rfl : rem = [] := List.eq_nil_of_length_eq_zero hl
    simp only [yJ, Bool.and_eq_true, beq_iff_eq] at hc
    obtain ⟨_, rfl⟩ := hc
    obtain ⟨Lh, k1, k2⟩ := JR (f := fun p : I4 × Nat => p.1) (show (dn.map (·.1)).Perm es from hp) (dn := dn) rfl
    have hz : es.zip (Lh.map (·.2)) = Lh := by
      rw [← k2]
      clear k1 k2 h0 hop h
      induction Lh with
      | nil => rfl
      | cons a l ih => simp [ih]
    have h1 := h (Lh.map (·.2)) (by rw [← k2]; simp)
    rw [hz] at h1
    rw [Nat.zero_add]
    intro a w ha hw
    refine h1 a w (ha.sub ?_) ?_
    · intro t v hv
      have hin : ∀ (l : List (I4 × Nat)), (∀ p ∈ l, p ∈ dn) → look (l.map (fun p => (p.1.d, p.1.v p.2)) ++ e0) t = some v → look e' t = some v := by
        intro l
        clear hv
        induction l with
        | nil => intro _ h; exact hE t v h
        | cons p l ih =>
          intro hm hv
          simp only [List.map_cons, List.cons_append, look] at hv
          cases hk : Nat.beq p.1.d t with
          | true =>
            simp only [hk, cond_true] at hv
            obtain rfl := Nat.eq_of_beq_eq_true hk
            rw [hd p (hm p (.head _)), hv]
          | false =>
            simp only [hk, cond_false] at hv
            exact ih (fun q hq => hm q (.tail _ hq)) hv
      exact hin Lh (fun p hp' => k1.mem_iff.2 hp') hv
    · exact ⟨hw.1, bA.KW (k1.map _) hw.2⟩
  | succ k ih =>
    intro rem dn listed e' hl hp hc hE hd
    simp only [yJ, Bool.and_eq_true, beq_iff_eq, List.all_eq_true, List.mem_range] at hc
    obtain ⟨⟨hr, hne⟩, hall⟩ := hc
    rw [show k + 1 + fuel = (k + fuel) + 1 by omega]
    have Sr : ∀ w, Sat K w (dn.map (fun p => p.1.A p.2) ++ H) → Sat K w F0 := fun w hw => hF w ⟨hw.1, (bA.append.1 hw.2).2.1⟩
    refine WA.step Sr hr (by cases h : (rem.map (·.i)).isEmpty <;> simp_all) fun i hi => ?_
    obtain ⟨j, hj⟩ := List.getElem?_of_mem hi
    rw [List.getElem?_map] at hj
    cases hx : rem[j]? with
    | none => rw [hx] at hj; cases hj
    | some x =>
      rw [hx] at hj
      simp only [Option.map_some, Option.some.injEq] at hj
      subst hj
      have hjl : j < rem.length := by
        rcases Nat.lt_or_ge j rem.length with h | h
        · exact h
        · rw [List.getElem?_eq_none h] at hx; cases hx
      have hxm : x ∈ es := hp.mem_iff.1 (List.mem_append_left _ (List.mem_of_getElem? hx))
      obtain ⟨o, ho, hop'⟩ := hop x hxm
      refine ⟨o, ho, hop' e' _ _ hE fun b => WL.nil ?_⟩
      have hsplit : (x :: rem.eraseIdx j).Perm rem := by
        have e1 : rem = rem.take j ++ x :: rem.drop (j + 1) := by
          conv => lhs; rw [← List.take_append_drop j rem]
          congr 1
          rw [List.drop_eq_getElem_cons hjl]
          congr 1
          rw [List.getElem?_eq_getElem hjl] at hx
          exact Option.some.inj hx
        rw [List.eraseIdx_eq_take_drop_succ]
        conv => rhs; rw [e1]
        exact List.perm_middle.symm
      have hp2 : (rem.eraseIdx j ++ ((x, b) :: dn).map (·.1)).Perm es := by
        refine List.Perm.trans ?_ hp
        simp only [List.map_cons]
        refine List.Perm.trans List.perm_middle ?_
        exact hsplit.append_right (dn.map (·.1))
      have J7 : ((rem.eraseIdx j ++ ((x, b) :: dn).map (·.1)).map (·.d)).Nodup := ((hp2.map _).nodup_iff).2 hnd
      refine ih (rem.eraseIdx j) ((x, b) :: dn) _ _ ?_ hp2 ?_ ?_ ?_
      · rw [List.length_eraseIdx, if_pos hjl]; omega
      · have := hall j (by rw [List.length_map]; exact hjl)
        have e1 : (rem.map (·.i)).getD j 0 = x.i := by rw [List.getD, List.getElem?_map, hx]; rfl
        have e2 : (rem.map (·.i)).eraseIdx j = (rem.eraseIdx j).map (·.i) := by
          apply List.ext_getElem?
          intro q
          simp only [List.getElem?_eraseIdx, List.getElem?_map]
          split <;> rfl
        rw [e1, e2] at this
        exact this
      · intro t v hv
        have hne' : x.d ≠ t := fun e => by rw [← e, h0 x hxm] at hv; cases hv
        simp only [look]
        have : Nat.beq x.d t = false := by
          cases hb : Nat.beq x.d t
          · rfl
          · exact absurd (Nat.eq_of_beq_eq_true hb) hne'
        rw [this]
        exact hE t v hv
      · intro p hp'
        rcases List.mem_cons.1 hp' with rfl | hp'
        · simp [look]
        · have hne' : x.d ≠ p.1.d := by
            rw [List.map_append, List.map_cons, List.map_cons] at J7
            have h3 := (List.nodup_append.1 J7).2.1
            intro e
            exact (List.nodup_cons.1 h3).1 (e ▸ List.mem_map.2 ⟨p.1, List.mem_map.2 ⟨p, hp', rfl⟩, rfl⟩)
          simp only [look]
          have : Nat.beq x.d p.1.d = false := by
            cases hb : Nat.beq x.d p.1.d
            · rfl
            · exact absurd (Nat.eq_of_beq_eq_true hb) hne'
          rw [this]
          exact hd p hp'
theorem WA.par (es : List I4) (listed : Array Bool) {fuel m : Nat} (hm : es.length + fuel = m) (hnd : decide (es.map (·.d)).Nodup = true) (h0 : es.all (fun x => (look e0 x.d).isNone) = true) (hE : Sub e0 e) (hc : yJ ops Et es.length listed (es.map (·.i)) = true)
    (hop : ∀ x ∈ es, ∃ o, ops[x.i]? = some o ∧ ∀ e' H' Q', Sub e0 e' → (∀ b, WL ⟨none, ds⟩ P K n ops [] Q' ((x.d, x.v b) :: e') (x.A b :: H')) → WL ⟨none, ds⟩ P K n ops [o] Q' e' H')
    (hF : ∀ w, Sat K w H → Sat K w F0)
    (h : ∀ bs : List Nat, bs.length = es.length → WA ⟨none, ds⟩ P K n F0 ops Q fuel Et ((es.zip bs).map (fun p => (p.1.d, p.1.v p.2)) ++ e0) ((es.zip bs).map (fun p => p.1.A p.2) ++ H)) :
    WA ⟨none, ds⟩ P K n F0 ops Q m listed e H := by
  subst hm
  exact WA.LV es (of_decide_eq_true hnd) (fun x hx => by simpa using List.all_eq_true.1 h0 x hx) hop fuel hF h es.length es [] listed e rfl (by simp) hc hE (fun p hp => by cases hp)
theorem Je {w : World} {t E : TypeId} {A : Option Addr} {m cap : Nat} (hT : P.underlying t = some (.slice E)) : (Op.equalIn (9999 + 1) t (.slice A m cap) (.slice none 0 0)).run P w = .ok A.isNone w := by
  rw [Op.equalIn]
  cases A <;> simp [run_underlying hT]
theorem V.KF {Mo : Mode} {c : Bool} {dst : Option Tmp} {ty : TypeId} {pos : String} {af : Array Edge} {gd : Option (Nat × Bool)} {x : Operand} {t t' E : TypeId} {A : Option Addr} {m cap : Nat} (hT : P.underlying t = some (.slice E)) (hx : OV c e x (.slice A m cap)) :
    Val Mo P K n c e H ⟨dst, .binOp .eql t x (.const (.slice none 0 0)) t', ty, pos, af, gd⟩ (.bool A.isNone) := fun hc a w ha _ => by
  have h1 : binOp .eql t (.slice A m cap) (.slice none 0 0) = ((Op.equalIn (9999 + 1) t (.slice A m cap) (.slice none 0 0) >>= fun r => pure (Value.bool r)) : Sem Value) := rfl
  refine kX (y := .const (.slice none 0 0)) (v := .slice none 0 0) (hx.ev hc ha) rfl (by simp [eqGuard]) ?_
  rw [h1, Sem.run_bind, Je hT]; rfl
end
end Go.Sl
