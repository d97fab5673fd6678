import Derived.Test.YtohkefolnmcjnaaGreatP3
import Derived.Test.YtohkefolnmcjnaaGreatProg
import Derived.Test.YtohkefolnmcjnaaGreatChecked
namespace Go.Sl
open Go.RowKit Go.BigFrame
set_option linter.unusedVariables false
set_option linter.unusedSimpArgs false
theorem SatL.perm {w : World} {l l' : List Assn} (h : l.Perm l') : SatL w l → SatL w l' := by
  induction h with
  | nil => exact id
  | cons x h ih => exact fun hw => hw.cons_congr ih (fun B hB => h.mem_iff.2 hB)
  | swap x y l => exact fun hw => hw.swap
  | trans _ _ h1 h2 => exact fun hw => h2 (h1 hw)
theorem SatL.perm_app {w : World} {l l' H : List Assn} (h : l.Perm l') : SatL w (l ++ H) → SatL w (l' ++ H) := SatL.perm (h.append_right H)
theorem perm_map {α β : Type} {f : α → β} {l : List β} : ∀ {m : List β}, m.Perm l → ∀ {dn : List α}, dn.map f = m → ∃ dn', dn.Perm dn' ∧ dn'.map f = l := by
  intro m h
  induction h with
  | nil => intro dn hd; exact ⟨dn, .refl _, hd⟩
  | cons x h ih =>
    intro dn hd
    cases dn with
    | nil => cases hd
    | cons a dn =>
      simp only [List.map_cons, List.cons.injEq] at hd
      obtain ⟨dn', h1, h2⟩ := ih hd.2
      exact ⟨a :: dn', h1.cons a, by simp [hd.1, h2]⟩
  | swap x y l =>
    intro dn hd
    match dn, hd with
    | a :: b :: dn, hd =>
      simp only [List.map_cons, List.cons.injEq] at hd
      exact ⟨b :: a :: dn, .swap b a dn, by simp [hd]⟩
  | trans _ _ h1 h2 =>
    intro dn hd
    obtain ⟨d1, k1, k2⟩ := h1 hd
    obtain ⟨d2, k3, k4⟩ := h2 k2
    exact ⟨d2, k1.trans k3, k4⟩
structure ParE where
  i : Nat
  d : Nat
  v : Nat → Value
  A : Nat → Assn
def parChk (ops : Array Oper) (Lfin : Array Bool) : Nat → Array Bool → List Nat → Bool
  | 0, L, R => R.isEmpty && (L == Lfin)
  | k + 1, L, R => (Region.ready .any ops L == R) && !R.isEmpty && (List.range R.length).all fun j => parChk ops Lfin k (L.setIfInBounds (R.getD j 0) true) (R.eraseIdx j)
section
variable {ds : List Deferred} {P : Program} {K : World} {n : Nat} {Q : Post} {e0 e : Env} {H F0 : List Assn} {ops : Array Oper} {Lfin : Array Bool}
theorem WA.par_aux (es : List ParE) (hnd : (es.map (·.d)).Nodup) (h0 : ∀ x ∈ es, look e0 x.d = none)
    (hop : ∀ x ∈ es, ∃ o, ops[x.i]? = some o ∧ ∀ e' H' Q', Sub e0 e' → (∀ b, WL ⟨none, ds⟩ P K n ops [] Q' ((x.d, x.v b) :: e') (x.A b :: H')) → WL ⟨none, ds⟩ P K n ops [o] Q' e' H') (fuel : Nat)
    (hF : ∀ w, Sat K w H → Sat K w F0)
    (h : ∀ bs : List Nat, bs.length = es.length → WA ⟨none, ds⟩ P K n F0 ops Q fuel Lfin ((es.zip bs).map (fun p => (p.1.d, p.1.v p.2)) ++ e0) ((es.zip bs).map (fun p => p.1.A p.2) ++ H)) :
    ∀ (k : Nat) (rem : List ParE) (dn : List (ParE × Nat)) (listed : Array Bool) (e' : Env), rem.length = k → (rem ++ dn.map (·.1)).Perm es → parChk ops Lfin k listed (rem.map (·.i)) = true → Sub e0 e' →
      (∀ p ∈ dn, look e' p.1.d = some (p.1.v p.2)) → WA ⟨none, ds⟩ P K n F0 ops Q (k + fuel) listed e' (dn.map (fun p => p.1.A p.2) ++ H) := by
  intro k
  induction k with
  | zero =>
    intro rem dn listed e' hl hp hc hE hd
    obtain rfl : rem = [] := List.eq_nil_of_length_eq_zero hl
    simp only [parChk, Bool.and_eq_true, beq_iff_eq] at hc
    obtain ⟨_, rfl⟩ := hc
    obtain ⟨dn', k1, k2⟩ := perm_map (f := fun p : ParE × Nat => p.1) (show (dn.map (·.1)).Perm es from hp) (dn := dn) rfl
    have hz : es.zip (dn'.map (·.2)) = dn' := by
      rw [← k2]
      clear k1 k2 h0 hop h
      induction dn' with
      | nil => rfl
      | cons a l ih => simp [ih]
    have h1 := h (dn'.map (·.2)) (by rw [← k2]; simp)
    rw [hz] at h1
    rw [Nat.zero_add]
    intro a w ha hw
    refine h1 a w (ha.sub ?_) ?_
    · intro t v hv
      have hin : ∀ (l : List (ParE × Nat)), (∀ p ∈ l, p ∈ dn) → look (l.map (fun p => (p.1.d, p.1.v p.2)) ++ e0) t = some v → look e' t = some v := by
        intro l
        clear hv
        induction l with
        | nil => intro _ h; exact hE t v h
        | cons p l ih =>
          intro hm hv
          simp only [List.map_cons, List.cons_append, look] at hv
          cases hk : Nat.beq p.1.d t with
          | true =>
            simp only [hk, cond_true] at hv
            obtain rfl := Nat.eq_of_beq_eq_true hk
            rw [hd p (hm p (.head _)), hv]
          | false =>
            simp only [hk, cond_false] at hv
            exact ih (fun q hq => hm q (.tail _ hq)) hv
      exact hin dn' (fun p hp' => k1.mem_iff.2 hp') hv
    · exact ⟨hw.1, SatL.perm_app (k1.map _) hw.2⟩
  | succ k ih =>
    intro rem dn listed e' hl hp hc hE hd
    simp only [parChk, Bool.and_eq_true, beq_iff_eq, List.all_eq_true, List.mem_range] at hc
    obtain ⟨⟨hr, hne⟩, hall⟩ := hc
    rw [show k + 1 + fuel = (k + fuel) + 1 by omega]
    have hHF : ∀ w, Sat K w (dn.map (fun p => p.1.A p.2) ++ H) → Sat K w F0 := fun w hw => hF w ⟨hw.1, (SatL.append.1 hw.2).2.1⟩
    refine WA.step hHF hr (by cases h : (rem.map (·.i)).isEmpty <;> simp_all) fun i hi => ?_
    obtain ⟨j, hj⟩ := List.getElem?_of_mem hi
    rw [List.getElem?_map] at hj
    cases hx : rem[j]? with
    | none => rw [hx] at hj; cases hj
    | some x =>
      rw [hx] at hj
      simp only [Option.map_some, Option.some.injEq] at hj
      subst hj
      have hjl : j < rem.length := by
        rcases Nat.lt_or_ge j rem.length with h | h
        · exact h
        · rw [List.getElem?_eq_none h] at hx; cases hx
      have hxm : x ∈ es := hp.mem_iff.1 (List.mem_append_left _ (List.mem_of_getElem? hx))
      obtain ⟨o, ho, hop'⟩ := hop x hxm
      refine ⟨o, ho, hop' e' _ _ hE fun b => WL.nil ?_⟩
      have hsplit : (x :: rem.eraseIdx j).Perm rem := by
        have e1 : rem = rem.take j ++ x :: rem.drop (j + 1) := by
          conv => lhs; rw [← List.take_append_drop j rem]
          congr 1
          rw [List.drop_eq_getElem_cons hjl]
          congr 1
          rw [List.getElem?_eq_getElem hjl] at hx
          exact Option.some.inj hx
        rw [List.eraseIdx_eq_take_drop_succ]
        conv => rhs; rw [e1]
        exact List.perm_middle.symm
      have hp2 : (rem.eraseIdx j ++ ((x, b) :: dn).map (·.1)).Perm es := by
        refine List.Perm.trans ?_ hp
        simp only [List.map_cons]
        refine List.Perm.trans List.perm_middle ?_
        exact hsplit.append_right (dn.map (·.1))
      have hnd2 : ((rem.eraseIdx j ++ ((x, b) :: dn).map (·.1)).map (·.d)).Nodup := ((hp2.map _).nodup_iff).2 hnd
      refine ih (rem.eraseIdx j) ((x, b) :: dn) _ _ ?_ hp2 ?_ ?_ ?_
      · rw [List.length_eraseIdx, if_pos hjl]; omega
      · have := hall j (by rw [List.length_map]; exact hjl)
        have e1 : (rem.map (·.i)).getD j 0 = x.i := by rw [List.getD, List.getElem?_map, hx]; rfl
        have e2 : (rem.map (·.i)).eraseIdx j = (rem.eraseIdx j).map (·.i) := by
          apply List.ext_getElem?
          intro q
          simp only [List.getElem?_eraseIdx, List.getElem?_map]
          split <;> rfl
        rw [e1, e2] at this
        exact this
      · intro t v hv
        have hne' : x.d ≠ t := fun e => by rw [← e, h0 x hxm] at hv; cases hv
        simp only [look]
        have : Nat.beq x.d t = false := by
          cases hb : Nat.beq x.d t
          · rfl
          · exact absurd (Nat.eq_of_beq_eq_true hb) hne'
        rw [this]
        exact hE t v hv
      · intro p hp'
        rcases List.mem_cons.1 hp' with rfl | hp'
        · simp [look]
        · have hne' : x.d ≠ p.1.d := by
            rw [List.map_append, List.map_cons, List.map_cons] at hnd2
            have h3 := (List.nodup_append.1 hnd2).2.1
            intro e
            exact (List.nodup_cons.1 h3).1 (e ▸ List.mem_map.2 ⟨p.1, List.mem_map.2 ⟨p, hp', rfl⟩, rfl⟩)
          simp only [look]
          have : Nat.beq x.d p.1.d = false := by
            cases hb : Nat.beq x.d p.1.d
            · rfl
            · exact absurd (Nat.eq_of_beq_eq_true hb) hne'
          rw [this]
          exact hd p hp'
theorem WA.par (es : List ParE) (listed : Array Bool) {fuel m : Nat} (hm : es.length + fuel = m) (hnd : decide (es.map (·.d)).Nodup = true) (h0 : es.all (fun x => (look e0 x.d).isNone) = true) (hE : Sub e0 e) (hc : parChk ops Lfin es.length listed (es.map (·.i)) = true)
    (hop : ∀ x ∈ es, ∃ o, ops[x.i]? = some o ∧ ∀ e' H' Q', Sub e0 e' → (∀ b, WL ⟨none, ds⟩ P K n ops [] Q' ((x.d, x.v b) :: e') (x.A b :: H')) → WL ⟨none, ds⟩ P K n ops [o] Q' e' H')
    (hF : ∀ w, Sat K w H → Sat K w F0)
    (h : ∀ bs : List Nat, bs.length = es.length → WA ⟨none, ds⟩ P K n F0 ops Q fuel Lfin ((es.zip bs).map (fun p => (p.1.d, p.1.v p.2)) ++ e0) ((es.zip bs).map (fun p => p.1.A p.2) ++ H)) :
    WA ⟨none, ds⟩ P K n F0 ops Q m listed e H := by
  subst hm
  exact WA.par_aux es (of_decide_eq_true hnd) (fun x hx => by simpa using List.all_eq_true.1 h0 x hx) hop fuel hF h es.length es [] listed e rfl (by simp) hc hE (fun p hp => by cases hp)
theorem run_eqNil {w : World} {t E : TypeId} {A : Option Addr} {m cap : Nat} (hT : P.underlying t = some (.slice E)) : (Op.equalIn (9999 + 1) t (.slice A m cap) (.slice none 0 0)).run P w = .ok A.isNone w := by
  rw [Op.equalIn]
  cases A <;> simp [run_underlying hT]
theorem V.eqlNil {Mo : Mode} {c : Bool} {dst : Option Tmp} {ty : TypeId} {pos : String} {af : Array Edge} {gd : Option (Nat × Bool)} {x : Operand} {t t' E : TypeId} {A : Option Addr} {m cap : Nat} (hT : P.underlying t = some (.slice E)) (hx : OV c e x (.slice A m cap)) :
    Val Mo P K n c e H ⟨dst, .binOp .eql t x (.const (.slice none 0 0)) t', ty, pos, af, gd⟩ (.bool A.isNone) := fun hc a w ha _ => by
  have h1 : binOp .eql t (.slice A m cap) (.slice none 0 0) = ((Op.equalIn (9999 + 1) t (.slice A m cap) (.slice none 0 0) >>= fun r => pure (Value.bool r)) : Sem Value) := rfl
  refine run_bin (y := .const (.slice none 0 0)) (v := .slice none 0 0) (hx.ev hc ha) rfl (by simp [eqGuard]) ?_
  rw [h1, Sem.run_bind, run_eqNil hT]; rfl
end
end Go.Sl
namespace Go.Proofs.YtohkefolnmcjnaaGreat
open Go.Sl
set_option linter.unusedVariables false
set_option maxRecDepth 20000
theorem fo126_0 : FieldOff Tryz.prog 126 0 0 := fun _ _ => by kernel_rfl
theorem fo126_1 : FieldOff Tryz.prog 126 1 1 := fun _ _ => by kernel_rfl
theorem fo126_2 : FieldOff Tryz.prog 126 2 6 := fun _ _ => by kernel_rfl
theorem fo126_3 : FieldOff Tryz.prog 126 3 7 := fun _ _ => by kernel_rfl
theorem fo126_4 : FieldOff Tryz.prog 126 4 8 := fun _ _ => by kernel_rfl
theorem fo126_5 : FieldOff Tryz.prog 126 5 9 := fun _ _ => by kernel_rfl
theorem fo126_6 : FieldOff Tryz.prog 126 6 10 := fun _ _ => by kernel_rfl
theorem fo129_0 : FieldOff Tryz.prog 129 0 0 := fun _ _ => by kernel_rfl
theorem fo129_1 : FieldOff Tryz.prog 129 1 1 := fun _ _ => by kernel_rfl
theorem fo129_2 : FieldOff Tryz.prog 129 2 2 := fun _ _ => by kernel_rfl
theorem fo151_0 : FieldOff Tryz.prog 151 0 0 := fun _ _ => by kernel_rfl
theorem fo151_1 : FieldOff Tryz.prog 151 1 1 := fun _ _ => by kernel_rfl
theorem fo151_2 : FieldOff Tryz.prog 151 2 2 := fun _ _ => by kernel_rfl
theorem fo167_0 : FieldOff Tryz.prog 167 0 0 := fun _ _ => by kernel_rfl
theorem fo167_1 : FieldOff Tryz.prog 167 1 1 := fun _ _ => by kernel_rfl
theorem fo167_2 : FieldOff Tryz.prog 167 2 4 := fun _ _ => by kernel_rfl
theorem fo204_0 : FieldOff Tryz.prog 204 0 0 := fun _ _ => by kernel_rfl
theorem fo204_1 : FieldOff Tryz.prog 204 1 1 := fun _ _ => by kernel_rfl
theorem fo204_2 : FieldOff Tryz.prog 204 2 2 := fun _ _ => by kernel_rfl
theorem fo23_0 : FieldOff Tryz.prog 23 0 0 := fun _ _ => by kernel_rfl
theorem fo23_1 : FieldOff Tryz.prog 23 1 1 := fun _ _ => by kernel_rfl
theorem fo23_2 : FieldOff Tryz.prog 23 2 2 := fun _ _ => by kernel_rfl
theorem fo23_3 : FieldOff Tryz.prog 23 3 3 := fun _ _ => by kernel_rfl
theorem fo23_4 : FieldOff Tryz.prog 23 4 4 := fun _ _ => by kernel_rfl
theorem fo73_0 : FieldOff Tryz.prog 73 0 0 := fun _ _ => by kernel_rfl
theorem fo73_1 : FieldOff Tryz.prog 73 1 1 := fun _ _ => by kernel_rfl
theorem fo76_0 : FieldOff Tryz.prog 76 0 0 := fun _ _ => by kernel_rfl
theorem fo76_1 : FieldOff Tryz.prog 76 1 1 := fun _ _ => by kernel_rfl
theorem fo76_2 : FieldOff Tryz.prog 76 2 2 := fun _ _ => by kernel_rfl
theorem fo76_3 : FieldOff Tryz.prog 76 3 3 := fun _ _ => by kernel_rfl
theorem fo76_4 : FieldOff Tryz.prog 76 4 4 := fun _ _ => by kernel_rfl
theorem fo76_5 : FieldOff Tryz.prog 76 5 5 := fun _ _ => by kernel_rfl
theorem fo92_0 : FieldOff Tryz.prog 92 0 0 := fun _ _ => by kernel_rfl
theorem fo92_1 : FieldOff Tryz.prog 92 1 5 := fun _ _ => by kernel_rfl
theorem fo92_10 : FieldOff Tryz.prog 92 10 14 := fun _ _ => by kernel_rfl
theorem fo92_2 : FieldOff Tryz.prog 92 2 6 := fun _ _ => by kernel_rfl
theorem fo92_3 : FieldOff Tryz.prog 92 3 7 := fun _ _ => by kernel_rfl
theorem fo92_4 : FieldOff Tryz.prog 92 4 8 := fun _ _ => by kernel_rfl
theorem fo92_5 : FieldOff Tryz.prog 92 5 9 := fun _ _ => by kernel_rfl
theorem fo92_6 : FieldOff Tryz.prog 92 6 10 := fun _ _ => by kernel_rfl
theorem fo92_8 : FieldOff Tryz.prog 92 8 12 := fun _ _ => by kernel_rfl
theorem fo92_9 : FieldOff Tryz.prog 92 9 13 := fun _ _ => by kernel_rfl
theorem fo94_0 : FieldOff Tryz.prog 94 0 0 := fun _ _ => by kernel_rfl
theorem fo94_1 : FieldOff Tryz.prog 94 1 1 := fun _ _ => by kernel_rfl
theorem st121 : SliceTy Tryz.prog 121 151 3 := ⟨Tryz.runUnderlying121, Tryz.sizeOf151⟩
theorem st124 : SliceTy Tryz.prog 124 42 1 := ⟨Tryz.runUnderlying124, Tryz.sizeOf42⟩
theorem st133 : SliceTy Tryz.prog 133 167 5 := ⟨Tryz.runUnderlying133, Tryz.sizeOf167⟩
theorem st168 : SliceTy Tryz.prog 168 133 1 := ⟨Tryz.runUnderlying168, Tryz.sizeOf133⟩
theorem st38 : SliceTy Tryz.prog 38 5 1 := ⟨Tryz.runUnderlying38, Tryz.sizeOf5⟩
theorem st42 : SliceTy Tryz.prog 42 3 1 := ⟨Tryz.runUnderlying42, Tryz.sizeOf3⟩
theorem st66 : SliceTy Tryz.prog 66 9 1 := ⟨Tryz.runUnderlying66, Tryz.sizeOf9⟩
theorem st69 : SliceTy Tryz.prog 69 76 6 := ⟨Tryz.runUnderlying69, Tryz.sizeOf76⟩
theorem st71 : SliceTy Tryz.prog 71 4 1 := ⟨Tryz.runUnderlying71, Tryz.sizeOf4⟩
theorem el3 : ElemTy Tryz.prog 3 1 8 (.int .i64 0) := ElemTy.mk (i := Tryz.t3) (by kernel_rfl) rfl rfl rfl rfl rfl
theorem el4 : ElemTy Tryz.prog 4 1 1 (.bool false) := ElemTy.mk (i := Tryz.t4) (by kernel_rfl) rfl rfl rfl rfl rfl
theorem el5 : ElemTy Tryz.prog 5 1 1 (.int .u8 0) := ElemTy.mk (i := Tryz.t5) (by kernel_rfl) rfl rfl rfl rfl rfl
theorem el9 : ElemTy Tryz.prog 9 1 16 (.string .empty) := ElemTy.mk (i := Tryz.t9) (by kernel_rfl) rfl rfl rfl rfl rfl
theorem el42 : ElemTy Tryz.prog 42 1 24 (.slice none 0 0) := ElemTy.mk (i := Tryz.t42) (by kernel_rfl) rfl rfl rfl rfl rfl
theorem el133 : ElemTy Tryz.prog 133 1 24 (.slice none 0 0) := ElemTy.mk (i := Tryz.t133) (by kernel_rfl) rfl rfl rfl rfl rfl
theorem el151 : ElemTy Tryz.prog 151 3 40 (.agg #[(.slice none 0 0), (.int .i64 0), (.int .i64 0)]) := ElemTy.mk (i := Tryz.t151) (by kernel_rfl) rfl rfl rfl rfl rfl
theorem el167 : ElemTy Tryz.prog 167 5 40 (.agg #[(.int .i64 0), (.int .i64 0), (.int .i64 0), (.int .i64 0), (.bool false)]) := ElemTy.mk (i := Tryz.t167) (by kernel_rfl) rfl rfl rfl rfl rfl
theorem bld23_0_1_2_3_4 (x0 : Int) (x1 : Int) (x2 : Int) (x3 : Int) (x4 : Int) (w : World) : (Instr.build 23 [(0, .int .i64 x0), (1, .int .i64 x1), (2, .int .i64 x2), (3, .int .i64 x3), (4, .int .i64 x4)].toArray).run Tryz.prog w = .ok (.agg #[.int .i64 x0, .int .i64 x1, .int .i64 x2, .int .i64 x3, .int .i64 x4]) w := by kernel_rfl
theorem bld73_0_1 (x0a : Option Addr) (x0m x0c : Nat) (x1a : Option Addr) (x1m x1c : Nat) (w : World) : (Instr.build 73 [(0, .slice x0a x0m x0c), (1, .slice x1a x1m x1c)].toArray).run Tryz.prog w = .ok (.agg #[.slice x0a x0m x0c, .slice x1a x1m x1c]) w := by kernel_rfl
theorem bld92_0_1_2_3_4_5_6_8 (x00 x01 x02 x03 x04 : Value) (x1 : Int) (x2 : Option Nat) (x3 : Option Nat) (x4a : Option Addr) (x4m x4c : Nat) (x5 : Option Nat) (x6 : Option Nat) (x8 : Bool) (w : World) : (Instr.build 92 [(0, .agg #[x00, x01, x02, x03, x04]), (1, .int .i64 x1), (2, .map x2), (3, .map x3), (4, .slice x4a x4m x4c), (5, .map x5), (6, .map x6), (8, .bool x8)].toArray).run Tryz.prog w = .ok (.agg #[x00, x01, x02, x03, x04, .int .i64 x1, .map x2, .map x3, .slice x4a x4m x4c, .map x5, .map x6, (.int .i64 0), .bool x8, (.int .i64 0), (.int .i64 0)]) w := by kernel_rfl
theorem bld94_0_1 (x0 : Option Addr) (x10 x11 x12 x13 x14 : Value) (w : World) : (Instr.build 94 [(0, .pointer x0), (1, .agg #[x10, x11, x12, x13, x14])].toArray).run Tryz.prog w = .ok (.agg #[.pointer x0, x10, x11, x12, x13, x14]) w := by kernel_rfl
theorem bld120_0_1 (x0 : Int) (x1 : Int) (w : World) : (Instr.build 120 [(0, .int .i64 x0), (1, .int .i64 x1)].toArray).run Tryz.prog w = .ok (.agg #[.int .i64 x0, .int .i64 x1]) w := by kernel_rfl
theorem bld126_0_1 (x0 : Option Addr) (x10 x11 x12 x13 x14 : Value) (w : World) : (Instr.build 126 [(0, .pointer x0), (1, .agg #[x10, x11, x12, x13, x14])].toArray).run Tryz.prog w = .ok (.agg #[.pointer x0, x10, x11, x12, x13, x14, (.slice none 0 0), (.slice none 0 0), (.int .i64 0), (.int .i64 0), (.bool false)]) w := by kernel_rfl
theorem bld129 (w : World) : (Instr.build 129 [].toArray).run Tryz.prog w = .ok (.agg #[(.int .i64 0), (.int .i64 0), (.int .i64 0)]) w := by kernel_rfl
theorem bld129_0_1_2 (x0 : Int) (x1 : Int) (x2 : Int) (w : World) : (Instr.build 129 [(0, .int .i64 x0), (1, .int .i64 x1), (2, .int .i64 x2)].toArray).run Tryz.prog w = .ok (.agg #[.int .i64 x0, .int .i64 x1, .int .i64 x2]) w := by kernel_rfl
theorem bld167_0_1_2 (x0 : Int) (x10 x11 x12 : Value) (x2 : Bool) (w : World) : (Instr.build 167 [(0, .int .i64 x0), (1, .agg #[x10, x11, x12]), (2, .bool x2)].toArray).run Tryz.prog w = .ok (.agg #[.int .i64 x0, x10, x11, x12, .bool x2]) w := by kernel_rfl
theorem bld204_0_1_2 (x0 : Int) (x1a : Option Addr) (x1m x1c : Nat) (x2a : Option Addr) (x2m x2c : Nat) (w : World) : (Instr.build 204 [(0, .int .i64 x0), (1, .slice x1a x1m x1c), (2, .slice x2a x2m x2c)].toArray).run Tryz.prog w = .ok (.agg #[.int .i64 x0, .slice x1a x1m x1c, .slice x2a x2m x2c]) w := by kernel_rfl
theorem bsl38_0 (w : World) : (Instr.buildSlice 38 0 [].toArray).run Tryz.prog w = .ok (.slice (some ⟨w.heap.size, 0, none⟩) 0 0) (w.alloc (.cells [].toArray 5)) := by kernel_rfl
theorem bsl38_1_0 (x0 : Int) (w : World) : (Instr.buildSlice 38 1 [(0, .int .u8 x0)].toArray).run Tryz.prog w = .ok (.slice (some ⟨w.heap.size, 0, none⟩) 1 1) (w.alloc (.cells [.int .u8 x0].toArray 5)) := by kernel_rfl
theorem bsl38_3_0_1_2 (x0 : Int) (x1 : Int) (x2 : Int) (w : World) : (Instr.buildSlice 38 3 [(0, .int .u8 x0), (1, .int .u8 x1), (2, .int .u8 x2)].toArray).run Tryz.prog w = .ok (.slice (some ⟨w.heap.size, 0, none⟩) 3 3) (w.alloc (.cells [.int .u8 x0, .int .u8 x1, .int .u8 x2].toArray 5)) := by kernel_rfl
theorem bsl38_4_0_1_2_3 (x0 : Int) (x1 : Int) (x2 : Int) (x3 : Int) (w : World) : (Instr.buildSlice 38 4 [(0, .int .u8 x0), (1, .int .u8 x1), (2, .int .u8 x2), (3, .int .u8 x3)].toArray).run Tryz.prog w = .ok (.slice (some ⟨w.heap.size, 0, none⟩) 4 4) (w.alloc (.cells [.int .u8 x0, .int .u8 x1, .int .u8 x2, .int .u8 x3].toArray 5)) := by kernel_rfl
theorem bsl42_0 (w : World) : (Instr.buildSlice 42 0 [].toArray).run Tryz.prog w = .ok (.slice (some ⟨w.heap.size, 0, none⟩) 0 0) (w.alloc (.cells [].toArray 3)) := by kernel_rfl
theorem bsl42_1_0 (x0 : Int) (w : World) : (Instr.buildSlice 42 1 [(0, .int .i64 x0)].toArray).run Tryz.prog w = .ok (.slice (some ⟨w.heap.size, 0, none⟩) 1 1) (w.alloc (.cells [.int .i64 x0].toArray 3)) := by kernel_rfl
theorem bsl42_2_0_1 (x0 : Int) (x1 : Int) (w : World) : (Instr.buildSlice 42 2 [(0, .int .i64 x0), (1, .int .i64 x1)].toArray).run Tryz.prog w = .ok (.slice (some ⟨w.heap.size, 0, none⟩) 2 2) (w.alloc (.cells [.int .i64 x0, .int .i64 x1].toArray 3)) := by kernel_rfl
theorem bsl42_3_0_1_2 (x0 : Int) (x1 : Int) (x2 : Int) (w : World) : (Instr.buildSlice 42 3 [(0, .int .i64 x0), (1, .int .i64 x1), (2, .int .i64 x2)].toArray).run Tryz.prog w = .ok (.slice (some ⟨w.heap.size, 0, none⟩) 3 3) (w.alloc (.cells [.int .i64 x0, .int .i64 x1, .int .i64 x2].toArray 3)) := by kernel_rfl
theorem bsl121_1_0 (x00 x01 x02 : Value) (w : World) : (Instr.buildSlice 121 1 [(0, .agg #[x00, x01, x02])].toArray).run Tryz.prog w = .ok (.slice (some ⟨w.heap.size, 0, none⟩) 1 1) (w.alloc (.cells [x00, x01, x02].toArray 151)) := by kernel_rfl
theorem bsl124_2_0_1 (x0a : Option Addr) (x0m x0c : Nat) (x1a : Option Addr) (x1m x1c : Nat) (w : World) : (Instr.buildSlice 124 2 [(0, .slice x0a x0m x0c), (1, .slice x1a x1m x1c)].toArray).run Tryz.prog w = .ok (.slice (some ⟨w.heap.size, 0, none⟩) 2 2) (w.alloc (.cells [.slice x0a x0m x0c, .slice x1a x1m x1c].toArray 42)) := by kernel_rfl
theorem bsl133_1_0 (x00 x01 x02 x03 x04 : Value) (w : World) : (Instr.buildSlice 133 1 [(0, .agg #[x00, x01, x02, x03, x04])].toArray).run Tryz.prog w = .ok (.slice (some ⟨w.heap.size, 0, none⟩) 1 1) (w.alloc (.cells [x00, x01, x02, x03, x04].toArray 167)) := by kernel_rfl
theorem fld23_0 (c0 c1 c2 c3 c4 : Value) (w : World) : (Instr.field 23 (.agg #[c0, c1, c2, c3, c4]) 0).run Tryz.prog w = .ok (c0) w := by kernel_rfl
theorem fld23_1 (c0 c1 c2 c3 c4 : Value) (w : World) : (Instr.field 23 (.agg #[c0, c1, c2, c3, c4]) 1).run Tryz.prog w = .ok (c1) w := by kernel_rfl
theorem eqt120 (x0 : Int) (x1 : Int) (y0 : Int) (y1 : Int) : EqIs Tryz.prog 10000 120 (.agg #[.int .i64 x0, .int .i64 x1]) (.agg #[.int .i64 y0, .int .i64 y1]) (((decide (x0 = y0)) && ((decide (x1 = y1)) && true))) :=
  (EqIs.struct Tryz.underlying120 (by kernel_rfl) (EqF.cons (by decide) (part1 Tryz.isAgg3 rfl) (part1 Tryz.isAgg3 rfl) (EqIs.int Tryz.underlying3) (EqF.cons (by decide) (part1 Tryz.isAgg3 rfl) (part1 Tryz.isAgg3 rfl) (EqIs.int Tryz.underlying3) EqF.nil)))
abbrev key3 (i : Int) : Value := .int .i64 i
theorem kl3 : KeyL Tryz.prog 3 key3 := KeyL.int Tryz.underlying3
abbrev key120 (p : Int × Int) : Value := .agg #[.int .i64 p.1, .int .i64 p.2]
theorem kl120 : KeyL Tryz.prog 120 key120 where
  check b p w := by kernel_rfl
  eq p q w := by
    have h := eqt120 p.1 p.2 q.1 q.2 w
    refine h.trans ?_
    congr 1
    rw [Bool.eq_iff_iff]
    simp [Prod.ext_iff]
  und := ⟨_, Tryz.underlying120, fun p q => .inl rfl⟩
  bits p := by simp [Instr.sameBits]
end Go.Proofs.YtohkefolnmcjnaaGreat
namespace Go.Proofs.YtohkefolnmcjnaaGreat
open Go.Sl Go.RowKit
set_option linter.unusedVariables false
set_option linter.unusedSimpArgs false
set_option maxRecDepth 20000
structure Geo where
  (bl pg se sb fl : Int)
  deriving DecidableEq
namespace Geo
abbrev v (g : Geo) : Value := .agg #[.int .i64 g.bl, .int .i64 g.pg, .int .i64 g.se, .int .i64 g.sb, .int .i64 g.fl]
def zero : Geo := ⟨0, 0, 0, 0, 0⟩
def mays (g : Geo) : Prop := 1 ≤ g.bl ∧ g.bl ≤ 256 ∧ 2 ≤ g.pg ∧ g.pg ≤ 64 ∧ 1 ≤ g.se ∧ g.se ≤ 8 ∧ 4 ≤ g.sb ∧ g.sb ≤ 512 ∧ g.sb % 4 = 0 ∧ 1 ≤ g.fl ∧ g.fl ≤ 8 ∧ 16 ≤ g.se * g.sb
instance (g : Geo) : Decidable g.mays := by unfold mays; infer_instance
def may (g : Geo) : Bool := decide g.mays
def more (g : Geo) : Int := (13 * g.fl + 7) / 8
def whole (g : Geo) : Int := g.sb + g.more
def raw (g : Geo) : Int := g.se * g.whole + 1
def room (g : Geo) : Int := g.se * g.sb
theorem mul_bd {a b : Int} {A B : Int} (h1 : 0 ≤ a) (h2 : a ≤ A) (h3 : 0 ≤ b) (h4 : b ≤ B) : 0 ≤ a * b ∧ a * b ≤ A * B := ⟨Int.mul_nonneg h1 h3, Int.mul_le_mul h2 h4 h3 (by omega)⟩
theorem mays_of {g : Geo} (h : g.may = true) : g.mays := by simpa [may] using h
theorem more_bd {g : Geo} (h : g.mays) : 2 ≤ g.more ∧ g.more ≤ 13 := by unfold mays at h; unfold more; omega
theorem whole_bd {g : Geo} (h : g.mays) : 6 ≤ g.whole ∧ g.whole ≤ 525 := by have := more_bd h; unfold mays at h; unfold whole; omega
theorem raw_bd {g : Geo} (h : g.mays) : 7 ≤ g.raw ∧ g.raw ≤ 4201 := by
  have h1 := whole_bd h
  have h2 : 1 ≤ g.se ∧ g.se ≤ 8 := by unfold mays at h; omega
  have h3 := mul_bd (A := 8) (B := 525) (by omega : 0 ≤ g.se) h2.2 (by omega : 0 ≤ g.whole) h1.2
  have h4 : 1 * g.whole ≤ g.se * g.whole := Int.mul_le_mul_of_nonneg_right h2.1 (by omega)
  unfold raw
  omega
end Geo
theorem ecc_within (n low high : Int) (K : World) (F : List Assn) : Tells Tryz.prog 139 #[.int .i64 n, .int .i64 low, .int .i64 high] K F (.bool (decide (low ≤ n) && decide (n ≤ high))) := by
  refine Does.enter Tryz.func139 rfl Tryz.ntmps139 rfl ?_
  simp only [env0, Nat.reduceAdd]
  refine WC.sr ?_
  refine WL.sg rfl rfl ?_
  refine WL.nil ?_
  refine WC.sr ?_
  refine WL.mv rfl rfl ?_
  refine WL.mv rfl rfl ?_
  refine WL.val (V.geq (OV.p rfl) (OV.p rfl)) rfl ?_
  refine WL.mv rfl rfl ?_
  refine WL.valG (oj := _) rfl rfl rfl GC.t (V.move (OV.p rfl)) rfl ?_
  refine WL.valG (oj := _) rfl rfl rfl GC.t (V.move (OV.p rfl)) rfl ?_
  refine WL.valG (oj := _) rfl rfl rfl GC.t (V.leq (OV.g rfl id) (OV.g rfl id)) rfl ?_
  refine WL.val (V.pickAnd (OV.p rfl) (OV.g rfl id)) rfl ?_
  refine WL.sg rfl rfl ?_
  refine WL.nil ?_
  refine WC.ret ?_
  exact BodyQ.ret (H' := F) (Res.tmp rfl rfl) (fun w h => by repeat (first | exact h | replace h := h.tail)) ⟨rfl, rfl⟩
theorem ecc_Check (g : Geo) (K : World) (F : List Assn) : Tells Tryz.prog 102 #[g.v] K F (.int .i64 (if g.may then 0 else 1)) := by
  refine Does.enter Tryz.func102 rfl Tryz.ntmps102 rfl ?_
  simp only [env0, Nat.reduceAdd]
  refine WC.sr ?_
  refine WL.box (cs := [_, _, _, _, _]) (OV.p rfl) rfl rfl (fun b1 => ?_)
  refine WL.sg rfl rfl ?_
  refine WL.nil ?_
  refine WC.sr ?_
  refine WL.val (V.fieldAddr fo23_0 (OV.p rfl)) rfl ?_
  refine WL.ld Tryz.isAgg3 rfl rfl ?_
  refine WL.call (vs := [_, _, _]) Tryz.call139 ⟨OV.p rfl, OV.p rfl, OV.p rfl, trivial⟩ (ecc_within _ _ _ _ _) rfl ?_
  rintro _ H0 ⟨rfl, h0⟩
  subst H0
  refine WL.mv rfl rfl ?_
  refine WL.valG (oj := _) rfl rfl rfl GC.t (V.fieldAddr fo23_1 (OV.p rfl)) rfl ?_
  refine WL.valG (oj := _) rfl rfl rfl GC.t (V.load Tryz.isAgg3 (OV.g rfl id) (fun _ => by repeat (first | exact Rd.here rfl | apply Rd.up))) rfl ?_
  refine WL.callG (oj := _) (vs := [_, _, _]) rfl rfl rfl GC.t Tryz.call139 ⟨OV.g rfl id, OV.p rfl, OV.p rfl, trivial⟩ (fun hg => ecc_within _ _ _ _ _) rfl ?_
  refine WL.val (V.pickAnd (OV.p rfl) (OV.g rfl id)) rfl ?_
  refine WL.mv rfl rfl ?_
  refine WL.valG (oj := _) rfl rfl rfl GC.t (V.fieldAddr fo23_2 (OV.p rfl)) rfl ?_
  refine WL.valG (oj := _) rfl rfl rfl GC.t (V.load Tryz.isAgg3 (OV.g rfl id) (fun _ => by repeat (first | exact Rd.here rfl | apply Rd.up))) rfl ?_
  refine WL.callG (oj := _) (vs := [_, _, _]) rfl rfl rfl GC.t Tryz.call139 ⟨OV.g rfl id, OV.p rfl, OV.p rfl, trivial⟩ (fun hg => ecc_within _ _ _ _ _) rfl ?_
  refine WL.val (V.pickAnd (OV.p rfl) (OV.g rfl id)) rfl ?_
  refine WL.mv rfl rfl ?_
  refine WL.valG (oj := _) rfl rfl rfl GC.t (V.fieldAddr fo23_3 (OV.p rfl)) rfl ?_
  refine WL.valG (oj := _) rfl rfl rfl GC.t (V.load Tryz.isAgg3 (OV.g rfl id) (fun _ => by repeat (first | exact Rd.here rfl | apply Rd.up))) rfl ?_
  refine WL.callG (oj := _) (vs := [_, _, _]) rfl rfl rfl GC.t Tryz.call139 ⟨OV.g rfl id, OV.p rfl, OV.p rfl, trivial⟩ (fun hg => ecc_within _ _ _ _ _) rfl ?_
  refine WL.val (V.pickAnd (OV.p rfl) (OV.g rfl id)) rfl ?_
  refine WL.mv rfl rfl ?_
  refine WL.valG (oj := _) rfl rfl rfl GC.t (V.fieldAddr fo23_3 (OV.p rfl)) rfl ?_
  refine WL.valG (oj := _) rfl rfl rfl GC.t (V.load Tryz.isAgg3 (OV.g rfl id) (fun _ => by repeat (first | exact Rd.here rfl | apply Rd.up))) rfl ?_
  refine WL.valG (oj := _) rfl rfl rfl GC.t (V.remI (OV.g rfl id) (OV.p rfl) (fun hc => by first | omega | (simp at hc; omega))) rfl ?_
  refine WL.valG (oj := _) rfl rfl rfl GC.t (V.eql (OV.g rfl id) (OV.p rfl)) rfl ?_
  refine WL.val (V.pickAnd (OV.p rfl) (OV.g rfl id)) rfl ?_
  refine WL.mv rfl rfl ?_
  refine WL.valG (oj := _) rfl rfl rfl GC.t (V.fieldAddr fo23_4 (OV.p rfl)) rfl ?_
  refine WL.valG (oj := _) rfl rfl rfl GC.t (V.load Tryz.isAgg3 (OV.g rfl id) (fun _ => by repeat (first | exact Rd.here rfl | apply Rd.up))) rfl ?_
  refine WL.callG (oj := _) (vs := [_, _, _]) rfl rfl rfl GC.t Tryz.call139 ⟨OV.g rfl id, OV.p rfl, OV.p rfl, trivial⟩ (fun hg => ecc_within _ _ _ _ _) rfl ?_
  refine WL.val (V.pickAnd (OV.p rfl) (OV.g rfl id)) rfl ?_
  refine WL.mv rfl rfl ?_
  refine WL.valG (oj := _) rfl rfl rfl GC.t (V.fieldAddr fo23_2 (OV.p rfl)) rfl ?_
  refine WL.valG (oj := _) rfl rfl rfl GC.t (V.load Tryz.isAgg3 (OV.g rfl id) (fun _ => by repeat (first | exact Rd.here rfl | apply Rd.up))) rfl ?_
  refine WL.valG (oj := _) rfl rfl rfl GC.t (V.fieldAddr fo23_3 (OV.p rfl)) rfl ?_
  refine WL.valG (oj := _) rfl rfl rfl GC.t (V.load Tryz.isAgg3 (OV.g rfl id) (fun _ => by repeat (first | exact Rd.here rfl | apply Rd.up))) rfl ?_
  refine WL.valG (oj := _) rfl rfl rfl GC.t (V.mulI (OV.g rfl id) (OV.g rfl id) (fun hc => by simp at hc; have := Geo.mul_bd (a := g.se) (b := g.sb) (A := 8) (B := 512) (by omega) (by omega) (by omega) (by omega); omega)) rfl ?_
  refine WL.valG (oj := _) rfl rfl rfl GC.t (V.geq (OV.g rfl id) (OV.p rfl)) rfl ?_
  refine WL.val (V.pickAnd (OV.p rfl) (OV.g rfl id)) rfl ?_
  refine WL.sg rfl rfl ?_
  refine WL.nil ?_
  refine WC.seq ?_
  refine WC.sr ?_
  refine WL.mv rfl rfl ?_
  refine WL.val (V.not (OV.p rfl)) rfl ?_
  refine WL.nil ?_
  refine WC.cond rfl (fun hc0 => ?_) (fun hc0 => ?_)
  ·simp only [decide_eq_true_eq, decide_eq_false_iff_not, Bool.and_eq_true, Bool.or_eq_true, Bool.and_eq_false_iff, Bool.or_eq_false_iff, Bool.not_eq_true', Bool.not_eq_false', Bool.not_eq_true, Bool.not_eq_false, Int.not_lt, Int.not_le] at hc0
   refine WC.sr ?_
   refine WL.sg rfl rfl ?_
   refine WL.nil ?_
   refine WC.ret ?_
   refine BodyQ.ret (H' := F) (Res.tmp rfl rfl) (fun w h => by repeat (first | exact h | replace h := h.tail)) ⟨?_, rfl⟩
   rw [if_neg (fun h => by have h := Geo.mays_of h; unfold Geo.mays at h; omega)]
  ·simp only [decide_eq_true_eq, decide_eq_false_iff_not, Bool.and_eq_true, Bool.or_eq_true, Bool.and_eq_false_iff, Bool.or_eq_false_iff, Bool.not_eq_true', Bool.not_eq_false', Bool.not_eq_true, Bool.not_eq_false, Int.not_lt, Int.not_le] at hc0
   refine WC.skip ?_
   refine WC.sr ?_
   refine WL.sg rfl rfl ?_
   refine WL.nil ?_
   refine WC.ret ?_
   refine BodyQ.ret (H' := F) (Res.tmp rfl rfl) (fun w h => by repeat (first | exact h | replace h := h.tail)) ⟨?_, rfl⟩
   rw [if_pos (by unfold Geo.may; rw [decide_eq_true_eq]; unfold Geo.mays; omega)]
theorem bch_Bits (t : Int) (ht : 1 ≤ t ∧ t ≤ 8) (K : World) (F : List Assn) : Tells Tryz.prog 140 #[.int .i64 t] K F (.tuple #[.int .i64 (13 * t), .int .i64 0]) := by
  refine Does.enter Tryz.func140 rfl Tryz.ntmps140 rfl ?_
  simp only [env0, Nat.reduceAdd]
  refine WC.sr ?_
  refine WL.sg rfl rfl ?_
  refine WL.sg rfl rfl ?_
  refine WL.nil ?_
  refine WC.seq ?_
  refine WC.sr ?_
  refine WL.mv rfl rfl ?_
  refine WL.val (V.lss (OV.p rfl) (OV.p rfl)) rfl ?_
  refine WL.mv rfl rfl ?_
  refine WL.valG (oj := _) rfl rfl rfl GC.f (V.move (OV.p rfl)) rfl ?_
  refine WL.valG (oj := _) rfl rfl rfl GC.f (V.gtr (OV.g rfl id) (OV.p rfl)) rfl ?_
  refine WL.val (V.pickOr (OV.p rfl) (OV.g rfl id)) rfl ?_
  refine WL.nil ?_
  refine WC.condF' rfl ((by simp; omega)) ?_
  refine WC.skip ?_
  refine WC.sr ?_
  refine WL.mv rfl rfl ?_
  refine WL.val (V.mulI (OV.p rfl) (OV.p rfl) (fun hc => by first | omega | (simp at hc; omega))) rfl ?_
  refine WL.sg rfl rfl ?_
  refine WL.sg rfl rfl ?_
  refine WL.nil ?_
  refine WC.ret ?_
  exact BodyQ.ret (H' := F) (Res.tmp2 rfl rfl rfl) (fun w h => by repeat (first | exact h | replace h := h.tail)) ⟨rfl, rfl⟩
theorem ecc_whole (g : Geo) (h : g.mays) (K : World) (F : List Assn) : Tells Tryz.prog 103 #[g.v] K F (.int .i64 g.whole) := by
  have hb := h
  unfold Geo.mays at hb
  refine Does.enter Tryz.func103 rfl Tryz.ntmps103 rfl ?_
  simp only [env0, Nat.reduceAdd]
  refine WC.sr ?_
  refine WL.box (cs := [_, _, _, _, _]) (OV.p rfl) rfl rfl (fun b1 => ?_)
  refine WL.sg rfl rfl ?_
  refine WL.nil ?_
  refine WC.sr ?_
  refine WL.val (V.fieldAddr fo23_4 (OV.p rfl)) rfl ?_
  refine WL.ld Tryz.isAgg3 rfl rfl ?_
  refine WL.call (vs := [_]) Tryz.call140 ⟨OV.p rfl, trivial⟩ (bch_Bits _ (by omega) _ _) rfl ?_
  rintro _ H0 ⟨rfl, h0⟩
  subst H0
  refine WL.mv rfl rfl ?_
  refine WL.xt rfl rfl rfl ?_
  refine WL.xt rfl rfl rfl ?_
  refine WL.sg rfl rfl ?_
  refine WL.sg rfl rfl ?_
  refine WL.nil ?_
  refine WC.sr ?_
  refine WL.val (V.fieldAddr fo23_3 (OV.p rfl)) rfl ?_
  refine WL.ld Tryz.isAgg3 rfl rfl ?_
  refine WL.mv rfl rfl ?_
  refine WL.ad rfl rfl rfl ?_
  refine WL.val (V.quoI (OV.p rfl) (OV.p rfl) (fun hc => by first | omega | (simp at hc; omega))) rfl ?_
  refine WL.ad rfl rfl rfl ?_
  refine WL.sg rfl rfl ?_
  refine WL.nil ?_
  refine WC.ret ?_
  exact BodyQ.ret (H' := F) (Res.tmp rfl rfl) (fun w h => by repeat (first | exact h | replace h := h.tail)) ⟨rfl, rfl⟩
theorem ecc_Raw (g : Geo) (K : World) (F : List Assn) : Tells Tryz.prog 54 #[g.v] K F (.tuple (if g.may then #[.int .i64 g.raw, .int .i64 0] else #[.int .i64 0, .int .i64 1])) := by
  refine Does.enter Tryz.func54 rfl Tryz.ntmps54 rfl ?_
  simp only [env0, Nat.reduceAdd]
  refine WC.sr ?_
  refine WL.box (cs := [_, _, _, _, _]) (OV.p rfl) rfl rfl (fun b1 => ?_)
  refine WL.sg rfl rfl ?_
  refine WL.sg rfl rfl ?_
  refine WL.nil ?_
  refine WC.seq ?_
  refine WC.sr ?_
  refine WL.val (V.loadA (vs := [_, _, _, _, _]) ⟨Tryz.isAgg23, Tryz.sizeOf23⟩ (OV.p rfl) rfl (fun _ => by repeat (first | exact Rds.gets ⟨rfl, rfl, rfl, rfl, rfl, trivial⟩ | apply Rds.up))) rfl ?_
  refine WL.call (vs := [_]) Tryz.call102 ⟨OV.p rfl, trivial⟩ (ecc_Check g _ _) rfl ?_
  rintro _ H0 ⟨rfl, h0⟩
  subst H0
  refine WL.sg rfl rfl ?_
  refine WL.nil ?_
  refine WC.sr ?_
  refine WL.mv rfl rfl ?_
  refine WL.val (V.neq (OV.p rfl) (OV.p rfl)) rfl ?_
  refine WL.nil ?_
  refine WC.cond rfl (fun hc0 => ?_) (fun hc0 => ?_)
  ·skip
   have hm : g.may = false := by cases h : g.may <;> simp [h] at hc0 ⊢
   refine WC.sr ?_
   refine WL.mv rfl rfl ?_
   refine WL.sg rfl rfl ?_
   refine WL.sg rfl rfl ?_
   refine WL.nil ?_
   refine WC.ret ?_
   rw [hm]
   exact BodyQ.ret (H' := F) (Res.tmp2 rfl rfl rfl) (fun w h => by repeat (first | exact h | replace h := h.tail)) ⟨rfl, rfl⟩
  ·skip
   have hm : g.may = true := by cases h : g.may <;> simp [h] at hc0 ⊢
   have hb := Geo.mays_of hm
   have hr := Geo.raw_bd hb
   unfold Geo.raw at hr
   refine WC.skip ?_
   refine WC.seq ?_
   refine WC.regionQ (by kernel_rfl) (by kernel_rfl) ?_
   refine WQ.val (V.fieldAddr fo23_2 (OV.p rfl)) rfl ?_
   refine WQ.val (V.load Tryz.isAgg3 (OV.p rfl) (fun _ => by repeat (first | exact Rd.here rfl | apply Rd.up))) rfl ?_
   refine WQ.val (V.loadA (vs := [_, _, _, _, _]) ⟨Tryz.isAgg23, Tryz.sizeOf23⟩ (OV.p rfl) rfl (fun _ => by repeat (first | exact Rds.gets ⟨rfl, rfl, rfl, rfl, rfl, trivial⟩ | apply Rds.up))) rfl ?_
   refine WQ.call (vs := [_]) Tryz.call103 ⟨OV.p rfl, trivial⟩ (ecc_whole g hb _ _) rfl ?_
   refine WQ.val (V.mulI (OV.p rfl) (OV.p rfl) (fun hc => by omega)) rfl ?_
   refine WQ.val (V.addI (OV.p rfl) (OV.p rfl) (fun hc => by omega)) rfl ?_
   refine WQ.val (V.assign (OV.p rfl)) rfl ?_
   refine WQ.val (V.assign (OV.p rfl)) rfl ?_
   refine WQ.nil ?_
   refine WC.ret ?_
   refine BodyQ.ret (H' := F) (Res.tmp2 rfl rfl rfl) (fun w h => by repeat (first | exact h | replace h := h.tail)) ⟨?_, rfl⟩
   rw [hm]; rfl
theorem ref06_May (g : Geo) (K : World) (F : List Assn) : Tells Tryz.prog 53 #[g.v] K F (.bool g.may) := by
  refine Does.enter Tryz.func53 rfl Tryz.ntmps53 rfl ?_
  simp only [env0, Nat.reduceAdd]
  refine WC.sr ?_
  refine WL.box (cs := [_, _, _, _, _]) (OV.p rfl) rfl rfl (fun b1 => ?_)
  refine WL.sg rfl rfl ?_
  refine WL.nil ?_
  refine WC.sr ?_
  refine WL.val (V.fieldAddr fo23_0 (OV.p rfl)) rfl ?_
  refine WL.ld Tryz.isAgg3 rfl rfl ?_
  refine WL.val (V.geq (OV.p rfl) (OV.p rfl)) rfl ?_
  refine WL.mv rfl rfl ?_
  refine WL.valG (oj := _) rfl rfl rfl GC.t (V.fieldAddr fo23_0 (OV.p rfl)) rfl ?_
  refine WL.valG (oj := _) rfl rfl rfl GC.t (V.load Tryz.isAgg3 (OV.g rfl id) (fun _ => by repeat (first | exact Rd.here rfl | apply Rd.up))) rfl ?_
  refine WL.valG (oj := _) rfl rfl rfl GC.t (V.leq (OV.g rfl id) (OV.p rfl)) rfl ?_
  refine WL.val (V.pickAnd (OV.p rfl) (OV.g rfl id)) rfl ?_
  refine WL.mv rfl rfl ?_
  refine WL.valG (oj := _) rfl rfl rfl GC.t (V.fieldAddr fo23_1 (OV.p rfl)) rfl ?_
  refine WL.valG (oj := _) rfl rfl rfl GC.t (V.load Tryz.isAgg3 (OV.g rfl id) (fun _ => by repeat (first | exact Rd.here rfl | apply Rd.up))) rfl ?_
  refine WL.valG (oj := _) rfl rfl rfl GC.t (V.geq (OV.g rfl id) (OV.p rfl)) rfl ?_
  refine WL.val (V.pickAnd (OV.p rfl) (OV.g rfl id)) rfl ?_
  refine WL.mv rfl rfl ?_
  refine WL.valG (oj := _) rfl rfl rfl GC.t (V.fieldAddr fo23_1 (OV.p rfl)) rfl ?_
  refine WL.valG (oj := _) rfl rfl rfl GC.t (V.load Tryz.isAgg3 (OV.g rfl id) (fun _ => by repeat (first | exact Rd.here rfl | apply Rd.up))) rfl ?_
  refine WL.valG (oj := _) rfl rfl rfl GC.t (V.leq (OV.g rfl id) (OV.p rfl)) rfl ?_
  refine WL.val (V.pickAnd (OV.p rfl) (OV.g rfl id)) rfl ?_
  refine WL.mv rfl rfl ?_
  refine WL.valG (oj := _) rfl rfl rfl GC.t (V.fieldAddr fo23_2 (OV.p rfl)) rfl ?_
  refine WL.valG (oj := _) rfl rfl rfl GC.t (V.load Tryz.isAgg3 (OV.g rfl id) (fun _ => by repeat (first | exact Rd.here rfl | apply Rd.up))) rfl ?_
  refine WL.valG (oj := _) rfl rfl rfl GC.t (V.geq (OV.g rfl id) (OV.p rfl)) rfl ?_
  refine WL.val (V.pickAnd (OV.p rfl) (OV.g rfl id)) rfl ?_
  refine WL.mv rfl rfl ?_
  refine WL.valG (oj := _) rfl rfl rfl GC.t (V.fieldAddr fo23_2 (OV.p rfl)) rfl ?_
  refine WL.valG (oj := _) rfl rfl rfl GC.t (V.load Tryz.isAgg3 (OV.g rfl id) (fun _ => by repeat (first | exact Rd.here rfl | apply Rd.up))) rfl ?_
  refine WL.valG (oj := _) rfl rfl rfl GC.t (V.leq (OV.g rfl id) (OV.p rfl)) rfl ?_
  refine WL.val (V.pickAnd (OV.p rfl) (OV.g rfl id)) rfl ?_
  refine WL.mv rfl rfl ?_
  refine WL.valG (oj := _) rfl rfl rfl GC.t (V.fieldAddr fo23_3 (OV.p rfl)) rfl ?_
  refine WL.valG (oj := _) rfl rfl rfl GC.t (V.load Tryz.isAgg3 (OV.g rfl id) (fun _ => by repeat (first | exact Rd.here rfl | apply Rd.up))) rfl ?_
  refine WL.valG (oj := _) rfl rfl rfl GC.t (V.geq (OV.g rfl id) (OV.p rfl)) rfl ?_
  refine WL.val (V.pickAnd (OV.p rfl) (OV.g rfl id)) rfl ?_
  refine WL.mv rfl rfl ?_
  refine WL.valG (oj := _) rfl rfl rfl GC.t (V.fieldAddr fo23_3 (OV.p rfl)) rfl ?_
  refine WL.valG (oj := _) rfl rfl rfl GC.t (V.load Tryz.isAgg3 (OV.g rfl id) (fun _ => by repeat (first | exact Rd.here rfl | apply Rd.up))) rfl ?_
  refine WL.valG (oj := _) rfl rfl rfl GC.t (V.leq (OV.g rfl id) (OV.p rfl)) rfl ?_
  refine WL.val (V.pickAnd (OV.p rfl) (OV.g rfl id)) rfl ?_
  refine WL.mv rfl rfl ?_
  refine WL.valG (oj := _) rfl rfl rfl GC.t (V.fieldAddr fo23_3 (OV.p rfl)) rfl ?_
  refine WL.valG (oj := _) rfl rfl rfl GC.t (V.load Tryz.isAgg3 (OV.g rfl id) (fun _ => by repeat (first | exact Rd.here rfl | apply Rd.up))) rfl ?_
  refine WL.valG (oj := _) rfl rfl rfl GC.t (V.remI (OV.g rfl id) (OV.p rfl) (fun hc => by first | omega | (simp at hc; omega))) rfl ?_
  refine WL.valG (oj := _) rfl rfl rfl GC.t (V.eql (OV.g rfl id) (OV.p rfl)) rfl ?_
  refine WL.val (V.pickAnd (OV.p rfl) (OV.g rfl id)) rfl ?_
  refine WL.mv rfl rfl ?_
  refine WL.valG (oj := _) rfl rfl rfl GC.t (V.fieldAddr fo23_4 (OV.p rfl)) rfl ?_
  refine WL.valG (oj := _) rfl rfl rfl GC.t (V.load Tryz.isAgg3 (OV.g rfl id) (fun _ => by repeat (first | exact Rd.here rfl | apply Rd.up))) rfl ?_
  refine WL.valG (oj := _) rfl rfl rfl GC.t (V.geq (OV.g rfl id) (OV.p rfl)) rfl ?_
  refine WL.val (V.pickAnd (OV.p rfl) (OV.g rfl id)) rfl ?_
  refine WL.mv rfl rfl ?_
  refine WL.valG (oj := _) rfl rfl rfl GC.t (V.fieldAddr fo23_4 (OV.p rfl)) rfl ?_
  refine WL.valG (oj := _) rfl rfl rfl GC.t (V.load Tryz.isAgg3 (OV.g rfl id) (fun _ => by repeat (first | exact Rd.here rfl | apply Rd.up))) rfl ?_
  refine WL.valG (oj := _) rfl rfl rfl GC.t (V.leq (OV.g rfl id) (OV.p rfl)) rfl ?_
  refine WL.val (V.pickAnd (OV.p rfl) (OV.g rfl id)) rfl ?_
  refine WL.mv rfl rfl ?_
  refine WL.valG (oj := _) rfl rfl rfl GC.t (V.fieldAddr fo23_2 (OV.p rfl)) rfl ?_
  refine WL.valG (oj := _) rfl rfl rfl GC.t (V.load Tryz.isAgg3 (OV.g rfl id) (fun _ => by repeat (first | exact Rd.here rfl | apply Rd.up))) rfl ?_
  refine WL.valG (oj := _) rfl rfl rfl GC.t (V.fieldAddr fo23_3 (OV.p rfl)) rfl ?_
  refine WL.valG (oj := _) rfl rfl rfl GC.t (V.load Tryz.isAgg3 (OV.g rfl id) (fun _ => by repeat (first | exact Rd.here rfl | apply Rd.up))) rfl ?_
  refine WL.valG (oj := _) rfl rfl rfl GC.t (V.mulI (OV.g rfl id) (OV.g rfl id) (fun hc => by simp at hc; have := Geo.mul_bd (a := g.se) (b := g.sb) (A := 8) (B := 512) (by omega) (by omega) (by omega) (by omega); omega)) rfl ?_
  refine WL.valG (oj := _) rfl rfl rfl GC.t (V.geq (OV.g rfl id) (OV.p rfl)) rfl ?_
  refine WL.val (V.pickAnd (OV.p rfl) (OV.g rfl id)) rfl ?_
  refine WL.sg rfl rfl ?_
  refine WL.nil ?_
  refine WC.ret ?_
  refine BodyQ.ret (H' := F) (Res.tmp rfl rfl) (fun w h => by repeat (first | exact h | replace h := h.tail)) ⟨?_, rfl⟩
  congr 1
  rw [Bool.eq_iff_iff]
  unfold Geo.may
  rw [decide_eq_true_eq]
  unfold Geo.mays
  simp
  omega
theorem ref06_Room (g : Geo) (h : g.mays) (K : World) (F : List Assn) : Tells Tryz.prog 22 #[g.v] K F (.int .i64 g.room) := by
  have hb := h
  unfold Geo.mays at hb
  have := Geo.mul_bd (a := g.se) (b := g.sb) (A := 8) (B := 512) (by omega) (by omega) (by omega) (by omega)
  refine Does.enter Tryz.func22 rfl Tryz.ntmps22 rfl ?_
  simp only [env0, Nat.reduceAdd]
  refine WC.sr ?_
  refine WL.box (cs := [_, _, _, _, _]) (OV.p rfl) rfl rfl (fun b1 => ?_)
  refine WL.sg rfl rfl ?_
  refine WL.nil ?_
  refine WC.sr ?_
  refine WL.val (V.fieldAddr fo23_2 (OV.p rfl)) rfl ?_
  refine WL.ld Tryz.isAgg3 rfl rfl ?_
  refine WL.val (V.fieldAddr fo23_3 (OV.p rfl)) rfl ?_
  refine WL.ld Tryz.isAgg3 rfl rfl ?_
  refine WL.val (V.mulI (OV.p rfl) (OV.p rfl) (fun hc => by first | omega | (simp at hc; omega))) rfl ?_
  refine WL.sg rfl rfl ?_
  refine WL.nil ?_
  refine WC.ret ?_
  exact BodyQ.ret (H' := F) (Res.tmp rfl rfl) (fun w h => by repeat (first | exact h | replace h := h.tail)) ⟨rfl, rfl⟩
def Geo.small (g : Geo) : Bool := !g.may || (decide (g.room ≤ 32) && decide (g.bl ≤ 16) && decide (g.pg ≤ 8))
end Go.Proofs.YtohkefolnmcjnaaGreat
namespace Go.Proofs.YtohkefolnmcjnaaGreat
open Go.Sl Go.ChangeShapes Go.WideShapes Go.ChangeAt Go.RowKit
theorem l1_own : ownKnob Tryz.prog.godebug = none := by kernel_rfl
theorem l1_laid : laidOutB Tryz.prog = true := by kernel_rfl
theorem open_num {P : Program} {W : World} {r : Reach} {base : Nat} {t : TypeId} {k : IntKind} {v : Value} (hu : P.underlying t = some (.int k)) (h : Value.okWide P W r base t v) : ∃ i, v = .int k i ∧ k.min ≤ i ∧ i ≤ k.max := by
  have h' : Cell.okWide P W r base t v := by simpa only [Value.okWide, hu] using h
  exact (cellIs h').int hu
set_option maxRecDepth 100000 in
theorem open_geo {W : World} {r : Reach} {base : Nat} {v : Value} (h : Value.okWide Tryz.prog W r base 23 v) : ∃ g : Geo, v = g.v := by
  obtain ⟨cs, rfl, hsz, hc⟩ := wide_agg (ts := [3, 3, 3, 3, 3]) ⟨_, Tryz.underlying23, .inl ⟨_, rfl⟩⟩ (by kernel_rfl) (by kernel_rfl) h
  obtain ⟨l⟩ := cs
  match l, hsz with
  | [c0, c1, c2, c3, c4], _ =>
    obtain ⟨x0, rfl, _⟩ := (hc 0 _ c0 rfl rfl).int Tryz.underlying3
    obtain ⟨x1, rfl, _⟩ := (hc 1 _ c1 rfl rfl).int Tryz.underlying3
    obtain ⟨x2, rfl, _⟩ := (hc 2 _ c2 rfl rfl).int Tryz.underlying3
    obtain ⟨x3, rfl, _⟩ := (hc 3 _ c3 rfl rfl).int Tryz.underlying3
    obtain ⟨x4, rfl, _⟩ := (hc 4 _ c4 rfl rfl).int Tryz.underlying3
    exact ⟨⟨x0, x1, x2, x3, x4⟩, rfl⟩
end Go.Proofs.YtohkefolnmcjnaaGreat
