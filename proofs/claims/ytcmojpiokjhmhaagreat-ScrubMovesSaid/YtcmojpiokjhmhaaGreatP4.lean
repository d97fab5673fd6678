import Derived.Test.YtcmojpiokjhmhaaGreatP3
import Derived.Test.YtcmojpiokjhmhaaGreatProg
import Derived.Test.YtcmojpiokjhmhaaGreatChecked
import Derived.Lib.SliceRun
namespace Go.Sl
open Go.RowKit Go.BigFrame
set_option linter.unusedVariables false
set_option linter.unusedSimpArgs false
theorem bE.perm {w : World} {l l' : List ak} (h : l.Perm l') : bE w l → bE w l' := by
  induction h with
  | nil => exact id
  | cons x h ih => exact fun hw => hw.oz ih (fun B hB => h.mem_iff.2 hB)
  | swap x y l => exact fun hw => hw.swap
  | trans _ _ h1 h2 => exact fun hw => h2 (h1 hw)
theorem bE.Mk {w : World} {l l' H : List ak} (h : l.Perm l') : bE w (l ++ H) → bE w (l' ++ H) := bE.perm (h.append_right H)
theorem L9 {α β : Type} {f : α → β} {l : List β} : ∀ {m : List β}, m.Perm l → ∀ {dn : List α}, dn.map f = m → ∃ MP, dn.Perm MP ∧ MP.map f = l := by
  intro m h
  induction h with
  | nil => intro dn hd; exact ⟨dn, .refl _, hd⟩
  | cons x h ih =>
    intro dn hd
    cases dn with
    | nil => cases hd
    | cons a dn =>
      simp only [List.map_cons, List.cons.injEq] at hd
      obtain ⟨MP, h1, h2⟩ := ih hd.2
      exact ⟨a :: MP, h1.cons a, by simp [hd.1, h2]⟩
  | swap x y l =>
    intro dn hd
    match dn, hd with
    | a :: b :: dn, hd =>
      simp only [List.map_cons, List.cons.injEq] at hd
      exact ⟨b :: a :: dn, .swap b a dn, by simp [hd]⟩
  | trans _ _ h1 h2 =>
    intro dn hd
    obtain ⟨d1, k1, k2⟩ := h1 hd
    obtain ⟨d2, k3, k4⟩ := h2 k2
    exact ⟨d2, k1.trans k3, k4⟩
structure JE where
  i : Nat
  d : Nat
  v : Nat → Value
  A : Nat → ak
def zR (ops : Array Oper) (EX : Array Bool) : Nat → Array Bool → List Nat → Bool
  | 0, L, R => R.isEmpty && (L == EX)
  | k + 1, L, R => (Region.ready .any ops L == R) && !R.isEmpty && (List.range R.length).all fun j => zR ops EX k (L.setIfInBounds (R.getD j 0) true) (R.eraseIdx j)
section
variable {ds : List Deferred} {P : Program} {K : World} {n : Nat} {Q : Post} {e0 e : Env} {H F0 : List ak} {ops : Array Oper} {EX : Array Bool}
theorem WA.NQ (es : List JE) (hnd : (es.map (·.d)).Nodup) (h0 : ∀ x ∈ es, look e0 x.d = none)
    (hop : ∀ x ∈ es, ∃ o, ops[x.i]? = some o ∧ ∀ e' H' Q', Sub e0 e' → (∀ b, WL ⟨none, ds⟩ P K n ops [] Q' ((x.d, x.v b) :: e') (x.A b :: H')) → WL ⟨none, ds⟩ P K n ops [o] Q' e' H') (fuel : Nat)
    (hF : ∀ w, Sat K w H → Sat K w F0)
    (h : ∀ bs : List Nat, bs.length = es.length → WA ⟨none, ds⟩ P K n F0 ops Q fuel EX ((es.zip bs).map (fun p => (p.1.d, p.1.v p.2)) ++ e0) ((es.zip bs).map (fun p => p.1.A p.2) ++ H)) :
    ∀ (k : Nat) (rem : List JE) (dn : List (JE × Nat)) (listed : Array Bool) (e' : Env), rem.length = k → (rem ++ dn.map (·.1)).Perm es → zR ops EX k listed (rem.map (·.i)) = true → Sub e0 e' →
      (∀ p ∈ dn, look e' p.1.d = some (p.1.v p.2)) → WA ⟨none, ds⟩ P K n F0 ops Q (k + fuel) listed e' (dn.map (fun p => p.1.A p.2) ++ H) := by
  intro k
  induction k with
  | zero =>
    intro rem dn listed e' hl hp hc hE hd
    obtain rfl : rem = [] := List.eq_nil_of_length_eq_zero hl
    simp only [zR, Bool.and_eq_true, beq_iff_eq] at hc
    obtain ⟨_, rfl⟩ := hc
    obtain ⟨MP, k1, k2⟩ := L9 (f := fun p : JE × Nat => p.1) (show (dn.map (·.1)).Perm es from hp) (dn := dn) rfl
    have hz : es.zip (MP.map (·.2)) = MP := by
      rw [← k2]
      clear k1 k2 h0 hop h
      induction MP with
      | nil => rfl
      | cons a l ih => simp [ih]
    have h1 := h (MP.map (·.2)) (by rw [← k2]; simp)
    rw [hz] at h1
    rw [Nat.zero_add]
    intro a w ha hw
    refine h1 a w (ha.sub ?_) ?_
    · intro t v hv
      have hin : ∀ (l : List (JE × Nat)), (∀ p ∈ l, p ∈ dn) → look (l.map (fun p => (p.1.d, p.1.v p.2)) ++ e0) t = some v → look e' t = some v := by
        intro l
        clear hv
        induction l with
        | nil => intro _ h; exact hE t v h
        | cons p l ih =>
          intro hm hv
          simp only [List.map_cons, List.cons_append, look] at hv
          cases hk : Nat.beq p.1.d t with
          | true =>
            simp only [hk, cond_true] at hv
            obtain rfl := Nat.eq_of_beq_eq_true hk
            rw [hd p (hm p (.head _)), hv]
          | false =>
            simp only [hk, cond_false] at hv
            exact ih (fun q hq => hm q (.tail _ hq)) hv
      exact hin MP (fun p hp' => k1.mem_iff.2 hp') hv
    · exact ⟨hw.1, bE.Mk (k1.map _) hw.2⟩
  | succ k ih =>
    intro rem dn listed e' hl hp hc hE hd
    simp only [zR, Bool.and_eq_true, beq_iff_eq, List.all_eq_true, List.mem_range] at hc
    obtain ⟨⟨hr, hne⟩, hall⟩ := hc
    rw [show k + 1 + fuel = (k + fuel) + 1 by omega]
    have U3 : ∀ w, Sat K w (dn.map (fun p => p.1.A p.2) ++ H) → Sat K w F0 := fun w hw => hF w ⟨hw.1, (bE.append.1 hw.2).2.1⟩
    refine WA.step U3 hr (by cases h : (rem.map (·.i)).isEmpty <;> simp_all) fun i hi => ?_
    obtain ⟨j, hj⟩ := List.getElem?_of_mem hi
    rw [List.getElem?_map] at hj
    cases hx : rem[j]? with
    | none => rw [hx] at hj; cases hj
    | some x =>
      rw [hx] at hj
      simp only [Option.map_some, Option.some.injEq] at hj
      subst hj
      have hjl : j < rem.length := by
        rcases Nat.lt_or_ge j rem.length with h | h
        · exact h
        · rw [List.getElem?_eq_none h] at hx; cases hx
      have hxm : x ∈ es := hp.mem_iff.1 (List.mem_append_left _ (List.mem_of_getElem? hx))
      obtain ⟨o, ho, hop'⟩ := hop x hxm
      refine ⟨o, ho, hop' e' _ _ hE fun b => WL.nil ?_⟩
      have hsplit : (x :: rem.eraseIdx j).Perm rem := by
        have e1 : rem = rem.take j ++ x :: rem.drop (j + 1) := by
          conv => lhs; rw [← List.take_append_drop j rem]
          congr 1
          rw [List.drop_eq_getElem_cons hjl]
          congr 1
          rw [List.getElem?_eq_getElem hjl] at hx
          exact Option.some.inj hx
        rw [List.eraseIdx_eq_take_drop_succ]
        conv => rhs; rw [e1]
        exact List.perm_middle.symm
      have hp2 : (rem.eraseIdx j ++ ((x, b) :: dn).map (·.1)).Perm es := by
        refine List.Perm.trans ?_ hp
        simp only [List.map_cons]
        refine List.Perm.trans List.perm_middle ?_
        exact hsplit.append_right (dn.map (·.1))
      have LC : ((rem.eraseIdx j ++ ((x, b) :: dn).map (·.1)).map (·.d)).Nodup := ((hp2.map _).nodup_iff).2 hnd
      refine ih (rem.eraseIdx j) ((x, b) :: dn) _ _ ?_ hp2 ?_ ?_ ?_
      · rw [List.length_eraseIdx, if_pos hjl]; omega
      · have := hall j (by rw [List.length_map]; exact hjl)
        have e1 : (rem.map (·.i)).getD j 0 = x.i := by rw [List.getD, List.getElem?_map, hx]; rfl
        have e2 : (rem.map (·.i)).eraseIdx j = (rem.eraseIdx j).map (·.i) := by
          apply List.ext_getElem?
          intro q
          simp only [List.getElem?_eraseIdx, List.getElem?_map]
          split <;> rfl
        rw [e1, e2] at this
        exact this
      · intro t v hv
        have hne' : x.d ≠ t := fun e => by rw [← e, h0 x hxm] at hv; cases hv
        simp only [look]
        have : Nat.beq x.d t = false := by
          cases hb : Nat.beq x.d t
          · rfl
          · exact absurd (Nat.eq_of_beq_eq_true hb) hne'
        rw [this]
        exact hE t v hv
      · intro p hp'
        rcases List.mem_cons.1 hp' with rfl | hp'
        · simp [look]
        · have hne' : x.d ≠ p.1.d := by
            rw [List.map_append, List.map_cons, List.map_cons] at LC
            have h3 := (List.nodup_append.1 LC).2.1
            intro e
            exact (List.nodup_cons.1 h3).1 (e ▸ List.mem_map.2 ⟨p.1, List.mem_map.2 ⟨p, hp', rfl⟩, rfl⟩)
          simp only [look]
          have : Nat.beq x.d p.1.d = false := by
            cases hb : Nat.beq x.d p.1.d
            · rfl
            · exact absurd (Nat.eq_of_beq_eq_true hb) hne'
          rw [this]
          exact hd p hp'
theorem WA.par (es : List JE) (listed : Array Bool) {fuel m : Nat} (hm : es.length + fuel = m) (hnd : decide (es.map (·.d)).Nodup = true) (h0 : es.all (fun x => (look e0 x.d).isNone) = true) (hE : Sub e0 e) (hc : zR ops EX es.length listed (es.map (·.i)) = true)
    (hop : ∀ x ∈ es, ∃ o, ops[x.i]? = some o ∧ ∀ e' H' Q', Sub e0 e' → (∀ b, WL ⟨none, ds⟩ P K n ops [] Q' ((x.d, x.v b) :: e') (x.A b :: H')) → WL ⟨none, ds⟩ P K n ops [o] Q' e' H')
    (hF : ∀ w, Sat K w H → Sat K w F0)
    (h : ∀ bs : List Nat, bs.length = es.length → WA ⟨none, ds⟩ P K n F0 ops Q fuel EX ((es.zip bs).map (fun p => (p.1.d, p.1.v p.2)) ++ e0) ((es.zip bs).map (fun p => p.1.A p.2) ++ H)) :
    WA ⟨none, ds⟩ P K n F0 ops Q m listed e H := by
  subst hm
  exact WA.NQ es (of_decide_eq_true hnd) (fun x hx => by simpa using List.all_eq_true.1 h0 x hx) hop fuel hF h es.length es [] listed e rfl (by simp) hc hE (fun p hp => by cases hp)
theorem Ke {w : World} {t E : TypeId} {A : Option Addr} {m cap : Nat} (hT : P.underlying t = some (.slice E)) : (Op.equalIn (9999 + 1) t (.slice A m cap) (.slice none 0 0)).run P w = .ok A.isNone w := by
  rw [Op.equalIn]
  cases A <;> simp [run_underlying hT]
theorem V.MB {Mo : Mode} {c : Bool} {dst : Option Tmp} {ty : TypeId} {pos : String} {af : Array Edge} {gd : Option (Nat × Bool)} {x : Operand} {t t' E : TypeId} {A : Option Addr} {m cap : Nat} (hT : P.underlying t = some (.slice E)) (hx : OV c e x (.slice A m cap)) :
    Val Mo P K n c e H ⟨dst, .binOp .eql t x (.const (.slice none 0 0)) t', ty, pos, af, gd⟩ (.bool A.isNone) := fun hc a w ha _ => by
  have h1 : binOp .eql t (.slice A m cap) (.slice none 0 0) = ((Op.equalIn (9999 + 1) t (.slice A m cap) (.slice none 0 0) >>= fun r => pure (Value.bool r)) : Sem Value) := rfl
  refine rQ (y := .const (.slice none 0 0)) (v := .slice none 0 0) (hx.ev hc ha) rfl (by simp [eqGuard]) ?_
  rw [h1, Sem.run_bind, Ke hT]; rfl
end
end Go.Sl
namespace Go.Proofs.YtcmojpiokjhmhaaGreat
open Go.Sl
set_option linter.unusedVariables false
set_option maxRecDepth 20000
theorem QZ : KT Tryz.prog 71 2 3 1 := ⟨Tryz.runUnderlying71, Tryz.sizeOf3⟩
theorem NW : aT Tryz.prog 103 0 0 := fun _ _ => by kernel_rfl
theorem Nt : aT Tryz.prog 103 1 1 := fun _ _ => by kernel_rfl
theorem Iu : aT Tryz.prog 103 2 2 := fun _ _ => by kernel_rfl
theorem Nk : aT Tryz.prog 103 3 3 := fun _ _ => by kernel_rfl
theorem yR : aT Tryz.prog 107 0 0 := fun _ _ => by kernel_rfl
theorem vE : aT Tryz.prog 107 1 1 := fun _ _ => by kernel_rfl
theorem jK : aT Tryz.prog 107 2 2 := fun _ _ => by kernel_rfl
theorem jM : aT Tryz.prog 120 0 0 := fun _ _ => by kernel_rfl
theorem rM : aT Tryz.prog 120 1 1 := fun _ _ => by kernel_rfl
theorem q9 : aT Tryz.prog 139 0 0 := fun _ _ => by kernel_rfl
theorem mI : aT Tryz.prog 139 1 1 := fun _ _ => by kernel_rfl
theorem Nn : aT Tryz.prog 139 2 4 := fun _ _ => by kernel_rfl
theorem I7 : aT Tryz.prog 175 0 0 := fun _ _ => by kernel_rfl
theorem IG : aT Tryz.prog 175 1 1 := fun _ _ => by kernel_rfl
theorem Dn : aT Tryz.prog 175 2 2 := fun _ _ => by kernel_rfl
theorem yY : aT Tryz.prog 199 0 0 := fun _ _ => by kernel_rfl
theorem y7 : aT Tryz.prog 199 1 1 := fun _ _ => by kernel_rfl
theorem yO : aT Tryz.prog 199 2 2 := fun _ _ => by kernel_rfl
theorem jI : aT Tryz.prog 23 0 0 := fun _ _ => by kernel_rfl
theorem nR : aT Tryz.prog 23 1 1 := fun _ _ => by kernel_rfl
theorem oL : aT Tryz.prog 23 2 2 := fun _ _ => by kernel_rfl
theorem ig : aT Tryz.prog 23 3 3 := fun _ _ => by kernel_rfl
theorem oJ : aT Tryz.prog 23 4 4 := fun _ _ => by kernel_rfl
theorem DT : aT Tryz.prog 83 0 0 := fun _ _ => by kernel_rfl
theorem H9 : aT Tryz.prog 83 1 5 := fun _ _ => by kernel_rfl
theorem yP : aT Tryz.prog 83 10 14 := fun _ _ => by kernel_rfl
theorem w9 : aT Tryz.prog 83 2 6 := fun _ _ => by kernel_rfl
theorem AV : aT Tryz.prog 83 3 7 := fun _ _ => by kernel_rfl
theorem Du : aT Tryz.prog 83 4 8 := fun _ _ => by kernel_rfl
theorem Hl : aT Tryz.prog 83 5 9 := fun _ _ => by kernel_rfl
theorem Mx : aT Tryz.prog 83 6 10 := fun _ _ => by kernel_rfl
theorem Eo : aT Tryz.prog 83 8 12 := fun _ _ => by kernel_rfl
theorem tK : aT Tryz.prog 83 9 13 := fun _ _ => by kernel_rfl
theorem sU : aT Tryz.prog 89 0 0 := fun _ _ => by kernel_rfl
theorem mP : aT Tryz.prog 89 1 1 := fun _ _ => by kernel_rfl
theorem lJ : aT Tryz.prog 89 2 6 := fun _ _ => by kernel_rfl
theorem tQ : aT Tryz.prog 89 3 7 := fun _ _ => by kernel_rfl
theorem kD : aT Tryz.prog 89 4 8 := fun _ _ => by kernel_rfl
theorem Dx : aT Tryz.prog 89 5 9 := fun _ _ => by kernel_rfl
theorem HZ : aT Tryz.prog 89 6 10 := fun _ _ => by kernel_rfl
theorem lM : iE Tryz.prog 111 139 5 := ⟨Tryz.runUnderlying111, Tryz.sizeOf139⟩
theorem Ci : iE Tryz.prog 140 111 1 := ⟨Tryz.runUnderlying140, Tryz.sizeOf111⟩
theorem QV : iE Tryz.prog 154 175 3 := ⟨Tryz.runUnderlying154, Tryz.sizeOf175⟩
theorem bZ : iE Tryz.prog 24 3 1 := ⟨Tryz.runUnderlying24, Tryz.sizeOf3⟩
theorem Pf : iE Tryz.prog 38 9 1 := ⟨Tryz.runUnderlying38, Tryz.sizeOf9⟩
theorem fE : iE Tryz.prog 43 5 1 := ⟨Tryz.runUnderlying43, Tryz.sizeOf5⟩
theorem Rp : iE Tryz.prog 56 103 4 := ⟨Tryz.runUnderlying56, Tryz.sizeOf103⟩
theorem Qj : iE Tryz.prog 69 71 2 := ⟨Tryz.runUnderlying69, Tryz.sizeOf71⟩
theorem AU : iE Tryz.prog 87 24 1 := ⟨Tryz.runUnderlying87, Tryz.sizeOf24⟩
theorem el3 : gI Tryz.prog 3 1 8 (.int .i64 0) := gI.mk (i := Tryz.t3) (by kernel_rfl) rfl rfl rfl rfl rfl
theorem yD : gI Tryz.prog 5 1 1 (.int .u8 0) := gI.mk (i := Tryz.t5) (by kernel_rfl) rfl rfl rfl rfl rfl
theorem Sz : gI Tryz.prog 24 1 24 (.slice none 0 0) := gI.mk (i := Tryz.t24) (by kernel_rfl) rfl rfl rfl rfl rfl
theorem Qg : gI Tryz.prog 111 1 24 (.slice none 0 0) := gI.mk (i := Tryz.t111) (by kernel_rfl) rfl rfl rfl rfl rfl
theorem Lb : gI Tryz.prog 139 5 40 (.agg #[(.int .i64 0), (.int .i64 0), (.int .i64 0), (.int .i64 0), (.bool false)]) := gI.mk (i := Tryz.t139) (by kernel_rfl) rfl rfl rfl rfl rfl
theorem Q8 : gI Tryz.prog 175 3 40 (.agg #[(.slice none 0 0), (.int .i64 0), (.int .i64 0)]) := gI.mk (i := Tryz.t175) (by kernel_rfl) rfl rfl rfl rfl rfl
theorem yF (x0 : Int) (x1 : Int) (x2 : Int) (x3 : Int) (x4 : Int) (w : World) : (Instr.build 23 [(0, .int .i64 x0), (1, .int .i64 x1), (2, .int .i64 x2), (3, .int .i64 x3), (4, .int .i64 x4)].toArray).run Tryz.prog w = .ok (.agg #[.int .i64 x0, .int .i64 x1, .int .i64 x2, .int .i64 x3, .int .i64 x4]) w := by kernel_rfl
theorem pq (x00 x01 Oe Qm QO : Value) (x1 : Int) (x2 : Option Nat) (x3 : Option Nat) (Tv : Option Addr) (Tw Tx : Nat) (x5 : Option Nat) (x6 : Option Nat) (x8 : Bool) (w : World) : (Instr.build 83 [(0, .agg #[x00, x01, Oe, Qm, QO]), (1, .int .i64 x1), (2, .map x2), (3, .map x3), (4, .slice Tv Tw Tx), (5, .map x5), (6, .map x6), (8, .bool x8)].toArray).run Tryz.prog w = .ok (.agg #[x00, x01, Oe, Qm, QO, .int .i64 x1, .map x2, .map x3, .slice Tv Tw Tx, .map x5, .map x6, (.int .i64 0), .bool x8, (.int .i64 0), (.int .i64 0)]) w := by kernel_rfl
theorem JJ (x0 : Option Addr) (x10 Oo Ou Qb QU : Value) (w : World) : (Instr.build 89 [(0, .pointer x0), (1, .agg #[x10, Oo, Ou, Qb, QU])].toArray).run Tryz.prog w = .ok (.agg #[.pointer x0, x10, Oo, Ou, Qb, QU, (.slice none 0 0), (.slice none 0 0), (.int .i64 0), (.int .i64 0), (.bool false)]) w := by kernel_rfl
theorem eT (x0 : Int) (x1 : Int) (w : World) : (Instr.build 100 [(0, .int .i64 x0), (1, .int .i64 x1)].toArray).run Tryz.prog w = .ok (.agg #[.int .i64 x0, .int .i64 x1]) w := by kernel_rfl
theorem G9 (w : World) : (Instr.build 107 [].toArray).run Tryz.prog w = .ok (.agg #[(.int .i64 0), (.int .i64 0), (.int .i64 0)]) w := by kernel_rfl
theorem nW (x0 : Int) (x1 : Int) (x2 : Int) (w : World) : (Instr.build 107 [(0, .int .i64 x0), (1, .int .i64 x1), (2, .int .i64 x2)].toArray).run Tryz.prog w = .ok (.agg #[.int .i64 x0, .int .i64 x1, .int .i64 x2]) w := by kernel_rfl
theorem GD (x0 : Option Addr) (x10 Oo Ou Qb QU : Value) (w : World) : (Instr.build 120 [(0, .pointer x0), (1, .agg #[x10, Oo, Ou, Qb, QU])].toArray).run Tryz.prog w = .ok (.agg #[.pointer x0, x10, Oo, Ou, Qb, QU]) w := by kernel_rfl
theorem Dr (x0 : Int) (x10 Oo Ou : Value) (x2 : Bool) (w : World) : (Instr.build 139 [(0, .int .i64 x0), (1, .agg #[x10, Oo, Ou]), (2, .bool x2)].toArray).run Tryz.prog w = .ok (.agg #[.int .i64 x0, x10, Oo, Ou, .bool x2]) w := by kernel_rfl
theorem Dh (x0 : Int) (QY : Option Addr) (Qf QG : Nat) (x2a : Option Addr) (Tm Te : Nat) (w : World) : (Instr.build 199 [(0, .int .i64 x0), (1, .slice QY Qf QG), (2, .slice x2a Tm Te)].toArray).run Tryz.prog w = .ok (.agg #[.int .i64 x0, .slice QY Qf QG, .slice x2a Tm Te]) w := by kernel_rfl
theorem NM (w : World) : (Instr.buildSlice 24 0 [].toArray).run Tryz.prog w = .ok (.slice (some ⟨w.heap.size, 0, none⟩) 0 0) (w.alloc (.cells [].toArray 3)) := by kernel_rfl
theorem bT (x0 : Int) (w : World) : (Instr.buildSlice 24 1 [(0, .int .i64 x0)].toArray).run Tryz.prog w = .ok (.slice (some ⟨w.heap.size, 0, none⟩) 1 1) (w.alloc (.cells [.int .i64 x0].toArray 3)) := by kernel_rfl
theorem qL (x0 : Int) (x1 : Int) (w : World) : (Instr.buildSlice 24 2 [(0, .int .i64 x0), (1, .int .i64 x1)].toArray).run Tryz.prog w = .ok (.slice (some ⟨w.heap.size, 0, none⟩) 2 2) (w.alloc (.cells [.int .i64 x0, .int .i64 x1].toArray 3)) := by kernel_rfl
theorem BA (x0 : Int) (x1 : Int) (x2 : Int) (w : World) : (Instr.buildSlice 24 3 [(0, .int .i64 x0), (1, .int .i64 x1), (2, .int .i64 x2)].toArray).run Tryz.prog w = .ok (.slice (some ⟨w.heap.size, 0, none⟩) 3 3) (w.alloc (.cells [.int .i64 x0, .int .i64 x1, .int .i64 x2].toArray 3)) := by kernel_rfl
theorem Nc (w : World) : (Instr.buildSlice 43 0 [].toArray).run Tryz.prog w = .ok (.slice (some ⟨w.heap.size, 0, none⟩) 0 0) (w.alloc (.cells [].toArray 5)) := by kernel_rfl
theorem Cb (x0 : Int) (w : World) : (Instr.buildSlice 43 1 [(0, .int .u8 x0)].toArray).run Tryz.prog w = .ok (.slice (some ⟨w.heap.size, 0, none⟩) 1 1) (w.alloc (.cells [.int .u8 x0].toArray 5)) := by kernel_rfl
theorem sO (x0 : Int) (x1 : Int) (x2 : Int) (w : World) : (Instr.buildSlice 43 3 [(0, .int .u8 x0), (1, .int .u8 x1), (2, .int .u8 x2)].toArray).run Tryz.prog w = .ok (.slice (some ⟨w.heap.size, 0, none⟩) 3 3) (w.alloc (.cells [.int .u8 x0, .int .u8 x1, .int .u8 x2].toArray 5)) := by kernel_rfl
theorem iP (x0 : Int) (x1 : Int) (x2 : Int) (x3 : Int) (w : World) : (Instr.buildSlice 43 4 [(0, .int .u8 x0), (1, .int .u8 x1), (2, .int .u8 x2), (3, .int .u8 x3)].toArray).run Tryz.prog w = .ok (.slice (some ⟨w.heap.size, 0, none⟩) 4 4) (w.alloc (.cells [.int .u8 x0, .int .u8 x1, .int .u8 x2, .int .u8 x3].toArray 5)) := by kernel_rfl
theorem F7 (x0a : Option Addr) (TB SX : Nat) (QY : Option Addr) (Qf QG : Nat) (w : World) : (Instr.buildSlice 87 2 [(0, .slice x0a TB SX), (1, .slice QY Qf QG)].toArray).run Tryz.prog w = .ok (.slice (some ⟨w.heap.size, 0, none⟩) 2 2) (w.alloc (.cells [.slice x0a TB SX, .slice QY Qf QG].toArray 24)) := by kernel_rfl
theorem tT (x00 x01 Oe Qm QO : Value) (w : World) : (Instr.buildSlice 111 1 [(0, .agg #[x00, x01, Oe, Qm, QO])].toArray).run Tryz.prog w = .ok (.slice (some ⟨w.heap.size, 0, none⟩) 1 1) (w.alloc (.cells [x00, x01, Oe, Qm, QO].toArray 139)) := by kernel_rfl
theorem H7 (x00 x01 Oe : Value) (w : World) : (Instr.buildSlice 154 1 [(0, .agg #[x00, x01, Oe])].toArray).run Tryz.prog w = .ok (.slice (some ⟨w.heap.size, 0, none⟩) 1 1) (w.alloc (.cells [x00, x01, Oe].toArray 175)) := by kernel_rfl
theorem Np (c0 c1 c2 c3 c4 : Value) (w : World) : (Instr.field 23 (.agg #[c0, c1, c2, c3, c4]) 0).run Tryz.prog w = .ok (c0) w := by kernel_rfl
theorem Ni (c0 c1 c2 c3 c4 : Value) (w : World) : (Instr.field 23 (.agg #[c0, c1, c2, c3, c4]) 1).run Tryz.prog w = .ok (c1) w := by kernel_rfl
theorem PS (x0 : Int) (x1 : Int) (y0 : Int) (y1 : Int) : rX Tryz.prog 10000 100 (.agg #[.int .i64 x0, .int .i64 x1]) (.agg #[.int .i64 y0, .int .i64 y1]) (((decide (x0 = y0)) && ((decide (x1 = y1)) && true))) :=
  (rX.struct Tryz.underlying100 (by kernel_rfl) (Nb.cons (by decide) (IX Tryz.isAgg3 rfl) (IX Tryz.isAgg3 rfl) (rX.int Tryz.underlying3) (Nb.cons (by decide) (IX Tryz.isAgg3 rfl) (IX Tryz.isAgg3 rfl) (rX.int Tryz.underlying3) Nb.nil)))
abbrev kC (i : Int) : Value := .int .i64 i
theorem QJ : vC Tryz.prog 3 kC := vC.int Tryz.underlying3
abbrev eF (p : Int × Int) : Value := .agg #[.int .i64 p.1, .int .i64 p.2]
theorem p8 : vC Tryz.prog 100 eF where
  check b p w := by kernel_rfl
  eq p q w := by
    have h := PS p.1 p.2 q.1 q.2 w
    refine h.trans ?_
    congr 1
    rw [Bool.eq_iff_iff]
    simp [Prod.ext_iff]
  und := ⟨_, Tryz.underlying100, fun p q => .inl rfl⟩
  bits p := by simp [Instr.sameBits]
open Go.Sl Go.RowKit
set_option linter.unusedSimpArgs false
structure Geo where
  (bl pg se sb fl : Int)
  deriving DecidableEq
namespace Geo
abbrev v (g : Geo) : Value := .agg #[.int .i64 g.bl, .int .i64 g.pg, .int .i64 g.se, .int .i64 g.sb, .int .i64 g.fl]
def zero : Geo := ⟨0, 0, 0, 0, 0⟩
def aD (g : Geo) : Prop := 1 ≤ g.bl ∧ g.bl ≤ 256 ∧ 2 ≤ g.pg ∧ g.pg ≤ 64 ∧ 1 ≤ g.se ∧ g.se ≤ 8 ∧ 4 ≤ g.sb ∧ g.sb ≤ 512 ∧ g.sb % 4 = 0 ∧ 1 ≤ g.fl ∧ g.fl ≤ 8 ∧ 16 ≤ g.se * g.sb
instance (g : Geo) : Decidable g.aD := by unfold aD; infer_instance
def may (g : Geo) : Bool := decide g.aD
def more (g : Geo) : Int := (13 * g.fl + 7) / 8
def whole (g : Geo) : Int := g.sb + g.more
def raw (g : Geo) : Int := g.se * g.whole + 1
def room (g : Geo) : Int := g.se * g.sb
theorem uh {a b : Int} {A B : Int} (h1 : 0 ≤ a) (h2 : a ≤ A) (h3 : 0 ≤ b) (h4 : b ≤ B) : 0 ≤ a * b ∧ a * b ≤ A * B := ⟨Int.mul_nonneg h1 h3, Int.mul_le_mul h2 h4 h3 (by omega)⟩
theorem mE {g : Geo} (h : g.may = true) : g.aD := by simpa [may] using h
theorem MV {g : Geo} (h : g.aD) : 2 ≤ g.more ∧ g.more ≤ 13 := by unfold aD at h; unfold more; omega
theorem KU {g : Geo} (h : g.aD) : 6 ≤ g.whole ∧ g.whole ≤ 525 := by have := MV h; unfold aD at h; unfold whole; omega
theorem lN {g : Geo} (h : g.aD) : 7 ≤ g.raw ∧ g.raw ≤ 4201 := by
  have h1 := KU h
  have h2 : 1 ≤ g.se ∧ g.se ≤ 8 := by unfold aD at h; omega
  have h3 := uh (A := 8) (B := 525) (by omega : 0 ≤ g.se) h2.2 (by omega : 0 ≤ g.whole) h1.2
  have h4 : 1 * g.whole ≤ g.se * g.whole := Int.mul_le_mul_of_nonneg_right h2.1 (by omega)
  unfold raw
  omega
end Geo
theorem lD (n low high : Int) (K : World) (F : List ak) : aL Tryz.prog 108 #[.int .i64 n, .int .i64 low, .int .i64 high] K F (.bool (decide (low ≤ n) && decide (n ≤ high))) := by
  refine Does.enter Tryz.func108 rfl Tryz.ntmps108 rfl ?_
  simp only [aI, Nat.reduceAdd]
  refine WC.sr (WL.sg rfl rfl (WL.nil (WC.sr (WL.mv rfl rfl (WL.mv rfl rfl (WL.val (V.geq (OV.p rfl) (OV.p rfl)) rfl (WL.mv rfl rfl (WL.av (oj := _) rfl rfl rfl GC.t (V.move (OV.p rfl)) rfl (WL.av (oj := _) rfl rfl rfl GC.t (V.move (OV.p rfl)) rfl (WL.av (oj := _) rfl rfl rfl GC.t (V.leq (OV.g rfl id) (OV.g rfl id)) rfl (WL.val (V.aJ (OV.p rfl) (OV.g rfl id)) rfl (WL.sg rfl rfl (WL.nil (WC.ret ?_))))))))))))))
  exact au.ret (H' := F) (aO.tmp rfl rfl) (fun w h => by repeat (first | exact h | replace h := h.tail)) ⟨rfl, rfl⟩
theorem Ca (g : Geo) (K : World) (F : List ak) : aL Tryz.prog 77 #[g.v] K F (.int .i64 (if g.may then 0 else 1)) := by
  refine Does.enter Tryz.func77 rfl Tryz.ntmps77 rfl ?_
  simp only [aI, Nat.reduceAdd]
  refine WC.sr ?_
  refine WL.box (cs := [_, _, _, _, _]) (OV.p rfl) rfl rfl (fun b1 => ?_)
  refine WL.sg rfl rfl (WL.nil (WC.sr (WL.val (V.fieldAddr jI (OV.p rfl)) rfl (WL.ld Tryz.isAgg3 rfl rfl ?_))))
  refine WL.call (vs := [_, _, _]) Tryz.call108 ⟨OV.p rfl, OV.p rfl, OV.p rfl, trivial⟩ (lD _ _ _ _ _) rfl ?_
  rintro _ H0 ⟨rfl, h0⟩
  subst H0
  refine WL.mv rfl rfl (WL.av (oj := _) rfl rfl rfl GC.t (V.fieldAddr nR (OV.p rfl)) rfl ?_)
  refine WL.av (oj := _) rfl rfl rfl GC.t (V.load Tryz.isAgg3 (OV.g rfl id) (fun _ => by repeat (first | exact Rd.here rfl | apply Rd.up))) rfl ?_
  refine WL.oV (oj := _) (vs := [_, _, _]) rfl rfl rfl GC.t Tryz.call108 ⟨OV.g rfl id, OV.p rfl, OV.p rfl, trivial⟩ (fun hg => lD _ _ _ _ _) rfl ?_
  refine WL.val (V.aJ (OV.p rfl) (OV.g rfl id)) rfl (WL.mv rfl rfl (WL.av (oj := _) rfl rfl rfl GC.t (V.fieldAddr oL (OV.p rfl)) rfl ?_))
  refine WL.av (oj := _) rfl rfl rfl GC.t (V.load Tryz.isAgg3 (OV.g rfl id) (fun _ => by repeat (first | exact Rd.here rfl | apply Rd.up))) rfl ?_
  refine WL.oV (oj := _) (vs := [_, _, _]) rfl rfl rfl GC.t Tryz.call108 ⟨OV.g rfl id, OV.p rfl, OV.p rfl, trivial⟩ (fun hg => lD _ _ _ _ _) rfl ?_
  refine WL.val (V.aJ (OV.p rfl) (OV.g rfl id)) rfl (WL.mv rfl rfl (WL.av (oj := _) rfl rfl rfl GC.t (V.fieldAddr ig (OV.p rfl)) rfl ?_))
  refine WL.av (oj := _) rfl rfl rfl GC.t (V.load Tryz.isAgg3 (OV.g rfl id) (fun _ => by repeat (first | exact Rd.here rfl | apply Rd.up))) rfl ?_
  refine WL.oV (oj := _) (vs := [_, _, _]) rfl rfl rfl GC.t Tryz.call108 ⟨OV.g rfl id, OV.p rfl, OV.p rfl, trivial⟩ (fun hg => lD _ _ _ _ _) rfl ?_
  refine WL.val (V.aJ (OV.p rfl) (OV.g rfl id)) rfl (WL.mv rfl rfl (WL.av (oj := _) rfl rfl rfl GC.t (V.fieldAddr ig (OV.p rfl)) rfl ?_))
  refine WL.av (oj := _) rfl rfl rfl GC.t (V.load Tryz.isAgg3 (OV.g rfl id) (fun _ => by repeat (first | exact Rd.here rfl | apply Rd.up))) rfl ?_
  refine WL.av (oj := _) rfl rfl rfl GC.t (V.o8 (OV.g rfl id) (OV.p rfl) (fun hc => by first | omega | (simp at hc; omega))) rfl ?_
  refine WL.av (oj := _) rfl rfl rfl GC.t (V.eql (OV.g rfl id) (OV.p rfl)) rfl (WL.val (V.aJ (OV.p rfl) (OV.g rfl id)) rfl (WL.mv rfl rfl (WL.av (oj := _) rfl rfl rfl GC.t (V.fieldAddr oJ (OV.p rfl)) rfl ?_)))
  refine WL.av (oj := _) rfl rfl rfl GC.t (V.load Tryz.isAgg3 (OV.g rfl id) (fun _ => by repeat (first | exact Rd.here rfl | apply Rd.up))) rfl ?_
  refine WL.oV (oj := _) (vs := [_, _, _]) rfl rfl rfl GC.t Tryz.call108 ⟨OV.g rfl id, OV.p rfl, OV.p rfl, trivial⟩ (fun hg => lD _ _ _ _ _) rfl ?_
  refine WL.val (V.aJ (OV.p rfl) (OV.g rfl id)) rfl (WL.mv rfl rfl (WL.av (oj := _) rfl rfl rfl GC.t (V.fieldAddr oL (OV.p rfl)) rfl ?_))
  refine WL.av (oj := _) rfl rfl rfl GC.t (V.load Tryz.isAgg3 (OV.g rfl id) (fun _ => by repeat (first | exact Rd.here rfl | apply Rd.up))) rfl ?_
  refine WL.av (oj := _) rfl rfl rfl GC.t (V.fieldAddr ig (OV.p rfl)) rfl ?_
  refine WL.av (oj := _) rfl rfl rfl GC.t (V.load Tryz.isAgg3 (OV.g rfl id) (fun _ => by repeat (first | exact Rd.here rfl | apply Rd.up))) rfl ?_
  refine WL.av (oj := _) rfl rfl rfl GC.t (V.jF (OV.g rfl id) (OV.g rfl id) (fun hc => by simp at hc; have := Geo.uh (a := g.se) (b := g.sb) (A := 8) (B := 512) (by omega) (by omega) (by omega) (by omega); omega)) rfl ?_
  refine WL.av (oj := _) rfl rfl rfl GC.t (V.geq (OV.g rfl id) (OV.p rfl)) rfl (WL.val (V.aJ (OV.p rfl) (OV.g rfl id)) rfl (WL.sg rfl rfl (WL.nil (WC.seq (WC.sr (WL.mv rfl rfl (WL.val (V.not (OV.p rfl)) rfl (WL.nil ?_))))))))
  refine WC.cond rfl (fun hc0 => ?_) (fun hc0 => ?_)
  ·simp only [decide_eq_true_eq, decide_eq_false_iff_not, Bool.and_eq_true, Bool.or_eq_true, Bool.and_eq_false_iff, Bool.or_eq_false_iff, Bool.not_eq_true', Bool.not_eq_false', Bool.not_eq_true, Bool.not_eq_false, Int.not_lt, Int.not_le] at hc0
   refine WC.sr (WL.sg rfl rfl (WL.nil (WC.ret ?_)))
   refine au.ret (H' := F) (aO.tmp rfl rfl) (fun w h => by repeat (first | exact h | replace h := h.tail)) ⟨?_, rfl⟩
   rw [if_neg (fun h => by have h := Geo.mE h; unfold Geo.aD at h; omega)]
  ·simp only [decide_eq_true_eq, decide_eq_false_iff_not, Bool.and_eq_true, Bool.or_eq_true, Bool.and_eq_false_iff, Bool.or_eq_false_iff, Bool.not_eq_true', Bool.not_eq_false', Bool.not_eq_true, Bool.not_eq_false, Int.not_lt, Int.not_le] at hc0
   refine WC.skip (WC.sr (WL.sg rfl rfl (WL.nil (WC.ret ?_))))
   refine au.ret (H' := F) (aO.tmp rfl rfl) (fun w h => by repeat (first | exact h | replace h := h.tail)) ⟨?_, rfl⟩
   rw [if_pos (by unfold Geo.may; rw [decide_eq_true_eq]; unfold Geo.aD; omega)]
theorem Fb (t : Int) (ht : 1 ≤ t ∧ t ≤ 8) (K : World) (F : List ak) : aL Tryz.prog 109 #[.int .i64 t] K F (.tuple #[.int .i64 (13 * t), .int .i64 0]) := by
  refine Does.enter Tryz.func109 rfl Tryz.ntmps109 rfl ?_
  simp only [aI, Nat.reduceAdd]
  refine WC.sr (WL.sg rfl rfl (WL.sg rfl rfl (WL.nil (WC.seq (WC.sr (WL.mv rfl rfl (WL.val (V.lss (OV.p rfl) (OV.p rfl)) rfl (WL.mv rfl rfl (WL.av (oj := _) rfl rfl rfl GC.f (V.move (OV.p rfl)) rfl (WL.av (oj := _) rfl rfl rfl GC.f (V.gtr (OV.g rfl id) (OV.p rfl)) rfl (WL.val (V.bH (OV.p rfl) (OV.g rfl id)) rfl (WL.nil ?_))))))))))))
  refine WC.aQ rfl ((by simp; omega)) ?_
  refine WC.skip (WC.sr (WL.mv rfl rfl ?_))
  refine WL.val (V.jF (OV.p rfl) (OV.p rfl) (fun hc => by first | omega | (simp at hc; omega))) rfl ?_
  refine WL.sg rfl rfl (WL.sg rfl rfl (WL.nil (WC.ret ?_)))
  exact au.ret (H' := F) (aO.fD rfl rfl rfl) (fun w h => by repeat (first | exact h | replace h := h.tail)) ⟨rfl, rfl⟩
theorem wK (g : Geo) (h : g.aD) (K : World) (F : List ak) : aL Tryz.prog 78 #[g.v] K F (.int .i64 g.whole) := by
  have hb := h
  unfold Geo.aD at hb
  refine Does.enter Tryz.func78 rfl Tryz.ntmps78 rfl ?_
  simp only [aI, Nat.reduceAdd]
  refine WC.sr ?_
  refine WL.box (cs := [_, _, _, _, _]) (OV.p rfl) rfl rfl (fun b1 => ?_)
  refine WL.sg rfl rfl (WL.nil (WC.sr (WL.val (V.fieldAddr oJ (OV.p rfl)) rfl (WL.ld Tryz.isAgg3 rfl rfl ?_))))
  refine WL.call (vs := [_]) Tryz.call109 ⟨OV.p rfl, trivial⟩ (Fb _ (by omega) _ _) rfl ?_
  rintro _ H0 ⟨rfl, h0⟩
  subst H0
  refine WL.mv rfl rfl (WL.xt rfl rfl rfl (WL.xt rfl rfl rfl (WL.sg rfl rfl (WL.sg rfl rfl (WL.nil (WC.sr (WL.val (V.fieldAddr ig (OV.p rfl)) rfl (WL.ld Tryz.isAgg3 rfl rfl ?_))))))))
  refine WL.mv rfl rfl (WL.ad rfl rfl rfl ?_)
  refine WL.val (V.sV (OV.p rfl) (OV.p rfl) (fun hc => by first | omega | (simp at hc; omega))) rfl ?_
  refine WL.ad rfl rfl rfl ?_
  refine WL.sg rfl rfl (WL.nil (WC.ret ?_))
  exact au.ret (H' := F) (aO.tmp rfl rfl) (fun w h => by repeat (first | exact h | replace h := h.tail)) ⟨rfl, rfl⟩
theorem D7 (g : Geo) (K : World) (F : List ak) : aL Tryz.prog 45 #[g.v] K F (.tuple (if g.may then #[.int .i64 g.raw, .int .i64 0] else #[.int .i64 0, .int .i64 1])) := by
  refine Does.enter Tryz.func45 rfl Tryz.ntmps45 rfl ?_
  simp only [aI, Nat.reduceAdd]
  refine WC.sr ?_
  refine WL.box (cs := [_, _, _, _, _]) (OV.p rfl) rfl rfl (fun b1 => ?_)
  refine WL.sg rfl rfl (WL.sg rfl rfl (WL.nil (WC.seq (WC.sr ?_))))
  refine WL.val (V.bB (vs := [_, _, _, _, _]) ⟨Tryz.isAgg23, Tryz.sizeOf23⟩ (OV.p rfl) rfl (fun _ => by repeat (first | exact bD.gets ⟨rfl, rfl, rfl, rfl, rfl, trivial⟩ | apply bD.up))) rfl ?_
  refine WL.call (vs := [_]) Tryz.call77 ⟨OV.p rfl, trivial⟩ (Ca g _ _) rfl ?_
  rintro _ H0 ⟨rfl, h0⟩
  subst H0
  refine WL.sg rfl rfl (WL.nil (WC.sr (WL.mv rfl rfl (WL.val (V.neq (OV.p rfl) (OV.p rfl)) rfl (WL.nil ?_)))))
  refine WC.cond rfl (fun hc0 => ?_) (fun hc0 => ?_)
  ·skip
   have hm : g.may = false := by cases h : g.may <;> simp [h] at hc0 ⊢
   refine WC.sr (WL.mv rfl rfl (WL.sg rfl rfl (WL.sg rfl rfl (WL.nil (WC.ret ?_)))))
   rw [hm]
   exact au.ret (H' := F) (aO.fD rfl rfl rfl) (fun w h => by repeat (first | exact h | replace h := h.tail)) ⟨rfl, rfl⟩
  ·skip
   have hm : g.may = true := by cases h : g.may <;> simp [h] at hc0 ⊢
   have hb := Geo.mE hm
   have hr := Geo.lN hb
   unfold Geo.raw at hr
   refine WC.skip (WC.seq ?_)
   refine WC.eG (by kernel_rfl) (by kernel_rfl) ?_
   refine WQ.val (V.fieldAddr oL (OV.p rfl)) rfl ?_
   refine WQ.val (V.load Tryz.isAgg3 (OV.p rfl) (fun _ => by repeat (first | exact Rd.here rfl | apply Rd.up))) rfl ?_
   refine WQ.val (V.bB (vs := [_, _, _, _, _]) ⟨Tryz.isAgg23, Tryz.sizeOf23⟩ (OV.p rfl) rfl (fun _ => by repeat (first | exact bD.gets ⟨rfl, rfl, rfl, rfl, rfl, trivial⟩ | apply bD.up))) rfl ?_
   refine WQ.call (vs := [_]) Tryz.call78 ⟨OV.p rfl, trivial⟩ (wK g hb _ _) rfl ?_
   refine WQ.val (V.jF (OV.p rfl) (OV.p rfl) (fun hc => by omega)) rfl ?_
   refine WQ.val (V.lI (OV.p rfl) (OV.p rfl) (fun hc => by omega)) rfl ?_
   refine WQ.val (V.assign (OV.p rfl)) rfl (WQ.val (V.assign (OV.p rfl)) rfl (WQ.nil (WC.ret ?_)))
   refine au.ret (H' := F) (aO.fD rfl rfl rfl) (fun w h => by repeat (first | exact h | replace h := h.tail)) ⟨?_, rfl⟩
   rw [hm]; rfl
theorem JR (g : Geo) (K : World) (F : List ak) : aL Tryz.prog 43 #[g.v] K F (.bool g.may) := by
  refine Does.enter Tryz.func43 rfl Tryz.ntmps43 rfl ?_
  simp only [aI, Nat.reduceAdd]
  refine WC.sr ?_
  refine WL.box (cs := [_, _, _, _, _]) (OV.p rfl) rfl rfl (fun b1 => ?_)
  refine WL.sg rfl rfl (WL.nil (WC.sr (WL.val (V.fieldAddr jI (OV.p rfl)) rfl (WL.ld Tryz.isAgg3 rfl rfl ?_))))
  refine WL.val (V.geq (OV.p rfl) (OV.p rfl)) rfl (WL.mv rfl rfl (WL.av (oj := _) rfl rfl rfl GC.t (V.fieldAddr jI (OV.p rfl)) rfl ?_))
  refine WL.av (oj := _) rfl rfl rfl GC.t (V.load Tryz.isAgg3 (OV.g rfl id) (fun _ => by repeat (first | exact Rd.here rfl | apply Rd.up))) rfl ?_
  refine WL.av (oj := _) rfl rfl rfl GC.t (V.leq (OV.g rfl id) (OV.p rfl)) rfl (WL.val (V.aJ (OV.p rfl) (OV.g rfl id)) rfl (WL.mv rfl rfl (WL.av (oj := _) rfl rfl rfl GC.t (V.fieldAddr nR (OV.p rfl)) rfl ?_)))
  refine WL.av (oj := _) rfl rfl rfl GC.t (V.load Tryz.isAgg3 (OV.g rfl id) (fun _ => by repeat (first | exact Rd.here rfl | apply Rd.up))) rfl ?_
  refine WL.av (oj := _) rfl rfl rfl GC.t (V.geq (OV.g rfl id) (OV.p rfl)) rfl (WL.val (V.aJ (OV.p rfl) (OV.g rfl id)) rfl (WL.mv rfl rfl (WL.av (oj := _) rfl rfl rfl GC.t (V.fieldAddr nR (OV.p rfl)) rfl ?_)))
  refine WL.av (oj := _) rfl rfl rfl GC.t (V.load Tryz.isAgg3 (OV.g rfl id) (fun _ => by repeat (first | exact Rd.here rfl | apply Rd.up))) rfl ?_
  refine WL.av (oj := _) rfl rfl rfl GC.t (V.leq (OV.g rfl id) (OV.p rfl)) rfl (WL.val (V.aJ (OV.p rfl) (OV.g rfl id)) rfl (WL.mv rfl rfl (WL.av (oj := _) rfl rfl rfl GC.t (V.fieldAddr oL (OV.p rfl)) rfl ?_)))
  refine WL.av (oj := _) rfl rfl rfl GC.t (V.load Tryz.isAgg3 (OV.g rfl id) (fun _ => by repeat (first | exact Rd.here rfl | apply Rd.up))) rfl ?_
  refine WL.av (oj := _) rfl rfl rfl GC.t (V.geq (OV.g rfl id) (OV.p rfl)) rfl (WL.val (V.aJ (OV.p rfl) (OV.g rfl id)) rfl (WL.mv rfl rfl (WL.av (oj := _) rfl rfl rfl GC.t (V.fieldAddr oL (OV.p rfl)) rfl ?_)))
  refine WL.av (oj := _) rfl rfl rfl GC.t (V.load Tryz.isAgg3 (OV.g rfl id) (fun _ => by repeat (first | exact Rd.here rfl | apply Rd.up))) rfl ?_
  refine WL.av (oj := _) rfl rfl rfl GC.t (V.leq (OV.g rfl id) (OV.p rfl)) rfl (WL.val (V.aJ (OV.p rfl) (OV.g rfl id)) rfl (WL.mv rfl rfl (WL.av (oj := _) rfl rfl rfl GC.t (V.fieldAddr ig (OV.p rfl)) rfl ?_)))
  refine WL.av (oj := _) rfl rfl rfl GC.t (V.load Tryz.isAgg3 (OV.g rfl id) (fun _ => by repeat (first | exact Rd.here rfl | apply Rd.up))) rfl ?_
  refine WL.av (oj := _) rfl rfl rfl GC.t (V.geq (OV.g rfl id) (OV.p rfl)) rfl (WL.val (V.aJ (OV.p rfl) (OV.g rfl id)) rfl (WL.mv rfl rfl (WL.av (oj := _) rfl rfl rfl GC.t (V.fieldAddr ig (OV.p rfl)) rfl ?_)))
  refine WL.av (oj := _) rfl rfl rfl GC.t (V.load Tryz.isAgg3 (OV.g rfl id) (fun _ => by repeat (first | exact Rd.here rfl | apply Rd.up))) rfl ?_
  refine WL.av (oj := _) rfl rfl rfl GC.t (V.leq (OV.g rfl id) (OV.p rfl)) rfl (WL.val (V.aJ (OV.p rfl) (OV.g rfl id)) rfl (WL.mv rfl rfl (WL.av (oj := _) rfl rfl rfl GC.t (V.fieldAddr ig (OV.p rfl)) rfl ?_)))
  refine WL.av (oj := _) rfl rfl rfl GC.t (V.load Tryz.isAgg3 (OV.g rfl id) (fun _ => by repeat (first | exact Rd.here rfl | apply Rd.up))) rfl ?_
  refine WL.av (oj := _) rfl rfl rfl GC.t (V.o8 (OV.g rfl id) (OV.p rfl) (fun hc => by first | omega | (simp at hc; omega))) rfl ?_
  refine WL.av (oj := _) rfl rfl rfl GC.t (V.eql (OV.g rfl id) (OV.p rfl)) rfl (WL.val (V.aJ (OV.p rfl) (OV.g rfl id)) rfl (WL.mv rfl rfl (WL.av (oj := _) rfl rfl rfl GC.t (V.fieldAddr oJ (OV.p rfl)) rfl ?_)))
  refine WL.av (oj := _) rfl rfl rfl GC.t (V.load Tryz.isAgg3 (OV.g rfl id) (fun _ => by repeat (first | exact Rd.here rfl | apply Rd.up))) rfl ?_
  refine WL.av (oj := _) rfl rfl rfl GC.t (V.geq (OV.g rfl id) (OV.p rfl)) rfl (WL.val (V.aJ (OV.p rfl) (OV.g rfl id)) rfl (WL.mv rfl rfl (WL.av (oj := _) rfl rfl rfl GC.t (V.fieldAddr oJ (OV.p rfl)) rfl ?_)))
  refine WL.av (oj := _) rfl rfl rfl GC.t (V.load Tryz.isAgg3 (OV.g rfl id) (fun _ => by repeat (first | exact Rd.here rfl | apply Rd.up))) rfl ?_
  refine WL.av (oj := _) rfl rfl rfl GC.t (V.leq (OV.g rfl id) (OV.p rfl)) rfl (WL.val (V.aJ (OV.p rfl) (OV.g rfl id)) rfl (WL.mv rfl rfl (WL.av (oj := _) rfl rfl rfl GC.t (V.fieldAddr oL (OV.p rfl)) rfl ?_)))
  refine WL.av (oj := _) rfl rfl rfl GC.t (V.load Tryz.isAgg3 (OV.g rfl id) (fun _ => by repeat (first | exact Rd.here rfl | apply Rd.up))) rfl ?_
  refine WL.av (oj := _) rfl rfl rfl GC.t (V.fieldAddr ig (OV.p rfl)) rfl ?_
  refine WL.av (oj := _) rfl rfl rfl GC.t (V.load Tryz.isAgg3 (OV.g rfl id) (fun _ => by repeat (first | exact Rd.here rfl | apply Rd.up))) rfl ?_
  refine WL.av (oj := _) rfl rfl rfl GC.t (V.jF (OV.g rfl id) (OV.g rfl id) (fun hc => by simp at hc; have := Geo.uh (a := g.se) (b := g.sb) (A := 8) (B := 512) (by omega) (by omega) (by omega) (by omega); omega)) rfl ?_
  refine WL.av (oj := _) rfl rfl rfl GC.t (V.geq (OV.g rfl id) (OV.p rfl)) rfl (WL.val (V.aJ (OV.p rfl) (OV.g rfl id)) rfl (WL.sg rfl rfl (WL.nil (WC.ret ?_))))
  refine au.ret (H' := F) (aO.tmp rfl rfl) (fun w h => by repeat (first | exact h | replace h := h.tail)) ⟨?_, rfl⟩
  congr 1
  rw [Bool.eq_iff_iff]
  unfold Geo.may
  rw [decide_eq_true_eq]
  unfold Geo.aD
  simp
  omega
theorem zN (g : Geo) (h : g.aD) (K : World) (F : List ak) : aL Tryz.prog 44 #[g.v] K F (.int .i64 g.room) := by
  have hb := h
  unfold Geo.aD at hb
  have := Geo.uh (a := g.se) (b := g.sb) (A := 8) (B := 512) (by omega) (by omega) (by omega) (by omega)
  refine Does.enter Tryz.func44 rfl Tryz.ntmps44 rfl ?_
  simp only [aI, Nat.reduceAdd]
  refine WC.sr ?_
  refine WL.box (cs := [_, _, _, _, _]) (OV.p rfl) rfl rfl (fun b1 => ?_)
  refine WL.sg rfl rfl (WL.nil (WC.sr (WL.val (V.fieldAddr oL (OV.p rfl)) rfl (WL.ld Tryz.isAgg3 rfl rfl ?_))))
  refine WL.val (V.fieldAddr ig (OV.p rfl)) rfl (WL.ld Tryz.isAgg3 rfl rfl ?_)
  refine WL.val (V.jF (OV.p rfl) (OV.p rfl) (fun hc => by first | omega | (simp at hc; omega))) rfl ?_
  refine WL.sg rfl rfl (WL.nil (WC.ret ?_))
  exact au.ret (H' := F) (aO.tmp rfl rfl) (fun w h => by repeat (first | exact h | replace h := h.tail)) ⟨rfl, rfl⟩
def Geo.small (g : Geo) : Bool := !g.may || (decide (g.room ≤ 32) && decide (g.bl ≤ 16) && decide (g.pg ≤ 8))
open Go.Sl Go.ChangeShapes Go.WideShapes Go.ChangeAt Go.RowKit
theorem Dk : ownKnob Tryz.prog.godebug = none := by kernel_rfl
theorem yZ : laidOutB Tryz.prog = true := by kernel_rfl
theorem jX {P : Program} {W : World} {r : Reach} {base : Nat} {t : TypeId} {k : IntKind} {v : Value} (hu : P.underlying t = some (.int k)) (h : Value.okWide P W r base t v) : ∃ i, v = .int k i ∧ k.min ≤ i ∧ i ≤ k.max := by
  have h' : Cell.okWide P W r base t v := by simpa only [Value.okWide, hu] using h
  exact (KS h').int hu
set_option maxRecDepth 100000 in
theorem uK {W : World} {r : Reach} {base : Nat} {v : Value} (h : Value.okWide Tryz.prog W r base 23 v) : ∃ g : Geo, v = g.v := by
  obtain ⟨cs, rfl, hsz, hc⟩ := KZ (ts := [3, 3, 3, 3, 3]) ⟨_, Tryz.underlying23, .inl ⟨_, rfl⟩⟩ (by kernel_rfl) (by kernel_rfl) h
  obtain ⟨l⟩ := cs
  match l, hsz with
  | [c0, c1, c2, c3, c4], _ =>
    obtain ⟨x0, rfl, _⟩ := (hc 0 _ c0 rfl rfl).int Tryz.underlying3
    obtain ⟨x1, rfl, _⟩ := (hc 1 _ c1 rfl rfl).int Tryz.underlying3
    obtain ⟨x2, rfl, _⟩ := (hc 2 _ c2 rfl rfl).int Tryz.underlying3
    obtain ⟨x3, rfl, _⟩ := (hc 3 _ c3 rfl rfl).int Tryz.underlying3
    obtain ⟨x4, rfl, _⟩ := (hc 4 _ c4 rfl rfl).int Tryz.underlying3
    exact ⟨⟨x0, x1, x2, x3, x4⟩, rfl⟩
end Go.Proofs.YtcmojpiokjhmhaaGreat
namespace Go.Sl
open Go.RowKit Go.BigFrame
set_option linter.unusedVariables false
set_option linter.unusedSimpArgs false
section
variable {Mo : Mode} {P : Program} {K : World} {n : Nat} {Q : Post} {e : Env} {H : List ak} {c : Bool} {dst : Option Tmp} {ty : TypeId} {pos : String} {af : Array Edge} {gd : Option (Nat × Bool)} {ops : Array Oper} {rest : List Oper}
theorem Does.ex {α : Type} {f : FuncId} {args : Array Value} {post : Value → List ak → Prop} {p : α → Prop} {M : α → List ak} (hx : ∀ w, Sat K w H → ∃ a, p a ∧ Sat K w (M a)) (h : ∀ a, p a → Does P f args K (M a) post) : Does P f args K H post := fun w hw => by
  obtain ⟨a, h1, h2⟩ := hx w hw
  exact h a h1 w h2
theorem WL.ex {α : Type} {p : α → Prop} {M : α → List ak} (hx : ∀ w, Sat K w H → ∃ a, p a ∧ Sat K w (M a)) (h : ∀ a, p a → WL Mo P K n ops rest Q e (M a)) : WL Mo P K n ops rest Q e H := fun a w ha hw => by
  obtain ⟨x, h1, h2⟩ := hx w hw
  exact h x h1 a w ha h2
theorem WC.ex {code : Code} {α : Type} {p : α → Prop} {M : α → List ak} (hx : ∀ w, Sat K w H → ∃ a, p a ∧ Sat K w (M a)) (h : ∀ a, p a → WC Mo P K n code Q e (M a)) : WC Mo P K n code Q e H := fun a w ha hw => by
  obtain ⟨x, h1, h2⟩ := hx w hw
  exact h x h1 a w ha h2
theorem WL.have_ {p : Prop} (hp : ∀ w, Sat K w H → p) (h : p → WL Mo P K n ops rest Q e H) : WL Mo P K n ops rest Q e H := fun a w ha hw => h (hp w hw) a w ha hw
theorem WC.have_ {code : Code} {p : Prop} (hp : ∀ w, Sat K w H → p) (h : p → WC Mo P K n code Q e H) : WC Mo P K n code Q e H := fun a w ha hw => h (hp w hw) a w ha hw
theorem aU.addr {a : Addr} {m cap E s : Nat} {cs : List Value} {w : World} (h : Sat K w (aU (.slice (some a) m cap) E s m cs :: H)) : ∃ g, a = ⟨g, 0, none⟩ := by
  rcases h.head.2 with ⟨h1, _⟩ | ⟨g, cap', cur, h1, _⟩
  · cases h1
  · simp only [Value.slice.injEq, Option.some.injEq] at h1
    exact ⟨g, h1.1⟩
theorem aU.sM {m cap E s : Nat} {cs : List Value} {w : World} (h : Sat K w (aU (.slice none m cap) E s m cs :: H)) : m = 0 ∧ cap = 0 ∧ cs = [] := by
  rcases h.head.2 with ⟨h1, h2⟩ | ⟨g, cap', cur, h1, _⟩
  · simp only [Value.slice.injEq] at h1
    exact ⟨h1.2.1, h1.2.2, List.eq_nil_of_length_eq_zero (by rw [h.head.1, h2, Nat.zero_mul])⟩
  · simp at h1
theorem aU.len {v : Value} {m E s : Nat} {cs : List Value} {w : World} (h : Sat K w (aU v E s m cs :: H)) : cs.length = m * s := h.head.1
theorem Sat.kH {w : World} {g E s m cap : Nat} {cs : List Value} (hw : Sat K w (aU (.slice (some ⟨g, 0, none⟩) m cap) E s m cs :: H)) :
    ∃ rest : List Value, ((cs ++ rest).length = cap * s ∧ cs.length = m * s ∧ m ≤ cap ∧ cap ≤ maxLen) ∧ Sat K w (Cells g E (cs ++ rest) :: H) := by
  obtain ⟨h1, h2⟩ := hw.head
  rcases h2 with ⟨h2, _⟩ | ⟨g', cap', cur, h2, _, h3, h4, h5, h6, h7⟩
  · cases h2
  · simp only [Value.slice.injEq, Option.some.injEq, Addr.mk.injEq] at h2
    obtain ⟨⟨rfl, _⟩, _, rfl⟩ := h2
    have Qt : cs ++ cur.toList.drop (m * s) = cur.toList := by rw [← h7, List.take_append_drop]
    refine ⟨cur.toList.drop (m * s), ⟨by rw [Qt, Array.length_toList, h6], h1, h4, h5⟩, hw.1, ?_, fun x hx => ?_, fun x hx B hB hb' => ?_, hw.2.tail⟩
    · rw [Qt]
      simp only [Cells, Array.toArray_toList]
      exact h3
    · simp only [Cells] at hx
      subst hx
      exact hw.2.2.1 _ (by simp [aU, Value.ownBlock])
    · simp only [Cells] at hx
      subst hx
      exact hw.2.2.2.1 _ (by simp [aU, Value.ownBlock]) B hB hb'
theorem WL.LH {x : Operand} {T E b o q cap : Nat} {z : Value} {A : Option Addr} {H' : List ak} (hT : P.underlying T = some (.slice E)) (hz : ∀ w, (zeroValue E).run P w = .ok z w) (hzc : z.cells = #[z]) (h1 : z.oneCell' = true)
    (hx : OV true e x (.slice A q cap)) (hA : q ≠ 0 → A = some ⟨b, o, none⟩) (hu : bA K H b o (List.replicate q z) H') (h : WL Mo P K n ops rest Q e H') :
    WL Mo P K n ops (⟨none, .call ⟨.builtin .clear, #[x], #[T]⟩, ty, pos, af, none⟩ :: rest) Q e H := by
  refine WL.NC (R := fun uG => uG = H') (fun a w ha hw => ?_) (fun uG e1 => by subst e1; exact h)
  obtain ⟨k1, k2⟩ := hu.run (P := P) hw (fun v hv => by rw [List.eq_of_mem_replicate hv]; exact h1)
  refine ⟨_, H', .inr ⟨.tuple #[], ?_⟩, k2, rfl⟩
  rw [execOp_builtin, builtin_clear]
  have H6 := hx.ev rfl ha
  rcases Nat.eq_zero_or_pos q with h0 | h0
  · subst h0
    cases A <;> simp [H6, Builtin.clear_, run_underlying hT, World.setCells]
  · rw [hA (by omega)] at H6
    have hm := hu.may w hw.2
    have := Lib.run_clear_slice (P := P) w T E ty z hT hz hzc h1 b o q cap h0 (fun j hj => (hm j (by simpa using hj)).1) (fun j hj => (hm j (by simpa using hj)).2)
    simp only [List.map_toArray, List.map_cons, List.map_nil, H6]
    rw [Sem.run_bind, this]
    rfl
theorem V.Lp {x y : Operand} {T : TypeId} {s : ByteArray} {k : IntKind} {j : Int} {b : UInt8} (hT : P.underlying T = some .string) (hx : OV c e x (.string s)) (hy : OV c e y (.int k j)) (hb : c = true → 0 ≤ j ∧ s[j.toNat]? = some b) :
    Val Mo P K n c e H ⟨dst, .index T x y, ty, pos, af, gd⟩ (.int .u8 b.toNat) := fun hc a w ha hw => by
  show ((do pure (Next.value (← Instr.index T (a.eval x) (a.eval y)))) : Sem Next).run P w = _
  rw [hx.ev hc ha, hy.ev hc ha]
  obtain ⟨h1, h2⟩ := hb hc
  simp [Instr.index, asIntOf, run_underlying hT, h1, h2]
theorem bA.row {b T o : Nat} {cs vs : List Value} (ho : o + vs.length ≤ cs.length) : bA K (Cells b T cs :: H) b o vs (Cells b T (cs.take o ++ vs ++ cs.drop (o + vs.length)) :: H) := bA.here (by simpa using ho) (mG _ _ _ ho)
end
end Go.Sl
