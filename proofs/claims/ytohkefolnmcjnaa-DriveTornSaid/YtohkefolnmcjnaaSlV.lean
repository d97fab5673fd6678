/- The symbolic executor, fifteenth part: append(x, make([]T, n)...). -/
import Derived.Test.YtohkefolnmcjnaaSlQ
import Derived.Lib.AppendZeros
namespace Go.Sl
open Go.RowKit Go.BigFrame
set_option linter.unusedVariables false
set_option linter.unusedSimpArgs false

theorem zeroCells_one {z : Value} (hz : z.cells = #[z]) (n : Nat) : Builtin.zeroCells z.cells n = (List.replicate n z).toArray := by
  rw [hz]
  apply Array.ext'
  apply List.ext_getElem
  · simp [Builtin.zeroCells]
  · intro i h1 h2
    simp [Builtin.zeroCells, Nat.mod_one]
section
variable {P : Program} (w : World) (t tn ty e : TypeId) (i : TypeInfo) (z : Value) (k kn : IntKind)
theorem run_appendZ_room (ht : P.underlying t = some (.slice e)) (htn : P.underlying tn = some (.int kn)) (hi : P.info? e = some i) (hz : i.zero = some z) (hz1 : z.cells = #[z]) (h1 : z.oneCell' = true) (hsz : i.size = 1)
    (b sLen sCap n : Nat) (hroom : sLen + n ≤ sCap) (hc : ∀ j, j < n → (w.cell? ⟨b, sLen + j, none⟩).isSome = true) (hf : ∀ j, j < n → w.frozen? ⟨b, sLen + j, none⟩ = false) (hn63 : (n : Int) ≤ 1000000000) (h48 : n * i.bytes ≤ 281474976710656) :
    (Builtin.append_ #[t, tn] ty #[.slice (some ⟨b, 0, none⟩) sLen sCap, .int k n]).run P w = .ok (.slice (some ⟨b, 0, none⟩) (sLen + n) sCap) (w.setCells b sLen (List.replicate n z)) := by
  have hw : IntKind.i64.wrap (n : Int) = n := by rw [IntKind.wrap_i64]; omega
  have h48i : ¬ (281474976710656 < (n : Int) * (i.bytes : Int)) := by rw [← Int.natCast_mul]; omega
  have hneg : ¬ ((n : Int) < 0) := by omega
  have hw0 : IntKind.i64.wrap 0 = 0 := by decide
  have hst := run_storeCells_cells (P := P) b sLen (List.replicate n z) 0 w (by simpa using hc) (by simpa using hf) (by intro v hv; rw [List.eq_of_mem_replicate hv]; exact h1)
  simp only [Nat.add_zero] at hst
  have hzc := zeroCells_one hz1 n
  by_cases h0 : n = 0
  · subst h0
    simp [Builtin.append_, run_underlying ht, run_underlying htn, sizeOf, typeInfo, zeroValue, hi, hz, asInt, asIntOf, hw0, hsz, storeCells, World.setCells, show sLen ≤ sCap by omega, add_mk]
  · simp [Builtin.append_, run_underlying ht, run_underlying htn, sizeOf, typeInfo, zeroValue, hi, hz, asInt, asIntOf, hw, hneg, h0, hsz, h48i, hroom, hzc, add_mk, hst]
theorem run_appendZ_grow (ht : P.underlying t = some (.slice e)) (htn : P.underlying tn = some (.int kn)) (hi : P.info? e = some i) (hz : i.zero = some z) (hz1 : z.cells = #[z]) (hsz : i.size = 1)
    (base : Option Addr) (sLen sCap n : Nat) (olds : List Value) (hold : (Builtin.firstCells 1 sLen (.slice base sLen sCap)).run P w.drew = .ok olds.toArray w.drew) (hg : sCap < sLen + n) (hn63 : (sLen + n : Int) ≤ 1000000000) (h48 : (sLen + n) * i.bytes ≤ 140737488355328) :
    (Builtin.append_ #[t, tn] ty #[.slice base sLen sCap, .int k n]).run P w = .ok (.slice (some ⟨w.heap.size, 0, none⟩) (sLen + n) (grownCap w (sLen + n) sCap e))
      (w.drew.alloc (.cells ((olds ++ List.replicate n z).toArray ++ Builtin.zeroCells z.cells (grownCap w (sLen + n) sCap e - (sLen + n))) e)) := by
  have hw : IntKind.i64.wrap (n : Int) = n := by rw [IntKind.wrap_i64]; omega
  have hnb : n * i.bytes ≤ (sLen + n) * i.bytes := Nat.mul_le_mul_right _ (by omega)
  have h48i : ¬ (281474976710656 < (n : Int) * (i.bytes : Int)) := by rw [← Int.natCast_mul]; omega
  have hneg : ¬ ((n : Int) < 0) := by omega
  have hw0 : IntKind.i64.wrap 0 = 0 := by decide
  have hfit := growslice_fits hg h48
  have h48' : ¬ (281474976710656 < Builtin.nextslicecap (sLen + n) sCap * i.bytes) := by omega
  have hnr : ¬ (sLen + n ≤ sCap) := by omega
  have h63' : ¬ (9223372036854775807 < ((sLen : Int) + (n : Int))) := by omega
  have hzc := zeroCells_one hz1 n
  by_cases h0 : n = 0
  · subst h0
    simp only [Nat.add_zero] at hnr h48' ⊢
    simp [Builtin.append_, run_underlying ht, run_underlying htn, sizeOf, typeInfo, zeroValue, hi, hz, asInt, asIntOf, hw0, hsz, h48', hnr, hold, Question.forced, newRow, grownCap, show ¬ (9223372036854775807 < (sLen : Int)) by omega]
  · simp [Builtin.append_, run_underlying ht, run_underlying htn, sizeOf, typeInfo, zeroValue, hi, hz, asInt, asIntOf, hw, hneg, h0, hsz, h48i, h48', h63', hnr, hzc, hold, Question.forced, newRow, grownCap]
    congr 2
    apply Array.ext'
    simp [List.append_assoc]
end
section
variable {Mo : Mode} {P : Program} {K : World} {n : Nat} {Q : Post} {e : Env} {H : List Assn} {ty : TypeId} {pos : String} {af : Array Edge} {ops : Array Oper} {rest : List Oper}
/-- append(x, make([]T, q)...), x an own slice of one-cell elements at the front of memory. -/
theorem WL.appendZ {d : Nat} {x y : Operand} {T Tn E bytes m q : Nat} {kn k : IntKind} {z v : Value} {cs : List Value} {l : Int} (hT : P.underlying T = some (.slice E)) (hTn : P.underlying Tn = some (.int kn)) (hE : ElemTy P E 1 bytes z) (hz1 : z.cells = #[z]) (h1 : z.oneCell' = true)
    (hx : OV true e x v) (hy : OV true e y (.int k l)) (hl : l = (q : Int)) (hb : (m + q) * bytes ≤ 140737488355328) (hmq : m + q ≤ 1000000000) (hd : Nat.blt d n = true)
    (h : ∀ A cap, (A = none → m + q = 0 ∧ cap = 0) → m + q ≤ cap → WL Mo P K n ops rest Q ((d, .slice A (m + q) cap) :: e) (SlA (.slice A (m + q) cap) E 1 (m + q) (cs ++ List.replicate q z) :: H)) :
    WL Mo P K n ops (⟨some d, .call ⟨.builtin .append, #[x, y], #[T, Tn]⟩, ty, pos, af, none⟩ :: rest) Q e (SlA v E 1 m cs :: H) := by
  refine WL.eff (R := fun u H' => ∃ A cap, u = .slice A (m + q) cap ∧ (A = none → m + q = 0 ∧ cap = 0) ∧ m + q ≤ cap ∧ H' = SlA (.slice A (m + q) cap) E 1 (m + q) (cs ++ List.replicate q z) :: H) (fun a w ha hw => ?_) hd (fun u H' ⟨A, cap, e1, e2, e3, e4⟩ => by subst e1 e4; exact h A cap e2 e3)
  obtain ⟨i, hi, hz, hs, hby', hzs, h0⟩ := hE
  subst hl hby'
  have hfin : ∀ v' w', (execOp a.eval ⟨some d, .call ⟨.builtin .append, #[x, y], #[T, Tn]⟩, ty, pos, af, none⟩).run P w = .ok (.value v') w' → w'.ownsRow 0 E 1 v' (m + q) (cs ++ List.replicate q z) → w.grownBy w' v.ownBlock →
      (v'.ownBlock = none ∨ v'.ownBlock = v.ownBlock ∨ v'.ownBlock = some w.heap.size) → ∃ u w'' H', (execOp a.eval ⟨some d, .call ⟨.builtin .append, #[x, y], #[T, Tn]⟩, ty, pos, af, none⟩).run P w = .ok (.value u) w'' ∧ Sat K w'' H' ∧
        ∃ A cap, u = .slice A (m + q) cap ∧ (A = none → m + q = 0 ∧ cap = 0) ∧ m + q ≤ cap ∧ H' = SlA (.slice A (m + q) cap) E 1 (m + q) (cs ++ List.replicate q z) :: H := fun v' w' hrun hown hg hat => by
    obtain ⟨A, cap, rfl, k1, _, k2⟩ := SlA.shape hown
    refine ⟨_, w', _, hrun, ⟨hw.1.grow hg.os hg.tape hg.output hg.size, ?_⟩, A, cap, rfl, k2, k1, rfl⟩
    refine hw.2.set (A' := SlA (.slice A (m + q) cap) E 1 (m + q) (cs ++ List.replicate q z)) hg.size (fun b hb' hlt => hg.block b hlt (fun e => hb' e.symm)) hown (fun b hb' => ?_)
    have hb2 : (Value.slice A (m + q) cap).ownBlock = some b := hb'
    rcases hat with h' | h' | h'
    · rw [h'] at hb2; cases hb2
    · exact .inl (h'.symm.trans hb2)
    · rw [h'] at hb2
      injection hb2 with hb2
      subst hb2
      exact .inr ⟨Nat.le_refl _, (hown.lt _ h').2⟩
  have hown : w.ownsRow 0 E 1 v m cs := hw.head
  have ev1 := hx.ev rfl ha
  have ev2 := hy.ev rfl ha
  have hrun0 : ∀ r w', (Builtin.append_ #[T, Tn] ty #[v, .int k q]).run P w = .ok r w' → (execOp a.eval ⟨some d, .call ⟨.builtin .append, #[x, y], #[T, Tn]⟩, ty, pos, af, none⟩).run P w = .ok (.value r) w' := fun r w' hr => by
    rw [execOp_builtin, builtin_append]
    simp [ev1, ev2, hr]
  have hcl : cs.length = m := by have := hown.1; omega
  have hmax : (1000000000 : Nat) ≤ maxLen := by simp only [maxLen]; decide
  have grown : ∀ (old : Nat), old < m + q → ∀ (row : Option Nat),
      (w.drew.alloc (.cells ((cs ++ List.replicate q z).toArray ++ Builtin.zeroCells z.cells (grownCap w (m + q) old E - (m + q))) E)).ownsRow 0 E 1 (.slice (some ⟨w.heap.size, 0, none⟩) (m + q) (grownCap w (m + q) old E)) (m + q) (cs ++ List.replicate q z) ∧
      w.grownBy (w.drew.alloc (.cells ((cs ++ List.replicate q z).toArray ++ Builtin.zeroCells z.cells (grownCap w (m + q) old E - (m + q))) E)) row := by
    intro old ho row
    have hge := grownCap_ge w (m + q) old E
    have hcm : grownCap w (m + q) old E ≤ maxLen := grownCap_le_maxLen w (m + q) old E (by omega)
    refine ⟨⟨by simp [hcl], .inr ⟨w.heap.size, _, _, rfl, Nat.zero_le _, heap_alloc_new w.drew _, hge, hcm, ?_, ?_⟩⟩, ⟨rfl, rfl, rfl, by simp, fun k hk _ => heap_alloc_old w.drew _ hk⟩⟩
    · simp only [Array.size_append, List.size_toArray, size_zeroCells, hzs, List.length_append, List.length_replicate, hcl, Nat.mul_one]
      omega
    · have hlen : (m + q) * 1 = (cs ++ List.replicate q z).length := by simp [hcl]
      rw [hlen]
      simp only [Array.toList_append]
      exact List.take_left
  rcases hown.2 with ⟨rfl, rfl⟩ | ⟨g, cap, cur, rfl, hbg, hg, hnc, hcm, hcs, htake⟩
  · have hx : cs = [] := List.eq_nil_of_length_eq_zero hcl
    subst hx
    by_cases hm : q = 0
    · subst hm
      refine hfin (.slice none 0 0) w (hrun0 _ w ?_) (by simpa using World.ownsRow_nil w 0 E 1) ⟨rfl, rfl, rfl, Nat.le_refl _, fun _ _ _ => rfl⟩ (.inr (.inl rfl))
      simp [Builtin.append_, run_underlying hT, run_underlying hTn, sizeOf, typeInfo, hi, asInt, asIntOf, IntKind.wrap_i64, storeCells, hs]
    · have hr := run_appendZ_grow (P := P) w T Tn ty E i z k kn hT hTn hi hz hz1 hs none 0 0 q [] (by simp [Builtin.firstCells]) (by omega) (by omega) (by simpa using hb)
      have hgr := grown 0 (by omega) (Value.ownBlock (.slice none 0 0))
      simp only [Nat.zero_add] at hr hgr
      exact hfin _ _ (hrun0 _ _ hr) (by simpa using hgr.1) hgr.2 (.inr (.inr rfl))
  · by_cases hroom : m + q ≤ cap
    · have hsz : cur.size = cap := by omega
      have hcell : ∀ j (hj : j < q), w.cell? ⟨g, m + j, none⟩ = some (cur[m + j]'(by omega)) := fun j hj => by simp [World.cell?, hg, show m + j < cur.size by omega]
      have hr := run_appendZ_room (P := P) w T Tn ty E i z k kn hT hTn hi hz hz1 h1 hs g m cap q hroom (fun j hj => by rw [hcell j hj]; rfl) (fun j hj => by simp [World.frozen?, hg]) (by omega) (by have := Nat.mul_le_mul_right i.bytes (show q ≤ m + q by omega); omega)
      obtain ⟨e1, e2, e3, e4⟩ := same_setCells g (List.replicate q z) m w
      have hh := heap_setCells g E (0, 0) (List.replicate q z) m w cur.toList (by simpa using hg)
      have hss := setL_append cur.toList (List.replicate q z) m (by simp; omega)
      refine hfin _ _ (hrun0 _ _ hr) ⟨by simp [hcl], .inr ⟨g, cap, (setL cur.toList m (List.replicate q z)).toArray, rfl, Nat.zero_le _, hh, hroom, hcm, ?_, ?_⟩⟩ ⟨e1, e2, e3, Nat.le_of_eq e4.symm, fun k hk hne => heap_setCells_ne g k (fun e => hne (by simp [Value.ownBlock, e])) _ _ _⟩ (.inr (.inl rfl))
      · simp [length_setL]; omega
      · rw [List.toList_toArray] 
        rw [hss, Nat.mul_one, show cur.toList.take m = cs by rw [← htake, Nat.mul_one], List.take_left' (by simp [hcl])]
    · have hold : (Builtin.firstCells 1 m (.slice (some ⟨g, 0, none⟩) m cap)).run P w.drew = .ok cs.toArray w.drew := by
        have hc := hown.cells (g := g) rfl
        have := run_loadCells_list (P := P) w.drew ⟨g, 0, none⟩ cs (fun j v hj => hc j v hj)
        rw [hcl] at this
        simpa [Builtin.firstCells] using this
      have hr := run_appendZ_grow (P := P) w T Tn ty E i z k kn hT hTn hi hz hz1 hs (some ⟨g, 0, none⟩) m cap q cs hold (by omega) (by omega) hb
      have hgr := grown cap (by omega) (Value.ownBlock (.slice (some ⟨g, 0, none⟩) m cap))
      exact hfin _ _ (hrun0 _ _ hr) hgr.1 hgr.2 (.inr (.inr rfl))
end
section
variable {Mo : Mode} {P : Program} {K : World} {n : Nat} {e : Env} {H : List Assn} {c : Bool} {dst : Option Tmp} {ty : TypeId} {pos : String} {af : Array Edge} {gd : Option (Nat × Bool)}
theorem V.negI {x : Operand} {t : TypeId} {i : Int} (hx : OV c e x (.int .i64 i)) (h : c = true → -9223372036854775807 ≤ i ∧ i ≤ 9223372036854775807) : Val Mo P K n c e H ⟨dst, .unOp .neg t x, ty, pos, af, gd⟩ (.int .i64 (-i)) := fun hc a w ha _ => by
  show ((do pure (Next.value (← Op.unary .neg (a.eval x)))) : Sem Next).run P w = _
  rw [hx.ev hc ha]
  have h1 := h hc
  have h2 : IntKind.i64.wrap (-i) = -i := by rw [IntKind.wrap_i64]; omega
  simp [Op.unary, Op.intArith, h2]
end
end Go.Sl
