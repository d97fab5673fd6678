import Derived.Test.YtcmojpiokjhmhaaGreatP7
import Derived.Test.YtcmojpiokjhmhaaGreatP4
import Derived.Lib.AppendZeros
import Derived.Test.YtcmojpiokjhmhaaGreatP10
namespace Go.Proofs.YtcmojpiokjhmhaaGreat
open Go.Sl Go.RowKit
set_option linter.unusedVariables false
set_option linter.unusedSimpArgs false
set_option maxRecDepth 20000
theorem lu {xs : List Nat} {i j x : Nat} : (xs.set i x).getD j 0 = if i = j ∧ j < xs.length then x else xs.getD j 0 := by
  simp only [List.getD, List.getElem?_set]
  by_cases h : i = j
  · subst h
    by_cases hl : i < xs.length
    · simp [hl]
    · simp [hl, List.getElem?_eq_none (Nat.le_of_not_lt hl)]
  · simp [h]
theorem iT {x s i : Nat} : (x * 2 ^ s).testBit i = (decide (s ≤ i) && x.testBit (i - s)) := by
  rw [← Nat.shiftLeft_eq, Nat.testBit_shiftLeft]
theorem p9 {x i : Nat} (h : i < 8) : (x % 256).testBit i = x.testBit i := by
  rw [show (256 : Nat) = 2 ^ 8 from rfl, Nat.testBit_mod_two_pow]; simp [h]
theorem qD {x i : Nat} : (x / 256).testBit i = x.testBit (8 + i) := by
  rw [show (256 : Nat) = 2 ^ 8 from rfl, Nat.testBit_div_two_pow, Nat.add_comm]
theorem iH {x i : Nat} (hx : x < 256) (hi : 8 ≤ i) : x.testBit i = false := Nat.testBit_lt_two_pow (Nat.lt_of_lt_of_le hx (Nat.pow_le_pow_right (n := 2) (by decide) hi))
theorem iq {xs : List Nat} {k : Nat} (h : 8 * xs.length ≤ k) : aS xs k = false := by
  unfold aS
  rw [show xs.getD (k / 8) 0 = 0 by rw [List.getD, List.getElem?_eq_none (by omega)]; rfl]
  exact Nat.zero_testBit _
theorem pY {out p : List Nat} {at_ : Nat} (ho : Small 256 out) (hp : Small 256 p) : ∀ (j : Nat), j + at_ / 8 < out.length → ∀ k, aS (jk out p at_ j) k = (aS out k ^^ (decide (at_ ≤ k) && decide (k - at_ < 8 * j) && aS p (k - at_)))
  | 0, _, k => by simp [-List.getD_eq_getElem?_getD, jk]
  | j + 1, hj, k => by
    have ih := pY (at_ := at_) ho hp j (by omega) k
    have hlen := jA out p at_ j
    have P5 := hp.at_ (by decide) j
    have hw : ∀ i, (p.getD j 0 * 2 ^ (at_ % 8)).testBit i = (decide (at_ % 8 ≤ i) && (p.getD j 0).testBit (i - at_ % 8)) := fun i => iT
    have Qx : ¬ 255 < p.getD j 0 * 2 ^ (at_ % 8) → p.getD j 0 * 2 ^ (at_ % 8) / 256 = 0 := fun h => by omega
    have hbit : ∀ o : List Nat, o = jk out p at_ j → aS (jk out p at_ (j + 1)) k = (aS o k ^^ ((decide (k / 8 = j + at_ / 8) && (p.getD j 0 * 2 ^ (at_ % 8)).testBit (k % 8)) || (decide (k / 8 = j + at_ / 8 + 1) && (p.getD j 0 * 2 ^ (at_ % 8)).testBit (8 + k % 8)))) := by
      intro o hoe
      have Qy : k % 8 < 8 := Nat.mod_lt _ (by decide)
      have hol : o.length = out.length := by rw [hoe]; exact hlen
      rw [jk, ← hoe]
      split
      · unfold aS
        simp only [lu, List.length_set]
        by_cases h1 : j + at_ / 8 + 1 = k / 8
        · rw [if_pos ⟨h1, by omega⟩, if_neg (by omega), Nat.testBit_xor, qD]
          have e1 : ¬ k / 8 = j + at_ / 8 := by omega
          simp [-List.getD_eq_getElem?_getD, e1, ← h1]
        · rw [if_neg (by omega)]
          by_cases h2 : j + at_ / 8 = k / 8
          · rw [if_pos ⟨h2, by omega⟩, Nat.testBit_xor, p9 Qy]
            have e1 : ¬ k / 8 = j + at_ / 8 + 1 := by omega
            simp [-List.getD_eq_getElem?_getD, e1, ← h2]
          · rw [if_neg (by omega)]
            have e1 : ¬ k / 8 = j + at_ / 8 + 1 := by omega
            have e2 : ¬ k / 8 = j + at_ / 8 := by omega
            simp [-List.getD_eq_getElem?_getD, e1, e2]
      · rename_i hs
        unfold aS
        rw [lu]
        have hz : (p.getD j 0 * 2 ^ (at_ % 8)).testBit (8 + k % 8) = false := by rw [← qD, Qx hs]; exact Nat.zero_testBit _
        by_cases h2 : j + at_ / 8 = k / 8
        · rw [if_pos ⟨h2, by omega⟩, Nat.testBit_xor, p9 Qy]
          simp [-List.getD_eq_getElem?_getD, hz, ← h2]
        · rw [if_neg (by omega)]
          have e2 : ¬ k / 8 = j + at_ / 8 := by omega
          simp [-List.getD_eq_getElem?_getD, hz, e2]
    rw [hbit _ rfl, ih, Bool.xor_assoc]
    congr 1
    rw [hw, hw]
    by_cases hka : at_ ≤ k
    · obtain ⟨r, hr⟩ : ∃ r, r = k - at_ := ⟨_, rfl⟩
      rw [← hr]
      by_cases h1 : k / 8 = j + at_ / 8
      · have e1 : ¬ k / 8 = j + at_ / 8 + 1 := by omega
        by_cases h2 : at_ % 8 ≤ k % 8
        · have PX : r / 8 = j := by omega
          have hrm : r % 8 = k % 8 - at_ % 8 := by omega
          have hbp : aS p r = (p.getD j 0).testBit (k % 8 - at_ % 8) := by unfold aS; rw [PX, hrm]
          have e3 : ¬ r < 8 * j := by omega
          have e4 : r < 8 * (j + 1) := by omega
          simp [-List.getD_eq_getElem?_getD, h1, e1, h2, hka, hbp, e3, e4]
        · have e3 : (r < 8 * j ↔ r < 8 * (j + 1)) := by omega
          have e5 : decide (r < 8 * (j + 1)) = decide (r < 8 * j) := decide_eq_decide.2 e3.symm
          simp [-List.getD_eq_getElem?_getD, h1, e1, h2, hka, e5]
      · by_cases h3 : k / 8 = j + at_ / 8 + 1
        · have h8 : at_ % 8 ≤ 8 + k % 8 := by omega
          by_cases h4 : 8 + k % 8 - at_ % 8 < 8
          · have PX : r / 8 = j := by omega
            have hrm : r % 8 = 8 + k % 8 - at_ % 8 := by omega
            have hbp : aS p r = (p.getD j 0).testBit (8 + k % 8 - at_ % 8) := by unfold aS; rw [PX, hrm]
            have e3 : ¬ r < 8 * j := by omega
            have e4 : r < 8 * (j + 1) := by omega
            simp [-List.getD_eq_getElem?_getD, h1, h3, h8, hka, hbp, e3, e4]
          · have hz := iH P5 (i := 8 + k % 8 - at_ % 8) (by omega)
            have e3 : ¬ r < 8 * j := by omega
            have e4 : ¬ r < 8 * (j + 1) := by omega
            simp [-List.getD_eq_getElem?_getD, h1, h3, hz, e3, e4]
        · have e5 : decide (r < 8 * (j + 1)) = decide (r < 8 * j) := decide_eq_decide.2 (by omega)
          simp [-List.getD_eq_getElem?_getD, h1, h3, e5]
    · have e1 : (decide (k / 8 = j + at_ / 8) && (decide (at_ % 8 ≤ k % 8) && (p.getD j 0).testBit (k % 8 - at_ % 8))) = false := by
        by_cases h1 : k / 8 = j + at_ / 8
        · have : ¬ at_ % 8 ≤ k % 8 := by omega
          simp [-List.getD_eq_getElem?_getD, this]
        · simp [-List.getD_eq_getElem?_getD, h1]
      have e2 : ¬ k / 8 = j + at_ / 8 + 1 := by omega
      simp [-List.getD_eq_getElem?_getD, hka, e1, e2]
def GJ (q : List Nat) (d : Nat) : Prop := aS q d = true ∧ ∀ k, d < k → aS q k = false
theorem wO {p q : List Nat} {lq d : Nat} (hp : Small 256 p) (hq : Small 256 q) (hlq : q.length = lq) (hld : lq = d / 8 + 1) (hd : GJ q d) : ∀ k, k ≤ 8 * p.length - d → ∀ b, 8 * p.length - k ≤ b → aS (eB p q lq d k) b = false
  | 0, _, b, hb => by
    rw [eB]
    unfold aS
    by_cases h : b / 8 = p.length
    · have e : (p ++ [0]).getD (b / 8) 0 = (0 : Nat) := by rw [h]; simp [List.getD]
      rw [e]; exact Nat.zero_testBit _
    · have e : (p ++ [0]).getD (b / 8) 0 = (0 : Nat) := by rw [List.getD, List.getElem?_eq_none (by simp; omega)]; rfl
      rw [e]; exact Nat.zero_testBit _
  | k + 1, hk, b, hb => by
    have ih := wO hp hq hlq hld hd k (by omega)
    subst hlq
    rw [eB]
    split
    · rename_i hbit
      rw [pY (gu hp hq k) hq _ (by rw [dO]; omega)]
      obtain ⟨i, hi⟩ : ∃ i, i = 8 * p.length - 1 - k := ⟨_, rfl⟩
      rw [← hi] at hbit ⊢
      by_cases h1 : b = i
      · subst h1
        have e1 : b - (b - d) = d := by omega
        rw [hbit, e1, hd.1]
        have e2 : b - d ≤ b := by omega
        have e3 : d < 8 * q.length := by omega
        simp [e2, e3]
      · rw [ih b (by omega), hd.2 (b - (i - d)) (by omega)]
        simp
    · rename_i hbit
      by_cases h1 : b = 8 * p.length - 1 - k
      · subst h1; simpa using hbit
      · exact ih b (by omega)
theorem Ch {p q : List Nat} {lq d : Nat} (hp : Small 256 p) (hq : Small 256 q) (hlq : q.length = lq) (hld : lq = d / 8 + 1) (hd : GJ q d) {b : Nat} (hb : d ≤ b) : aS (eB p q lq d (8 * p.length - d)) b = false := by
  by_cases h : d ≤ 8 * p.length
  · exact wO hp hq hlq hld hd _ (Nat.le_refl _) b (by omega)
  · have := wO hp hq hlq hld hd 0 (Nat.zero_le _) b (by omega)
    rwa [show 8 * p.length - d = 0 by omega]
theorem vD {xs : List Nat} {b : Nat} (hx : Small 256 xs) (h : ∀ k, b ≤ k → aS xs k = false) : ∀ n, aF xs n ≤ (b + 7) / 8
  | 0 => Nat.zero_le _
  | n + 1 => by
    rw [aF]
    split
    · exact vD hx h n
    · rename_i hne
      rcases Nat.lt_or_ge n ((b + 7) / 8) with h1 | h1
      · omega
      · exfalso
        apply hne
        apply Nat.eq_of_testBit_eq
        intro i
        rw [Nat.zero_testBit]
        by_cases hi : i < 8
        · have := h (8 * n + i) (by omega)
          unfold aS at this
          rwa [show (8 * n + i) / 8 = n by omega, show (8 * n + i) % 8 = i by omega] at this
        · exact iH (hx.at_ (by decide) _) (by omega)
def Fw (t : Nat) : Bool := decide (Ht (dJ t) (dJ t).length = ((13 * t : Nat) : Int)) && decide (aF (dJ t) (dJ t).length = 13 * t / 8 + 1) && decide ((dJ t).length = 13 * t / 8 + 1) && aS (dJ t) (13 * t) && (List.range (8 * (dJ t).length)).all (fun k => decide (k ≤ 13 * t) || !aS (dJ t) k) && (dJ t).all (fun x => decide (x < 256))
theorem N8 : [1, 2, 3, 4, 5, 6, 7, 8].all Fw = true := by kernel_rfl
theorem nE {t : Nat} (ht : 1 ≤ t ∧ t ≤ 8) : Ht (dJ t) (dJ t).length = ((13 * t : Nat) : Int) ∧ aF (dJ t) (dJ t).length = 13 * t / 8 + 1 ∧ (dJ t).length = 13 * t / 8 + 1 ∧ GJ (dJ t) (13 * t) ∧ Small 256 (dJ t) := by
  have h := List.all_eq_true.1 N8 t (by simp only [List.mem_cons, List.not_mem_nil, or_false]; omega)
  simp only [Fw, Bool.and_eq_true, decide_eq_true_eq, List.all_eq_true, List.mem_range, Bool.or_eq_true, Bool.not_eq_true'] at h
  obtain ⟨⟨⟨⟨⟨h1, h2⟩, h3⟩, h4⟩, h5⟩, h6⟩ := h
  refine ⟨h1, h2, h3, ⟨h4, fun k hk => ?_⟩, h6⟩
  rcases Nat.lt_or_ge k (8 * (dJ t).length) with h | h
  · rcases h5 k h with h' | h'
    · omega
    · exact h'
  · exact iq h
end Go.Proofs.YtcmojpiokjhmhaaGreat
namespace Go.Sl
open Go.RowKit Go.BigFrame
set_option linter.unusedVariables false
set_option linter.unusedSimpArgs false
theorem sI {z : Value} (hz : z.cells = #[z]) (n : Nat) : Builtin.zeroCells z.cells n = (List.replicate n z).toArray := by
  rw [hz]
  apply Array.ext'
  apply List.ext_getElem
  · simp [Builtin.zeroCells]
  · intro i h1 h2
    simp [Builtin.zeroCells, Nat.mod_one]
section
variable {P : Program} (w : World) (t tn ty e : TypeId) (i : TypeInfo) (z : Value) (k kn : IntKind)
theorem wG (ht : P.underlying t = some (.slice e)) (htn : P.underlying tn = some (.int kn)) (hi : P.info? e = some i) (hz : i.zero = some z) (hz1 : z.cells = #[z]) (h1 : z.oneCell' = true) (hsz : i.size = 1)
    (b sLen sCap n : Nat) (hroom : sLen + n ≤ sCap) (hc : ∀ j, j < n → (w.cell? ⟨b, sLen + j, none⟩).isSome = true) (hf : ∀ j, j < n → w.frozen? ⟨b, sLen + j, none⟩ = false) (hn63 : (n : Int) ≤ 1000000000) (h48 : n * i.bytes ≤ 281474976710656) :
    (Builtin.append_ #[t, tn] ty #[.slice (some ⟨b, 0, none⟩) sLen sCap, .int k n]).run P w = .ok (.slice (some ⟨b, 0, none⟩) (sLen + n) sCap) (w.setCells b sLen (List.replicate n z)) := by
  have hw : IntKind.i64.wrap (n : Int) = n := by rw [IntKind.wrap_i64]; omega
  have h48i : ¬ (281474976710656 < (n : Int) * (i.bytes : Int)) := by rw [← Int.natCast_mul]; omega
  have hneg : ¬ ((n : Int) < 0) := by omega
  have hw0 : IntKind.i64.wrap 0 = 0 := by decide
  have hst := run_storeCells_cells (P := P) b sLen (List.replicate n z) 0 w (by simpa using hc) (by simpa using hf) (by intro v hv; rw [List.eq_of_mem_replicate hv]; exact h1)
  simp only [Nat.add_zero] at hst
  have hzc := sI hz1 n
  by_cases h0 : n = 0
  · subst h0
    simp [Builtin.append_, run_underlying ht, run_underlying htn, sizeOf, typeInfo, zeroValue, hi, hz, asInt, asIntOf, hw0, hsz, storeCells, World.setCells, show sLen ≤ sCap by omega, gL]
  · simp [Builtin.append_, run_underlying ht, run_underlying htn, sizeOf, typeInfo, zeroValue, hi, hz, asInt, asIntOf, hw, hneg, h0, hsz, h48i, hroom, hzc, gL, hst]
theorem nI (ht : P.underlying t = some (.slice e)) (htn : P.underlying tn = some (.int kn)) (hi : P.info? e = some i) (hz : i.zero = some z) (hz1 : z.cells = #[z]) (hsz : i.size = 1)
    (base : Option Addr) (sLen sCap n : Nat) (olds : List Value) (hold : (Builtin.firstCells 1 sLen (.slice base sLen sCap)).run P w.drew = .ok olds.toArray w.drew) (hg : sCap < sLen + n) (hn63 : (sLen + n : Int) ≤ 1000000000) (h48 : (sLen + n) * i.bytes ≤ 140737488355328) :
    (Builtin.append_ #[t, tn] ty #[.slice base sLen sCap, .int k n]).run P w = .ok (.slice (some ⟨w.heap.size, 0, none⟩) (sLen + n) (grownCap w (sLen + n) sCap e))
      (w.drew.alloc (.cells ((olds ++ List.replicate n z).toArray ++ Builtin.zeroCells z.cells (grownCap w (sLen + n) sCap e - (sLen + n))) e)) := by
  have hw : IntKind.i64.wrap (n : Int) = n := by rw [IntKind.wrap_i64]; omega
  have hnb : n * i.bytes ≤ (sLen + n) * i.bytes := Nat.mul_le_mul_right _ (by omega)
  have h48i : ¬ (281474976710656 < (n : Int) * (i.bytes : Int)) := by rw [← Int.natCast_mul]; omega
  have hneg : ¬ ((n : Int) < 0) := by omega
  have hw0 : IntKind.i64.wrap 0 = 0 := by decide
  have hfit := growslice_fits hg h48
  have h48' : ¬ (281474976710656 < Builtin.nextslicecap (sLen + n) sCap * i.bytes) := by omega
  have hnr : ¬ (sLen + n ≤ sCap) := by omega
  have h63' : ¬ (9223372036854775807 < ((sLen : Int) + (n : Int))) := by omega
  have hzc := sI hz1 n
  by_cases h0 : n = 0
  · subst h0
    simp only [Nat.add_zero] at hnr h48' ⊢
    simp [Builtin.append_, run_underlying ht, run_underlying htn, sizeOf, typeInfo, zeroValue, hi, hz, asInt, asIntOf, hw0, hsz, h48', hnr, hold, Question.forced, newRow, grownCap, show ¬ (9223372036854775807 < (sLen : Int)) by omega]
  · simp [Builtin.append_, run_underlying ht, run_underlying htn, sizeOf, typeInfo, zeroValue, hi, hz, asInt, asIntOf, hw, hneg, h0, hsz, h48i, h48', h63', hnr, hzc, hold, Question.forced, newRow, grownCap]
    congr 2
    apply Array.ext'
    simp [List.append_assoc]
end
section
variable {Mo : Mode} {P : Program} {K : World} {n : Nat} {Q : Post} {e : Env} {H : List ak} {ty : TypeId} {pos : String} {af : Array Edge} {ops : Array Oper} {rest : List Oper}
theorem WL.Dj {d : Nat} {x y : Operand} {T Tn E bytes m q : Nat} {kn k : IntKind} {z v : Value} {cs : List Value} {l : Int} (hT : P.underlying T = some (.slice E)) (Rc : P.underlying Tn = some (.int kn)) (hE : gI P E 1 bytes z) (hz1 : z.cells = #[z]) (h1 : z.oneCell' = true)
    (hx : OV true e x v) (hy : OV true e y (.int k l)) (hl : l = (q : Int)) (hb : (m + q) * bytes ≤ 140737488355328) (Vi : m + q ≤ 1000000000) (hd : Nat.blt d n = true)
    (h : ∀ A cap, (A = none → m + q = 0 ∧ cap = 0) → m + q ≤ cap → WL Mo P K n ops rest Q ((d, .slice A (m + q) cap) :: e) (aU (.slice A (m + q) cap) E 1 (m + q) (cs ++ List.replicate q z) :: H)) :
    WL Mo P K n ops (⟨some d, .call ⟨.builtin .append, #[x, y], #[T, Tn]⟩, ty, pos, af, none⟩ :: rest) Q e (aU v E 1 m cs :: H) := by
  refine WL.Kt (R := fun u H' => ∃ A cap, u = .slice A (m + q) cap ∧ (A = none → m + q = 0 ∧ cap = 0) ∧ m + q ≤ cap ∧ H' = aU (.slice A (m + q) cap) E 1 (m + q) (cs ++ List.replicate q z) :: H) (fun a w ha hw => ?_) hd (fun u H' ⟨A, cap, e1, e2, e3, e4⟩ => by subst e1 e4; exact h A cap e2 e3)
  obtain ⟨i, hi, hz, hs, Ld, hzs, h0⟩ := hE
  subst hl Ld
  have hfin : ∀ v' w', (execOp a.eval ⟨some d, .call ⟨.builtin .append, #[x, y], #[T, Tn]⟩, ty, pos, af, none⟩).run P w = .ok (.value v') w' → w'.ownsRow 0 E 1 v' (m + q) (cs ++ List.replicate q z) → w.grownBy w' v.ownBlock →
      (v'.ownBlock = none ∨ v'.ownBlock = v.ownBlock ∨ v'.ownBlock = some w.heap.size) → ∃ u w'' H', (execOp a.eval ⟨some d, .call ⟨.builtin .append, #[x, y], #[T, Tn]⟩, ty, pos, af, none⟩).run P w = .ok (.value u) w'' ∧ Sat K w'' H' ∧
        ∃ A cap, u = .slice A (m + q) cap ∧ (A = none → m + q = 0 ∧ cap = 0) ∧ m + q ≤ cap ∧ H' = aU (.slice A (m + q) cap) E 1 (m + q) (cs ++ List.replicate q z) :: H := fun v' w' hrun hown hg hat => by
    obtain ⟨A, cap, rfl, k1, _, k2⟩ := aU.shape hown
    refine ⟨_, w', _, hrun, ⟨hw.1.grow hg.os hg.tape hg.output hg.size, ?_⟩, A, cap, rfl, k2, k1, rfl⟩
    refine hw.2.set (A' := aU (.slice A (m + q) cap) E 1 (m + q) (cs ++ List.replicate q z)) hg.size (fun b hb' hlt => hg.block b hlt (fun e => hb' e.symm)) hown (fun b hb' => ?_)
    have hb2 : (Value.slice A (m + q) cap).ownBlock = some b := hb'
    rcases hat with h' | h' | h'
    · rw [h'] at hb2; cases hb2
    · exact .inl (h'.symm.trans hb2)
    · rw [h'] at hb2
      injection hb2 with hb2
      subst hb2
      exact .inr ⟨Nat.le_refl _, (hown.lt _ h').2⟩
  have hown : w.ownsRow 0 E 1 v m cs := hw.head
  have H6 := hx.ev rfl ha
  have Lv := hy.ev rfl ha
  have zG : ∀ r w', (Builtin.append_ #[T, Tn] ty #[v, .int k q]).run P w = .ok r w' → (execOp a.eval ⟨some d, .call ⟨.builtin .append, #[x, y], #[T, Tn]⟩, ty, pos, af, none⟩).run P w = .ok (.value r) w' := fun r w' hr => by
    rw [execOp_builtin, builtin_append]
    simp [H6, Lv, hr]
  have hcl : cs.length = m := by have := hown.1; omega
  have hmax : (1000000000 : Nat) ≤ maxLen := by simp only [maxLen]; decide
  have grown : ∀ (old : Nat), old < m + q → ∀ (row : Option Nat),
      (w.drew.alloc (.cells ((cs ++ List.replicate q z).toArray ++ Builtin.zeroCells z.cells (grownCap w (m + q) old E - (m + q))) E)).ownsRow 0 E 1 (.slice (some ⟨w.heap.size, 0, none⟩) (m + q) (grownCap w (m + q) old E)) (m + q) (cs ++ List.replicate q z) ∧
      w.grownBy (w.drew.alloc (.cells ((cs ++ List.replicate q z).toArray ++ Builtin.zeroCells z.cells (grownCap w (m + q) old E - (m + q))) E)) row := by
    intro old ho row
    have hge := grownCap_ge w (m + q) old E
    have hcm : grownCap w (m + q) old E ≤ maxLen := grownCap_le_maxLen w (m + q) old E (by omega)
    refine ⟨⟨by simp [hcl], .inr ⟨w.heap.size, _, _, rfl, Nat.zero_le _, heap_alloc_new w.drew _, hge, hcm, ?_, ?_⟩⟩, ⟨rfl, rfl, rfl, by simp, fun k hk _ => heap_alloc_old w.drew _ hk⟩⟩
    · simp only [Array.size_append, List.size_toArray, size_zeroCells, hzs, List.length_append, List.length_replicate, hcl, Nat.mul_one]
      omega
    · have hlen : (m + q) * 1 = (cs ++ List.replicate q z).length := by simp [hcl]
      rw [hlen]
      simp only [Array.toList_append]
      exact List.take_left
  rcases hown.2 with ⟨rfl, rfl⟩ | ⟨g, cap, cur, rfl, hbg, hg, hnc, hcm, hcs, htake⟩
  · have hx : cs = [] := List.eq_nil_of_length_eq_zero hcl
    subst hx
    by_cases hm : q = 0
    · subst hm
      refine hfin (.slice none 0 0) w (zG _ w ?_) (by simpa using World.ownsRow_nil w 0 E 1) ⟨rfl, rfl, rfl, Nat.le_refl _, fun _ _ _ => rfl⟩ (.inr (.inl rfl))
      simp [Builtin.append_, run_underlying hT, run_underlying Rc, sizeOf, typeInfo, hi, asInt, asIntOf, IntKind.wrap_i64, storeCells, hs]
    · have hr := nI (P := P) w T Tn ty E i z k kn hT Rc hi hz hz1 hs none 0 0 q [] (by simp [Builtin.firstCells]) (by omega) (by omega) (by simpa using hb)
      have hgr := grown 0 (by omega) (Value.ownBlock (.slice none 0 0))
      simp only [Nat.zero_add] at hr hgr
      exact hfin _ _ (zG _ _ hr) (by simpa using hgr.1) hgr.2 (.inr (.inr rfl))
  · by_cases hroom : m + q ≤ cap
    · have hsz : cur.size = cap := by omega
      have hcell : ∀ j (hj : j < q), w.cell? ⟨g, m + j, none⟩ = some (cur[m + j]'(by omega)) := fun j hj => by simp [World.cell?, hg, show m + j < cur.size by omega]
      have hr := wG (P := P) w T Tn ty E i z k kn hT Rc hi hz hz1 h1 hs g m cap q hroom (fun j hj => by rw [hcell j hj]; rfl) (fun j hj => by simp [World.frozen?, hg]) (by omega) (by have := Nat.mul_le_mul_right i.bytes (show q ≤ m + q by omega); omega)
      obtain ⟨e1, e2, e3, e4⟩ := iK g (List.replicate q z) m w
      have hh := mO g E (0, 0) (List.replicate q z) m w cur.toList (by simpa using hg)
      have hss := mG cur.toList (List.replicate q z) m (by simp; omega)
      refine hfin _ _ (zG _ _ hr) ⟨by simp [hcl], .inr ⟨g, cap, (o9 cur.toList m (List.replicate q z)).toArray, rfl, Nat.zero_le _, hh, hroom, hcm, ?_, ?_⟩⟩ ⟨e1, e2, e3, Nat.le_of_eq e4.symm, fun k hk hne => iD g k (fun e => hne (by simp [Value.ownBlock, e])) _ _ _⟩ (.inr (.inl rfl))
      · simp [xX]; omega
      · rw [List.toList_toArray] 
        rw [hss, Nat.mul_one, show cur.toList.take m = cs by rw [← htake, Nat.mul_one], List.take_left' (by simp [hcl])]
    · have hold : (Builtin.firstCells 1 m (.slice (some ⟨g, 0, none⟩) m cap)).run P w.drew = .ok cs.toArray w.drew := by
        have hc := hown.cells (g := g) rfl
        have := run_loadCells_list (P := P) w.drew ⟨g, 0, none⟩ cs (fun j v hj => hc j v hj)
        rw [hcl] at this
        simpa [Builtin.firstCells] using this
      have hr := nI (P := P) w T Tn ty E i z k kn hT Rc hi hz hz1 hs (some ⟨g, 0, none⟩) m cap q cs hold (by omega) (by omega) hb
      have hgr := grown cap (by omega) (Value.ownBlock (.slice (some ⟨g, 0, none⟩) m cap))
      exact hfin _ _ (zG _ _ hr) hgr.1 hgr.2 (.inr (.inr rfl))
end
section
variable {Mo : Mode} {P : Program} {K : World} {n : Nat} {e : Env} {H : List ak} {c : Bool} {dst : Option Tmp} {ty : TypeId} {pos : String} {af : Array Edge} {gd : Option (Nat × Bool)}
theorem V.RU {x : Operand} {t : TypeId} {i : Int} (hx : OV c e x (.int .i64 i)) (h : c = true → -9223372036854775807 ≤ i ∧ i ≤ 9223372036854775807) : Val Mo P K n c e H ⟨dst, .unOp .neg t x, ty, pos, af, gd⟩ (.int .i64 (-i)) := fun hc a w ha _ => by
  show ((do pure (Next.value (← Op.unary .neg (a.eval x)))) : Sem Next).run P w = _
  rw [hx.ev hc ha]
  have h1 := h hc
  have h2 : IntKind.i64.wrap (-i) = -i := by rw [IntKind.wrap_i64]; omega
  simp [Op.unary, Op.intArith, h2]
end
end Go.Sl
namespace Go.Proofs.YtcmojpiokjhmhaaGreat
open Go.Sl Go.RowKit
set_option linter.unusedVariables false
set_option linter.unusedSimpArgs false
set_option maxRecDepth 20000
def bY (t : Nat) : List Nat := (List.replicate (ay t + 1) 0).set (13 * t / 8) (2 ^ (13 * t % 8))
def gB (t : Nat) (d : List Nat) : List Nat := (fM (bY t) d).take (aF (fM (bY t) d) ((bY t).length + d.length + 1))
def pQ (t : Nat) (d : List Nat) : List Nat := eB (gB t d) (dJ t) (dJ t).length (13 * t) (8 * (gB t d).length - 13 * t)
def gN (t : Nat) (d : List Nat) : Nat := aF (pQ t d) ((gB t d).length + 1)
def fI (t : Nat) (d : List Nat) : List Nat := (pQ t d).take (gN t d) ++ List.replicate (ay t - gN t d) 0
theorem iM (t : Nat) : (bY t).length = ay t + 1 := by simp [bY]
theorem D6 (t : Nat) : Small 256 (bY t) := (Small.vZ (by decide)).set (yT (Nat.mod_lt _ (by decide)))
theorem ko {t : Nat} {d : List Nat} (h : Small 256 d) : Small 256 (gB t d) := Small.take (kM h _)
theorem kR (t : Nat) (d : List Nat) : (pQ t d).length = (gB t d).length + 1 := dO _ _ _ _ _
theorem xq {t : Nat} {d : List Nat} (ht : 1 ≤ t ∧ t ≤ 8) (h : Small 256 d) : Small 256 (pQ t d) := gu (ko h) (nE ht).2.2.2.2 _
theorem Av {t : Nat} {d : List Nat} (ht : 1 ≤ t ∧ t ≤ 8) (h : Small 256 d) : gN t d ≤ ay t ∧ gN t d ≤ (gB t d).length + 1 := by
  obtain ⟨g1, g2, g3, g4, g5⟩ := nE ht
  refine ⟨vD (xq ht h) (fun k hk => Ch (ko h) g5 rfl g3 g4 hk) _, eX _ _⟩
theorem mq {t : Nat} {d : List Nat} (ht : 1 ≤ t ∧ t ≤ 8) (h : Small 256 d) : (fI t d).length = ay t := by
  have h1 := Av ht h
  unfold fI
  rw [List.length_append, List.length_take, List.length_replicate, kR]; omega
theorem tC {t : Nat} {d : List Nat} (ht : 1 ≤ t ∧ t ≤ 8) (h : Small 256 d) : Small 256 (fI t d) := (Small.take (xq ht h)).append (Small.vZ (by decide))
section
variable {K : World} {F : List ak}
theorem Ig {t : Nat} {A : Option Addr} {m cap : Nat} {d : List Nat} (ht : 1 ≤ t ∧ t ≤ 8) (hd : Seq K F A m 1 (aA .u8 d)) (BI : Small 256 d) (hdl : 1 ≤ m ∧ m ≤ 512) :
    Does Tryz.prog 136 #[.int .i64 (t : Int), .slice A m cap] K F
      (fun v H' => ∃ A' cap', v = .tuple #[.slice A' (ay t) cap', .int .i64 0] ∧ H' = aU (.slice A' (ay t) cap') 5 1 (ay t) (aA .u8 (fI t d)) :: F) := by
  have hl : d.length = m := by simpa [aA] using hd.len
  have Rs : 2 ≤ ay t ∧ ay t ≤ 13 ∧ 13 * t / 8 ≤ ay t := by unfold ay; omega
  obtain ⟨n, hn⟩ : ∃ n, n = ay t := ⟨_, rfl⟩
  obtain ⟨g1, g2, g3, g4, g5⟩ := nE ht
  have hrl := Av ht BI
  have hpl : (gB t d).length = aF (fM (bY t) d) ((bY t).length + d.length + 1) := by
    unfold gB fM
    have := eX (iJ (bY t) d (8 * (bY t).length)) ((bY t).length + d.length + 1)
    rw [List.length_take, fG]; omega
  have UK : (gB t d).length ≤ n + 1 + m + 1 := by rw [hpl, iM, hl, ← hn]; exact eX _ _
  rw [← hn] at Rs hrl ⊢
  refine Does.enter Tryz.func136 rfl Tryz.ntmps136 rfl ?_
  simp only [aI, Nat.reduceAdd]
  refine WC.sr (WL.sg rfl rfl (WL.sg rfl rfl (WL.nil (WC.sr (WL.mv rfl rfl (WL.mv rfl rfl ?_))))))
  refine WL.call (vs := [_, _]) Tryz.call146 ⟨OV.p rfl, OV.p rfl, trivial⟩ (aL.eq (v' := .tuple #[.int .i64 (n : Int), .int .i64 0]) (EU ht hdl) (by rw [hn])) rfl ?_
  rintro _ H0 ⟨rfl, h0⟩
  subst H0
  refine WL.mv rfl rfl (WL.xt rfl rfl rfl (WL.xt rfl rfl rfl (WL.sg rfl rfl (WL.sg rfl rfl (WL.nil (WC.seq (WC.sr (WL.mv rfl rfl (WL.val (V.neq (OV.p rfl) (OV.p rfl)) rfl (WL.nil ?_))))))))))
  refine WC.aQ rfl (by first | rfl | (simp; done) | (simp; omega)) ?_
  refine WC.skip (WC.sr (WL.mv rfl rfl (WL.call (vs := [_]) Tryz.call147 ⟨OV.p rfl, trivial⟩ (yx ht) rfl ?_)))
  rintro _ _ ⟨gg, Qz, UY, rfl, hgc, hgf, rfl⟩
  have hgs : ∀ {H : List ak}, Seq K (Cells gg 5 (aA .u8 Qz) :: H) (some ⟨gg, 0, none⟩) (dJ t).length 1 (aA .u8 (dJ t)) := fun {H} => Seq.here (by rw [aH]; omega) (by rw [List.drop_zero]; exact lW (by rw [hgf]; exact List.take_prefix _ _))
  refine WL.mv rfl rfl (WL.xt rfl rfl rfl (WL.xt rfl rfl rfl (WL.sg rfl rfl (WL.sg rfl rfl (WL.nil (WC.sr (WL.mv rfl rfl (WL.ad rfl rfl rfl ?_))))))))
  refine WL.oW (m := n + 1) Tryz.underlying43 yD (OV.p rfl) (OV.p rfl) (by omega) (by omega) (by omega) rfl rfl rfl (fun J2 => ?_)
  refine WL.sg rfl rfl (WL.nil (WC.sr (WL.mv rfl rfl (WL.mv rfl rfl ?_))))
  refine WL.val (V.jF (OV.p rfl) (OV.p rfl) (fun hc => by first | omega | (simp at hc; omega))) rfl ?_
  refine WL.val (V.sV (OV.p rfl) (OV.p rfl) (fun hc => by first | omega | (simp at hc; omega))) rfl ?_
  refine WL.mv rfl rfl ?_
  refine WL.val (V.jF (OV.p rfl) (OV.p rfl) (fun hc => by first | omega | (simp at hc; omega))) rfl ?_
  refine WL.val (V.aC (v' := .int .i64 ((13 * t % 8 : Nat) : Int)) (V.o8 (OV.p rfl) (OV.p rfl) (fun _ => by omega)) (fun _ => by simp)) rfl ?_
  refine WL.val (V.aC (v' := .int .u8 ((2 ^ (13 * t % 8) : Nat) : Int)) (V.shl (OV.p rfl) (OV.p rfl) (by omega)) (fun _ => by rw [zX (by omega)])) rfl ?_
  refine WL.val (V.bR fE (OV.p rfl) (OV.p rfl) (fun hc => by omega)) rfl ?_
  refine WL.store (cs := [_]) Tryz.sizeOf5 (OV.p rfl) (OV.p rfl) rfl rfl rfl (bA.at_ (by rw [List.length_replicate]; omega)) ?_
  have hsh : (List.replicate (n + 1) (Value.int .u8 0)).set (0 + (13 * (t : Int) / 8).toNat * 1) (.int .u8 ((2 ^ (13 * t % 8) : Nat) : Int)) = aA .u8 (bY t) := by
    unfold bY
    rw [← jB, dF, ← hn, show 0 + (13 * (t : Int) / 8).toNat * 1 = 13 * t / 8 by omega]; rfl
  rw [hsh]
  refine WL.nil (WC.sr (WL.mv rfl rfl (WL.mv rfl rfl ?_)))
  refine WL.call (vs := [_, _]) Tryz.call149 ⟨OV.p rfl, OV.p rfl, trivial⟩ (Cu (ps := bY t) (qs := d) (Seq.yG (by rw [iM, hn])) hd.up.up (D6 t) BI (by rw [iM, hl, ← hn]; omega)) rfl ?_
  rintro _ _ ⟨gp, rfl, rfl⟩
  have hps : ∀ {H : List ak}, Seq K (Cells gp 5 (aA .u8 (fM (bY t) d)) :: H) (some ⟨gp, 0, none⟩) (aF (fM (bY t) d) ((bY t).length + d.length + 1)) 1 (aA .u8 (gB t d)) := fun {H} => Seq.here (by rw [aH, hpl]; omega) (by rw [List.drop_zero]; exact lW (List.take_prefix _ _))
  refine WL.mv rfl rfl ?_
  refine WL.call (vs := [_, _]) Tryz.call148 ⟨OV.p rfl, OV.p rfl, trivial⟩ (JX (ps := gB t d) (qs := dJ t) (d := 13 * t) hps (by repeat (first | exact hgs | apply Seq.up)) (ko BI) g5 hgc (by rw [g3]; omega) g1 (by rw [g2, List.take_of_length_le (by omega), ← g3]; exact g1) (by rw [g2])) rfl ?_
  rintro _ _ ⟨gr, rfl, rfl⟩
  have hrb : eB (gB t d) ((dJ t).take (aF (dJ t) (dJ t).length)) (aF (dJ t) (dJ t).length) (13 * t) (8 * aF (fM (bY t) d) ((bY t).length + d.length + 1) - 13 * t) = pQ t d := by
    unfold pQ
    rw [g2, List.take_of_length_le (by omega), ← hpl, g3]
  rw [hrb]
  have hrl2 : aF (pQ t d) (aF (fM (bY t) d) ((bY t).length + d.length + 1) + 1) = gN t d := by unfold gN; rw [hpl]
  rw [hrl2, ← hpl]
  refine WL.mv rfl rfl (WL.xt rfl rfl rfl (WL.xt rfl rfl rfl (WL.sg rfl rfl (WL.sg rfl rfl (WL.nil (WC.sr (WL.mv rfl rfl (WL.mv rfl rfl (WL.mv rfl rfl (WL.val (V.len (t := 43) Tryz.runUnderlying43 (OV.p rfl)) rfl (WL.sb rfl rfl rfl ?_)))))))))))
  refine WL.sub (Sub.refl _) (fun w h => Sat.Dq (m := gN t d) (cap := (gB t d).length + 1) (s := 1) h (by rw [aH, kR, Nat.mul_one]) hrl.2 (by simp only [maxLen]; omega)) ?_
  refine WL.Dj (m := gN t d) (q := n - gN t d) Tryz.underlying43 Tryz.underlying3 yD rfl rfl (OV.p rfl) (OV.p rfl) (by omega) (by omega) (by omega) rfl (fun A' c' hn' hc' => ?_)
  refine WL.sg rfl rfl (WL.sg rfl rfl (WL.nil (WC.ret ?_)))
  have he : (aA .u8 (pQ t d)).take (gN t d * 1) ++ List.replicate (n - gN t d) (.int .u8 0) = aA .u8 (fI t d) := by
    unfold fI
    rw [dI, Nat.mul_one, gG, ← hn, dF]; rfl
  have hnn : gN t d + (n - gN t d) = n := by omega
  refine au.ret (H' := aU (.slice A' n c') 5 1 n (aA .u8 (fI t d)) :: F) (aO.fD rfl (look_eq rfl (by rw [hnn])) rfl) (fun w h => ?_) ⟨A', c', rfl, rfl⟩
  have h' := h.sel 4 [0] rfl
  rw [he, hnn] at h'
  exact h'
end
theorem tF {A : Option Addr} {m cap : Nat} {xs : List Int} {K : World} {F : List ak} (hs : Seq K F A m 1 (ints .i64 xs)) (hm : m ≤ 1000000) :
    Does Tryz.prog 57 #[.slice A m cap] K F (fun v H' => ∃ A' cap', v = .slice A' m cap' ∧ H' = aU (.slice A' m cap') 3 1 m (ints .i64 xs) :: F) := by
  have hl : xs.length = m := by simpa [ints] using hs.len
  refine Does.have_ (p := A = none → xs = []) (fun w hw hA => by subst hA; simpa [ints] using hs.Fh hw) (fun hnil => ?_)
  refine Does.enter Tryz.func57 rfl Tryz.ntmps57 rfl ?_
  simp only [aI, Nat.reduceAdd]
  refine WC.sr (WL.sg rfl rfl (WL.nil (WC.seq (WC.sr (WL.mv rfl rfl (WL.val (V.MB Tryz.underlying24 (OV.p rfl)) rfl (WL.nil ?_)))))))
  refine WC.cond rfl (fun hc0 => ?_) (fun hc0 => ?_)
  ·skip
   have hA : A = none := by cases A <;> simp at hc0 ⊢
   subst hA
   have hx := hnil rfl
   subst hx
   obtain rfl : m = 0 := hl.symm
   refine WC.sr (WL.sg rfl rfl (WL.nil (WC.ret ?_)))
   exact au.ret (H' := aU (.slice none 0 0) _ 1 0 [] :: F) (aO.tmp rfl rfl) (fun w h => Sat.fO h _ _) ⟨none, 0, rfl, rfl⟩
  ·skip
   refine WC.skip (WC.sr ?_)
   refine WL.buildSlice (E := 3) (cs := []) (vs := []) trivial rfl (NM ) rfl (fun b5 => ?_)
   refine WL.mv rfl rfl ?_
   refine WL.sub (Sub.refl _) (fun w h => Sat.Dq (m := 0) (cap := 0) (s := 1) h rfl (Nat.le_refl _) (Nat.zero_le _)) ?_
   refine WL.append (m := 0) (cs := []) Tryz.underlying24 el3 (OV.p rfl) (OV.p rfl) (by repeat (first | exact hs | apply Seq.up)) (qJ _ _) (by omega) rfl rfl (fun A' c' hn' hc' => ?_)
   refine WL.sg rfl rfl (WL.nil (WC.ret ?_))
   refine au.ret (H' := aU (.slice A' m c') _ 1 m (ints .i64 xs) :: F) (aO.tmp rfl (look_eq rfl (by simp))) (fun w h => ?_) ⟨A', c', rfl, rfl⟩
   simpa using h
theorem indexFunc {A : Option Addr} {m cap : Nat} {xs : List Int} {fid : FuncId} {Ay : List Value} {p : Int → Bool} {K : World} {F : List ak} (hs : Seq K F A m 1 (ints .i64 xs)) (hm : m ≤ maxLen) (hcl : dY Tryz.prog fid)
    (hf : ∀ x ∈ xs, aL Tryz.prog fid ([Value.int .i64 x] ++ Ay).toArray K F (.bool (p x))) :
    Does Tryz.prog 93 #[.slice A m cap, .func (.func fid) #[] Ay.toArray] K F
      (fun v H' => H' = F ∧ ((v = .int .i64 (-1) ∧ ∀ x ∈ xs, p x = false) ∨ ∃ i : Nat, i < m ∧ v = .int .i64 (i : Int) ∧ (∀ x ∈ xs.take i, p x = false) ∧ p (xs.getD i 0) = true)) := by
  have hl : xs.length = m := by simpa [ints] using hs.len
  have hm' : m ≤ 9223372036854775807 := by simp only [maxLen] at hm; omega
  refine Does.enter Tryz.func93 rfl Tryz.ntmps93 rfl ?_
  simp only [aI, Nat.reduceAdd]
  refine WC.sr (WL.sg rfl rfl (WL.nil (WC.seq (WC.sr (WL.mv rfl rfl (WL.val (V.len (t := 24) Tryz.runUnderlying24 (OV.p rfl)) rfl (WL.mv rfl rfl (WL.nil (WC.block ?_)))))))))
  refine WC.loop (σ := Nat) (fun i => [(0, .slice A m cap), (1, .func (.func fid) #[] Ay.toArray), (7, .int .i64 (m : Int)), (8, .int .i64 (i : Int))]) (fun i => F) (fun i => i ≤ m ∧ ∀ x ∈ xs.take i, p x = false) (fun i => m - i) 0 ⟨Nat.zero_le _, fun x hx => by simp at hx⟩ (.cons rfl (.cons rfl (.cons rfl (.cons rfl (.nil _))))) (fun w h => h) ?_
  rintro i ⟨hi, hp⟩
  refine WC.sr (WL.val (V.lss (OV.p rfl) (OV.p rfl)) rfl (WL.nil (WC.seq ?_)))
  refine WC.cond rfl (fun hc0 => ?_) (fun hc0 => ?_)
  ·simp only [decide_eq_true_eq, decide_eq_false_iff_not] at hc0
   refine WC.skip (WC.seq (WC.block (WC.sr (WL.mv rfl rfl (WL.sg rfl rfl (WL.nil (WC.sr (WL.mv rfl rfl (WL.mv rfl rfl (WL.mv rfl rfl ?_))))))))))
   refine WL.val (V.dS bZ (OV.p rfl) (OV.p rfl) (fun hc => by omega) (fun hc => Seq.iY hs (by omega))) rfl ?_
   refine WL.val (V.load Tryz.isAgg3 (OV.p rfl) (fun hc => Seq.iY hs (by omega))) rfl ?_
   have hti : (i : Int).toNat = i := by omega
   have hget : xs.getD i 0 = xs[i]'(by omega) := by simp [List.getD, show i < xs.length by omega]
   refine WL.mg (first := []) (vs := [_]) (captured := Ay) hcl (OV.p rfl) ⟨OV.p rfl, trivial⟩ (hf (xs.getD i 0) (by rw [hget]; exact List.getElem_mem _)) rfl ?_
   rintro _ H0 ⟨rfl, h0⟩
   subst H0
   refine WL.nil ?_
   refine WC.cond rfl (fun hc1 => ?_) (fun hc1 => ?_)
   ·skip
    have h1 := hc1
    refine WC.sr (WL.mv rfl rfl (WL.sg rfl rfl (WL.nil (WC.ret ?_))))
    refine au.ret (H' := F) (aO.tmp rfl rfl) (fun w h => h) ⟨rfl, .inr ⟨i, by omega, rfl, hp, h1⟩⟩
   ·skip
    have h1 := hc1
    refine WC.skip (WC.region (WL.ad rfl rfl rfl ?_))
    refine WL.mv rfl rfl (WL.nil ?_)
    refine ⟨rfl, ?_⟩
    refine ⟨i + 1, ⟨by show i + 1 ≤ m; omega, fun x hx => ?_⟩, (by show m - (i + 1) < m - i; omega), .cons rfl (.cons rfl (.cons rfl (.cons (look_eq rfl (by simp)) (.nil _)))), fun w h => h⟩
    rw [List.take_add_one, List.getElem?_eq_getElem (by omega), ← hget] at hx
    rcases List.mem_append.1 hx with hx | hx
    · exact hp x hx
    · simp at hx; subst hx; exact h1
  ·simp only [decide_eq_true_eq, decide_eq_false_iff_not] at hc0
   refine WC.exit (WC.sr (WL.sg rfl rfl (WL.nil (WC.ret ?_))))
   obtain rfl : i = m := by omega
   refine au.ret (H' := F) (aO.tmp rfl rfl) (fun w h => h) ⟨rfl, .inl ⟨rfl, fun x hx => hp x (by rw [List.take_of_length_le (by omega)]; exact hx)⟩⟩
theorem filter_all {p : Int → Bool} {xs : List Int} (h : ∀ x ∈ xs, p x = false) : xs.filter (fun x => !p x) = xs := List.filter_eq_self.2 fun x hx => by simp [h x hx]
theorem AA {A : Option Addr} {m cap : Nat} {xs : List Int} {fid : FuncId} {Ay : List Value} {p : Int → Bool} {K : World} {F : List ak} (hcl : dY Tryz.prog fid)
    (hf : ∀ x ∈ xs, ∀ X, aL Tryz.prog fid ([Value.int .i64 x] ++ Ay).toArray K (X :: F) (.bool (p x))) :
    Does Tryz.prog 60 #[.slice A m cap, .func (.func fid) #[] Ay.toArray] K (aU (.slice A m cap) 3 1 m (ints .i64 xs) :: F)
      (fun v H' => ∃ q, q = (xs.filter fun x => !p x).length ∧ v = .slice A q cap ∧ H' = aU (.slice A q cap) 3 1 q (ints .i64 (xs.filter fun x => !p x)) :: F) := by
  refine Does.have_ (p := xs.length = m) (fun w hw => by have := aU.len hw; rwa [aG, Nat.mul_one] at this) (fun hl => ?_)
  cases A with
  | none =>
    refine Does.have_ (p := m = 0 ∧ cap = 0 ∧ xs = []) (fun w hw => by have := aU.sM hw; simpa [ints] using this) (fun ⟨e1, e2, e3⟩ => ?_)
    subst e1 e2 e3
    refine Does.enter Tryz.func60 rfl Tryz.ntmps60 rfl ?_
    simp only [aI, Nat.reduceAdd]
    refine WC.sr (WL.sg rfl rfl (WL.nil (WC.sr (WL.mv rfl rfl (WL.mv rfl rfl ?_)))))
    refine WL.call (vs := [_, _]) Tryz.call93 ⟨OV.p rfl, OV.p rfl, trivial⟩ (indexFunc (xs := []) (p := p) Seq.Sd (Nat.zero_le _) hcl (fun x hx => by simp at hx)) rfl ?_
    rintro _ _ ⟨rfl, ⟨rfl, _⟩ | ⟨i, hi, _⟩⟩
    rotate_left
    · exact absurd hi (by omega)
    refine WL.sg rfl rfl (WL.nil (WC.seq (WC.sr (WL.mv rfl rfl (WL.val (V.eql (OV.p rfl) (OV.p rfl)) rfl (WL.nil ?_))))))
    refine WC.dV rfl (by first | rfl | (simp; done) | (simp; omega)) ?_
    refine WC.sr (WL.mv rfl rfl (WL.sg rfl rfl (WL.nil (WC.ret ?_))))
    exact au.ret (H' := aU (.slice none 0 0) _ 1 0 [] :: F) (aO.tmp rfl rfl) (fun w h => h) ⟨0, rfl, rfl, rfl⟩
  | some a =>
    refine Does.have_ (p := ∃ g, a = ⟨g, 0, none⟩) (fun w hw => aU.addr hw) (fun ⟨g, e1⟩ => ?_)
    subst e1
    refine Does.ex (fun w hw => Sat.kH hw) (fun rs ⟨hr1, _, hr2, hr3⟩ => ?_)
    have hm' : m ≤ maxLen := by omega
    have hcap : cap ≤ 9223372036854775807 := by simp only [maxLen] at hr3; omega
    have hrl : rs.length = cap - m := by rw [List.length_append, aG] at hr1; omega
    have hback : ∀ (ys : List Int) (cs : List Value) (w : World), cs.length = cap → ys.length ≤ cap → cs.take ys.length = ints .i64 ys → Sat K w (Cells g 3 cs :: F) → Sat K w (aU (.slice (some ⟨g, 0, none⟩) ys.length cap) 3 1 ys.length (ints .i64 ys) :: F) := fun ys cs w h1 h2 h3 h => by
      have := Sat.Dq (s := 1) h (by rw [h1, Nat.mul_one]) h2 hr3
      rw [Nat.mul_one, h3] at this
      exact this
    have TH : Seq K (Cells g 3 (ints .i64 xs ++ rs) :: F) (some ⟨g, 0, none⟩) m 1 (ints .i64 xs) := Seq.here (by rw [aG]; omega) (List.prefix_append _ _)
    by_cases hall : ∀ x ∈ xs, p x = false
    · skip
      refine Does.enter Tryz.func60 rfl Tryz.ntmps60 rfl ?_
      simp only [aI, Nat.reduceAdd]
      refine WC.sr (WL.sg rfl rfl (WL.nil (WC.sr (WL.mv rfl rfl (WL.mv rfl rfl ?_)))))
      refine WL.call (vs := [_, _]) Tryz.call93 ⟨OV.p rfl, OV.p rfl, trivial⟩ (indexFunc (xs := xs) (p := p) TH hm' hcl (fun x hx => hf x hx _)) rfl ?_
      rintro _ _ ⟨rfl, ⟨rfl, _⟩ | ⟨i0, hi0, rfl, hpre, hat⟩⟩
      rotate_left
      · exfalso
        have : xs.getD i0 0 = xs[i0]'(by omega) := by simp [List.getD, show i0 < xs.length by omega]
        rw [this, hall _ (List.getElem_mem _)] at hat
        cases hat
      refine WL.sg rfl rfl (WL.nil (WC.seq (WC.sr (WL.mv rfl rfl (WL.val (V.eql (OV.p rfl) (OV.p rfl)) rfl (WL.nil ?_))))))
      refine WC.dV rfl (by first | rfl | (simp; done) | (simp; omega)) ?_
      refine WC.sr (WL.mv rfl rfl (WL.sg rfl rfl (WL.nil (WC.ret ?_))))
      refine au.ret (H' := aU (.slice (some ⟨g, 0, none⟩) xs.length cap) _ 1 xs.length (ints .i64 xs) :: F) (aO.tmp rfl rfl) (fun w h => hback xs _ w (by omega) (by omega) (by rw [List.take_left' (aG _ _)]) h) ⟨xs.length, by rw [filter_all hall], by rw [hl], by rw [filter_all hall]⟩
    · skip
      refine Does.enter Tryz.func60 rfl Tryz.ntmps60 rfl ?_
      simp only [aI, Nat.reduceAdd]
      refine WC.sr (WL.sg rfl rfl (WL.nil (WC.sr (WL.mv rfl rfl (WL.mv rfl rfl ?_)))))
      refine WL.call (vs := [_, _]) Tryz.call93 ⟨OV.p rfl, OV.p rfl, trivial⟩ (indexFunc (xs := xs) (p := p) TH hm' hcl (fun x hx => hf x hx _)) rfl ?_
      rintro _ _ ⟨rfl, ⟨rfl, hno⟩ | ⟨i0, hi0, rfl, hpre, hat⟩⟩
      · exact absurd hno hall
      have P8 : i0 < xs.length := by omega
      refine WL.sg rfl rfl (WL.nil (WC.seq (WC.sr (WL.mv rfl rfl (WL.val (V.eql (OV.p rfl) (OV.p rfl)) rfl (WL.nil ?_))))))
      refine WC.aQ rfl ((by simp)) ?_
      refine WC.skip (WC.seq (WC.sr (WL.mv rfl rfl (WL.ad rfl rfl rfl ?_))))
      refine WL.sg rfl rfl (WL.nil (WC.block ?_))
      refine WC.loop (σ := Nat × Nat × List Value) (fun x => [(0, .slice (some ⟨g, 0, none⟩) m cap), (1, .func (.func fid) #[] Ay.toArray), (5, .int .i64 (x.1 : Int)), (6, .int .i64 (x.2.1 : Int))]) (fun x => Cells g 3 x.2.2 :: F) (fun x => x.1 < x.2.1 ∧ x.2.1 ≤ m ∧ x.2.2.length = cap ∧ x.1 = ((xs.take x.2.1).filter fun y => !p y).length ∧ x.2.2.take x.1 = ints .i64 ((xs.take x.2.1).filter fun y => !p y) ∧ x.2.2.drop x.2.1 = (ints .i64 xs ++ rs).drop x.2.1) (fun x => m - x.2.1) (i0, i0 + 1, ints .i64 xs ++ rs) ?_ (.cons rfl (.cons rfl (.cons rfl (.cons (look_eq rfl (by simp)) (.nil _))))) (fun w h => h) ?_
      · have e1 : (xs.take (i0 + 1)).filter (fun y => !p y) = xs.take i0 := by
          rw [List.take_add_one, List.getElem?_eq_getElem P8, List.filter_append, filter_all hpre]
          have : p xs[i0] = true := by simpa [List.getD, P8] using hat
          simp [this]
        refine ⟨by show i0 < i0 + 1; omega, by show i0 + 1 ≤ m; omega, by rw [hr1]; omega, ?_, ?_, rfl⟩
        · show i0 = ((xs.take (i0 + 1)).filter fun y => !p y).length
          rw [e1, List.length_take]; omega
        · show (ints .i64 xs ++ rs).take i0 = ints .i64 ((xs.take (i0 + 1)).filter fun y => !p y)
          rw [e1, List.take_append_of_le_length (by rw [aG]; omega), wz]
      rintro ⟨i, j, cs⟩ ⟨hij, hjm, hcl', hi, htk, hdr⟩
      dsimp only at hij hjm hcl' hi htk hdr ⊢
      refine WC.seq (WC.sr (WL.mv rfl rfl (WL.mv rfl rfl (WL.val (V.len (t := 24) Tryz.runUnderlying24 (OV.p rfl)) rfl (WL.val (V.lss (OV.p rfl) (OV.p rfl)) rfl (WL.nil ?_))))))
      refine WC.cond rfl (fun hc1 => ?_) (fun hc1 => ?_)
      ·simp only [decide_eq_true_eq, decide_eq_false_iff_not] at hc1
       refine WC.skip (WC.seq (WC.block (WC.seq ?_)))
       have Uo : j < m := by omega
       have hgj : cs[0 + (j : Int).toNat * 1]? = some (.int .i64 (xs.getD j 0)) := by
         have e1 := congrArg (·[0]?) hdr
         simp only [List.getElem?_drop, Nat.add_zero] at e1
         rw [show 0 + (j : Int).toNat * 1 = j by omega, e1, List.getElem?_append_left (by rw [aG]; omega), jl _ _ (by omega)]
       have hgx : xs.getD j 0 = xs[j]'(by omega) := by simp [List.getD, show j < xs.length by omega]
       have htj : xs.take (j + 1) = xs.take j ++ [xs.getD j 0] := by rw [List.take_add_one, List.getElem?_eq_getElem (by omega), hgx]; rfl
       refine WC.region (WL.mv rfl rfl (WL.mv rfl rfl ?_))
       refine WL.val (V.bR bZ (OV.p rfl) (OV.p rfl) (fun hc => by omega)) rfl ?_
       refine WL.val (V.load Tryz.isAgg3 (OV.p rfl) (fun _ => Rd.here hgj)) rfl ?_
       refine WL.sg rfl rfl (WL.nil (WC.sr (WL.mv rfl rfl (WL.mv rfl rfl ?_))))
       refine WL.mg (first := []) (vs := [_]) (captured := Ay) hcl (OV.p rfl) ⟨OV.p rfl, trivial⟩ (hf (xs.getD j 0) (by rw [hgx]; exact List.getElem_mem _) _) rfl ?_
       rintro _ H0 ⟨rfl, h0⟩
       subst H0
       refine WL.val (V.not (OV.p rfl)) rfl (WL.nil ?_)
       refine WC.cond rfl (fun hc2 => ?_) (fun hc2 => ?_)
       ·simp only [Bool.not_eq_true', Bool.not_eq_false'] at hc2
        have h2 := hc2
        have hst : [xs.getD j 0].filter (fun y => !p y) = [xs.getD j 0] := by rw [List.filter_cons_of_pos (by rw [h2]; rfl)]; rfl
        refine WC.sr (WL.mv rfl rfl (WL.mv rfl rfl (WL.mv rfl rfl ?_)))
        refine WL.val (V.bR bZ (OV.p rfl) (OV.p rfl) (fun hc => by omega)) rfl ?_
        refine WL.store (cs := [_]) Tryz.sizeOf3 (OV.p rfl) (OV.p rfl) rfl rfl rfl (bA.at_ (by omega)) ?_
        refine WL.nil (WC.region (WL.mv rfl rfl (WL.ad rfl rfl rfl ?_)))
        refine WL.sg rfl rfl (WL.nil (WC.region (WL.mv rfl rfl (WL.ad rfl rfl rfl ?_))))
        refine WL.sg rfl rfl (WL.nil ?_)
        refine ⟨rfl, ?_⟩
        first
        | (refine ⟨(i, j + 1, cs), ⟨by show i < j + 1; omega, by show j + 1 ≤ m; omega, hcl', ?_, ?_, ?_⟩, (by show m - (j + 1) < m - j; omega), .cons rfl (.cons rfl (.cons rfl (.cons (look_eq rfl (by simp)) (.nil _)))), fun w h => h⟩
           · show i = ((xs.take (j + 1)).filter fun y => !p y).length
             rw [htj, List.filter_append, hse, List.length_append, ← hi]; rfl
           · show cs.take i = ints .i64 ((xs.take (j + 1)).filter fun y => !p y)
             rw [htj, List.filter_append, hse, List.append_nil, htk]
           · have := congrArg (List.drop 1) hdr
             rwa [List.drop_drop, List.drop_drop] at this)
        | (have qO := hst
           refine ⟨(i + 1, j + 1, cs.set (0 + (i : Int).toNat * 1) (.int .i64 (xs.getD j 0))), ⟨by show i + 1 < j + 1; omega, by show j + 1 ≤ m; omega, by rw [List.length_set]; exact hcl', ?_, ?_, ?_⟩, (by show m - (j + 1) < m - j; omega), .cons rfl (.cons rfl (.cons (look_eq rfl (by simp)) (.cons (look_eq rfl (by simp)) (.nil _)))), fun w h => h⟩
           · show i + 1 = ((xs.take (j + 1)).filter fun y => !p y).length
             rw [htj, List.filter_append, qO, List.length_append, ← hi]; rfl
           · show (cs.set (0 + (i : Int).toNat * 1) (.int .i64 (xs.getD j 0))).take (i + 1) = ints .i64 ((xs.take (j + 1)).filter fun y => !p y)
             rw [htj, List.filter_append, qO, bf, ← htk, show 0 + (i : Int).toNat * 1 = i by omega, List.take_add_one, List.getElem?_set_self (by omega), List.take_set_of_le (by omega)]
             rfl
           · show (cs.set (0 + (i : Int).toNat * 1) (.int .i64 (xs.getD j 0))).drop (j + 1) = (ints .i64 xs ++ rs).drop (j + 1)
             rw [show 0 + (i : Int).toNat * 1 = i by omega, List.drop_set_of_lt (by omega)]
             have := congrArg (List.drop 1) hdr
             rwa [List.drop_drop, List.drop_drop] at this)
       ·simp only [Bool.not_eq_true', Bool.not_eq_false'] at hc2
        have h2 := hc2
        have hse : [xs.getD j 0].filter (fun y => !p y) = [] := by rw [List.filter_cons_of_neg (by rw [h2]; decide)]; rfl
        refine WC.skip (WC.region (WL.mv rfl rfl (WL.ad rfl rfl rfl ?_)))
        refine WL.sg rfl rfl (WL.nil ?_)
        refine ⟨rfl, ?_⟩
        first
        | (refine ⟨(i, j + 1, cs), ⟨by show i < j + 1; omega, by show j + 1 ≤ m; omega, hcl', ?_, ?_, ?_⟩, (by show m - (j + 1) < m - j; omega), .cons rfl (.cons rfl (.cons rfl (.cons (look_eq rfl (by simp)) (.nil _)))), fun w h => h⟩
           · show i = ((xs.take (j + 1)).filter fun y => !p y).length
             rw [htj, List.filter_append, hse, List.length_append, ← hi]; rfl
           · show cs.take i = ints .i64 ((xs.take (j + 1)).filter fun y => !p y)
             rw [htj, List.filter_append, hse, List.append_nil, htk]
           · have := congrArg (List.drop 1) hdr
             rwa [List.drop_drop, List.drop_drop] at this)
        | (have qO := hst
           refine ⟨(i + 1, j + 1, cs.set (0 + (i : Int).toNat * 1) (.int .i64 (xs.getD j 0))), ⟨by show i + 1 < j + 1; omega, by show j + 1 ≤ m; omega, by rw [List.length_set]; exact hcl', ?_, ?_, ?_⟩, (by show m - (j + 1) < m - j; omega), .cons rfl (.cons rfl (.cons (look_eq rfl (by simp)) (.cons (look_eq rfl (by simp)) (.nil _)))), fun w h => h⟩
           · show i + 1 = ((xs.take (j + 1)).filter fun y => !p y).length
             rw [htj, List.filter_append, qO, List.length_append, ← hi]; rfl
           · show (cs.set (0 + (i : Int).toNat * 1) (.int .i64 (xs.getD j 0))).take (i + 1) = ints .i64 ((xs.take (j + 1)).filter fun y => !p y)
             rw [htj, List.filter_append, qO, bf, ← htk, show 0 + (i : Int).toNat * 1 = i by omega, List.take_add_one, List.getElem?_set_self (by omega), List.take_set_of_le (by omega)]
             rfl
           · show (cs.set (0 + (i : Int).toNat * 1) (.int .i64 (xs.getD j 0))).drop (j + 1) = (ints .i64 xs ++ rs).drop (j + 1)
             rw [show 0 + (i : Int).toNat * 1 = i by omega, List.drop_set_of_lt (by omega)]
             have := congrArg (List.drop 1) hdr
             rwa [List.drop_drop, List.drop_drop] at this)
      ·simp only [decide_eq_true_eq, decide_eq_false_iff_not] at hc1
       refine WC.exit (WC.sr (WL.mv rfl rfl (WL.mv rfl rfl ?_)))
       have UR : j = m := by omega
       subst UR
       refine WL.val (V.slice (l := i) (h := j) (u := cap) bZ (OV.p rfl) (OO.some (OV.p rfl) (fun _ => rfl)) OO.none OO.none (by simp) (by omega) (by omega) (Nat.le_refl _)) rfl ?_
       refine WL.LH (b := g) (o := i) Tryz.underlying24 Tryz.zeroValue3 rfl rfl (OV.p rfl) (fun hq => by rw [if_neg (by omega)]; simp [gL]) (bA.row (by rw [List.length_replicate]; omega)) ?_
       refine WL.nil (WC.sr (WL.mv rfl rfl (WL.mv rfl rfl ?_)))
       refine WL.val (V.slice (l := 0) (h := i) (u := cap) bZ (OV.p rfl) OO.none (OO.some (OV.p rfl) (fun _ => rfl)) OO.none (by simp) (by omega) (by omega) (Nat.le_refl _)) rfl ?_
       refine WL.sg rfl rfl (WL.nil (WC.ret ?_))
       rw [List.take_of_length_le (Nat.le_of_eq hl)] at hi htk
       refine au.ret (H' := aU (.slice (some ⟨g, 0, none⟩) i cap) _ 1 i (ints .i64 (xs.filter fun y => !p y)) :: F) (aO.tmp rfl (look_eq rfl (by simp [Addr.add]))) (fun w h => ?_) ⟨i, hi, rfl, rfl⟩
       have hlen : (cs.take i ++ List.replicate (j - i) (Value.int .i64 0) ++ cs.drop (i + (List.replicate (j - i) (Value.int .i64 0)).length)).length = cap := by
         simp only [List.length_append, List.length_take, List.length_replicate, List.length_drop]; omega
       have := hback (xs.filter fun y => !p y) _ w hlen (by omega) (by rw [← hi, List.append_assoc, List.take_left' (by rw [List.length_take]; omega), htk]) h
       rw [← hi] at this
       exact this
end Go.Proofs.YtcmojpiokjhmhaaGreat
