/- bits.Ones, bch nought: plain and walked. -/
import Derived.Test.YtohkefolnmcjnaaBA
namespace Go.Proofs.Ytohkefolnmcjnaa
open Go.Sl Go.RowKit
set_option linter.unusedVariables false
set_option linter.unusedSimpArgs false
set_option maxRecDepth 20000

def pop8 (x : Nat) : Nat := (List.range 8).countP fun k => x.testBit k
theorem pop_code {x : Nat} (hx : x < 256) (h0 : x ≠ 0) : bitsOf .and .u8 (x : Int) ((x : Int) - 1) = ((x &&& (x - 1) : Nat) : Int) ∧ pop8 (x &&& (x - 1)) + 1 = pop8 x ∧ (x &&& (x - 1)) < x := by
  have h : ((List.range 256).all fun a => decide (a ≠ 0 → bitsOf .and .u8 ((a : Nat) : Int) (((a : Nat) : Int) - 1) = ((a &&& (a - 1) : Nat) : Int) ∧ pop8 (a &&& (a - 1)) + 1 = pop8 a ∧ (a &&& (a - 1)) < a)) = true := by kernel_rfl
  have h1 := List.all_eq_true.1 h x (List.mem_range.2 hx)
  exact of_decide_eq_true h1 h0
theorem pop8_le (x : Nat) : pop8 x ≤ 8 := by
  have := List.countP_le_length (p := fun k => x.testBit k) (l := List.range 8)
  rw [List.length_range] at this
  exact this
def ones : List Nat → Nat
  | [] => 0
  | x :: xs => pop8 x + ones xs
theorem ones_le : ∀ xs : List Nat, ones xs ≤ 8 * xs.length
  | [] => Nat.zero_le _
  | x :: xs => by
    have := ones_le xs
    have := pop8_le x
    simp only [ones, List.length_cons]; omega
theorem ones_append : ∀ xs ys : List Nat, ones (xs ++ ys) = ones xs + ones ys
  | [], ys => by simp [ones]
  | x :: xs, ys => by rw [List.cons_append, ones, ones, ones_append xs ys]; omega
theorem take_succ_getD (xs : List Nat) {j : Nat} (h : j < xs.length) : xs.take (j + 1) = xs.take j ++ [xs.getD j 0] := by
  rw [List.take_add_one, List.getElem?_eq_getElem h]
  simp [List.getD, h]
def nz (x : Nat) : Nat := if x = 0 then 0 else 1
def nozero (s : List Nat) : List Nat := s.map nz
section
variable {K : World} {F : List Assn}
theorem bits_Ones {A : Option Addr} {m cap : Nat} {xs : List Nat} (hs : Seq K F A m 1 (nats .u8 xs)) (hx : Small 256 xs) (hm : m ≤ 100000000) : Tells Try.prog 61 #[.slice A m cap] K F (.int .i64 (ones xs : Nat)) := by
  have hl : xs.length = m := by simpa [nats] using hs.len
  refine Does.enter Try.func61 rfl Try.ntmps61 rfl ?_
  simp only [env0, Nat.reduceAdd]
  refine WC.seq ?_
  refine WC.region ?_
  refine WL.val (V.assign (OV.p rfl)) rfl ?_
  refine WL.nil ?_
  refine WC.seq ?_
  refine WC.region ?_
  refine WL.val (V.assign (OV.p rfl)) rfl ?_
  refine WL.nil ?_
  refine WC.seq ?_
  refine WC.seq ?_
  refine WC.region ?_
  refine WL.val (V.move (OV.p rfl)) rfl ?_
  refine WL.val (V.len (t := 24) Try.runUnderlying24 (OV.p rfl)) rfl ?_
  refine WL.val (V.move (OV.p rfl)) rfl ?_
  refine WL.nil ?_
  refine WC.block ?_
  refine WC.loop (σ := Nat) (fun j => [(3, .int .i64 (ones (xs.take j) : Nat)), (6, .slice A m cap), (7, .int .i64 (m : Int)), (8, .int .i64 (j : Int))]) (fun _ => F) (fun j => j ≤ m) (fun j => m - j) 0 (Nat.zero_le _) (.cons rfl (.cons rfl (.cons rfl (.cons rfl (.nil _))))) (fun w h => h) ?_
  rintro j hj
  refine WC.seq ?_
  refine WC.region ?_
  refine WL.val (V.lss (OV.p rfl) (OV.p rfl)) rfl ?_
  refine WL.nil ?_
  refine WC.seq ?_
  refine WC.cond rfl (fun hc0 => ?_) (fun hc0 => ?_)
  · simp only [decide_eq_true_eq, decide_eq_false_iff_not] at hc0
    refine WC.skip ?_
    refine WC.seq ?_
    refine WC.block ?_
    refine WC.seq ?_
    have hrd : Rd K F (A.map (·.add ((j : Int).toNat * 1))) (.int .u8 (xs.getD j 0 : Nat)) := by
      rw [show (j : Int).toNat = j by omega]; exact hs.nat_rd (by omega)
    obtain ⟨x0, hx0⟩ : ∃ x0, x0 = xs.getD j 0 := ⟨_, rfl⟩
    have hx8 : x0 < 256 := by rw [hx0]; exact hx.at_ (by decide) j
    have hon : ones (xs.take (j + 1)) = ones (xs.take j) + pop8 x0 := by rw [take_succ_getD xs (by omega), ones_append, ← hx0]; simp [ones]
    have hob := ones_le (xs.take j)
    rw [List.length_take] at hob
    rw [← hx0] at hrd
    refine WC.region ?_
    refine WL.val (V.idxS st24 (OV.p rfl) (OV.p rfl) (fun hc => by omega) (fun hc => hrd)) rfl ?_
    refine WL.val (V.load Try.isAgg5 (OV.p rfl) (fun hc => hrd)) rfl ?_
    refine WL.val (V.assign (OV.p rfl)) rfl ?_
    refine WL.nil ?_
    refine WC.block ?_
    refine WC.loop (σ := Nat) (fun x => [(3, .int .i64 (ones (xs.take j) + (pop8 x0 - pop8 x) : Nat)), (6, .slice A m cap), (7, .int .i64 (m : Int)), (8, .int .i64 (j : Int)), (5, .int .u8 (x : Int))]) (fun _ => F) (fun x => x < 256 ∧ pop8 x ≤ pop8 x0) (fun x => x) x0 ⟨hx8, Nat.le_refl _⟩ (.cons (look_eq rfl (by rw [Nat.sub_self, Nat.add_zero])) (.cons rfl (.cons rfl (.cons rfl (.cons rfl (.nil _)))))) (fun w h => h) ?_
    rintro x ⟨hx1, hx2⟩
    refine WC.seq ?_
    refine WC.seq ?_
    refine WC.region ?_
    refine WL.val (V.move (OV.p rfl)) rfl ?_
    refine WL.val (V.neq (OV.p rfl) (OV.p rfl)) rfl ?_
    refine WL.nil ?_
    refine WC.cond rfl (fun hc1 => ?_) (fun hc1 => ?_)
    · simp only [decide_eq_true_eq, decide_eq_false_iff_not, Bool.not_eq_true', Bool.not_eq_false'] at hc1
      have h1 := hc1
      refine WC.skip ?_
      refine WC.seq ?_
      refine WC.block ?_
      have hxn : x ≠ 0 := by omega
      obtain ⟨hp1, hp2, hp3⟩ := pop_code hx1 hxn
      have hp8 := pop8_le x0
      refine WC.region ?_
      refine WL.val (V.move (OV.p rfl)) rfl ?_
      refine WL.val (V.val_eq (v' := .int .i64 (ones (xs.take j) + (pop8 x0 - pop8 (x &&& (x - 1))) : Nat)) (V.addI (OV.p rfl) (OV.p rfl) (fun _ => by omega)) (fun _ => by congr 1; omega)) rfl ?_
      refine WL.val (V.assign (OV.p rfl)) rfl ?_
      refine WL.nil ?_
      refine WC.region ?_
      refine WL.val (V.move (OV.p rfl)) rfl ?_
      refine WL.val (V.move (OV.p rfl)) rfl ?_
      refine WL.val (V.val_eq (v' := .int .u8 ((x : Int) - 1)) (V.sub (OV.p rfl) (OV.p rfl)) (fun _ => by congr 1; simp only [IntKind.wrap, IntKind.bits, IntKind.signed]; simp; omega)) rfl ?_
      refine WL.val (V.val_eq (v' := .int .u8 ((x &&& (x - 1) : Nat) : Int)) (V.and (OV.p rfl) (OV.p rfl)) (fun _ => by rw [hp1])) rfl ?_
      refine WL.val (V.assign (OV.p rfl)) rfl ?_
      refine WL.nil ?_
      refine ⟨rfl, ?_⟩
      exact ⟨x &&& (x - 1), ⟨by show x &&& (x - 1) < 256; omega, by omega⟩, hp3, .cons rfl (.cons rfl (.cons rfl (.cons rfl (.cons rfl (.nil _))))), fun w h => h⟩
    · simp only [decide_eq_true_eq, decide_eq_false_iff_not, Bool.not_eq_true', Bool.not_eq_false'] at hc1
      have h1 := hc1
      refine WC.exit ?_
      have hx0' : x = 0 := by omega
      have hpz : pop8 x = 0 := by rw [hx0']; rfl
      rw [hpz, Nat.sub_zero]
      refine WC.region ?_
      refine WL.val (V.addI (OV.p rfl) (OV.p rfl) (fun hc => by first | omega | (simp at hc; omega))) rfl ?_
      refine WL.val (V.move (OV.p rfl)) rfl ?_
      refine WL.nil ?_
      refine ⟨rfl, ?_⟩
      exact ⟨j + 1, (by show j + 1 ≤ m; omega), (by show m - (j + 1) < m - j; omega), .cons (look_eq rfl (by rw [hon])) (.cons rfl (.cons rfl (.cons (look_eq rfl (by simp)) (.nil _)))), fun w h => h⟩
  · simp only [decide_eq_true_eq, decide_eq_false_iff_not] at hc0
    refine WC.exit ?_
    refine WC.seq ?_
    refine WC.region ?_
    refine WL.val (V.move (OV.p rfl)) rfl ?_
    refine WL.val (V.assign (OV.p rfl)) rfl ?_
    refine WL.nil ?_
    refine WC.ret ?_
    obtain rfl : j = m := by omega
    exact BodyQ.ret (H' := F) (Res.tmp rfl rfl) (fun w h => h) ⟨by rw [List.take_of_length_le (by omega)], rfl⟩
theorem bch_nought {A : Option Addr} {m cap : Nat} {s : List Nat} (hs : Seq K F A m 1 (nats .i64 s)) (hs8 : Small 8192 s) (hm : m ≤ 1000000) :
    Does Try.prog 69 #[.slice A m cap] K F (fun v H' => ∃ g, v = .slice (some ⟨g, 0, none⟩) m m ∧ H' = Cells g 5 (nats .u8 (nozero s)) :: F) := by
  have hl : s.length = m := by simpa [nats] using hs.len
  refine Does.enter Try.func69 rfl Try.ntmps69 rfl ?_
  simp only [env0, Nat.reduceAdd]
  refine WC.seq ?_
  refine WC.region ?_
  refine WL.val (V.assign (OV.p rfl)) rfl ?_
  refine WL.nil ?_
  refine WC.seq ?_
  refine WC.region ?_
  refine WL.val (V.move (OV.p rfl)) rfl ?_
  refine WL.val (V.len (t := 39) Try.runUnderlying39 (OV.p rfl)) rfl ?_
  refine WL.make1 (m := m) Try.underlying24 el5 (OV.p rfl) (OV.p rfl) (by omega) (by omega) (by omega) rfl rfl rfl (fun b8 => ?_)
  refine WL.val (V.assign (OV.p rfl)) rfl ?_
  refine WL.nil ?_
  refine WC.seq ?_
  refine WC.seq ?_
  refine WC.region ?_
  refine WL.val (V.move (OV.p rfl)) rfl ?_
  refine WL.val (V.len (t := 39) Try.runUnderlying39 (OV.p rfl)) rfl ?_
  refine WL.val (V.move (OV.p rfl)) rfl ?_
  refine WL.nil ?_
  refine WC.block ?_
  refine WC.loop (σ := Nat) (fun j => [(3, .slice (some ⟨b8, 0, none⟩) m m), (9, .slice A m cap), (10, .int .i64 (m : Int)), (11, .int .i64 (j : Int))]) (fun j => Cells b8 5 (nats .u8 (nozero (s.take j) ++ List.replicate (m - j) 0)) :: F) (fun j => j ≤ m) (fun j => m - j) 0 (Nat.zero_le _) (.cons rfl (.cons rfl (.cons rfl (.cons rfl (.nil _))))) (fun w h => Sat.cells_eq h (by simp [nozero, nats_replicate])) ?_
  rintro j hj
  refine WC.seq ?_
  refine WC.region ?_
  refine WL.val (V.lss (OV.p rfl) (OV.p rfl)) rfl ?_
  refine WL.nil ?_
  refine WC.seq ?_
  refine WC.cond rfl (fun hc0 => ?_) (fun hc0 => ?_)
  · simp only [decide_eq_true_eq, decide_eq_false_iff_not] at hc0
    refine WC.skip ?_
    refine WC.seq ?_
    refine WC.block ?_
    refine WC.seq ?_
    have hjm : j < m := by omega
    have hrd : Rd K (Cells b8 5 (nats .u8 (nozero (s.take j) ++ List.replicate (m - j) 0)) :: F) (A.map (·.add ((j : Int).toNat * 1))) (.int .i64 (s.getD j 0 : Nat)) := by
      rw [show (j : Int).toNat = j by omega]; exact (hs.nat_rd (by omega)).up
    obtain ⟨x, hx⟩ : ∃ x, x = s.getD j 0 := ⟨_, rfl⟩
    have htk := take_succ_getD s (j := j) (by omega)
    have htl : (nozero (s.take j)).length = j := by simp [nozero]; omega
    rw [← hx] at hrd htk
    refine WC.region ?_
    refine WL.val (V.move (OV.p rfl)) rfl ?_
    refine WL.val (V.idxS st39 (OV.p rfl) (OV.p rfl) (fun hc => by omega) (fun hc => hrd)) rfl ?_
    refine WL.val (V.load Try.isAgg3 (OV.p rfl) (fun hc => hrd)) rfl ?_
    refine WL.val (V.assign (OV.p rfl)) rfl ?_
    refine WL.val (V.assign (OV.p rfl)) rfl ?_
    refine WL.nil ?_
    refine WC.seq ?_
    refine WC.region ?_
    refine WL.val (V.move (OV.p rfl)) rfl ?_
    refine WL.val (V.neq (OV.p rfl) (OV.p rfl)) rfl ?_
    refine WL.nil ?_
    refine WC.cond rfl (fun hc1 => ?_) (fun hc1 => ?_)
    · simp only [decide_eq_true_eq, decide_eq_false_iff_not, Bool.not_eq_true', Bool.not_eq_false'] at hc1
      have h1 := hc1
      refine WC.region ?_
      refine WL.val (V.move (OV.p rfl)) rfl ?_
      refine WL.val (V.move (OV.p rfl)) rfl ?_
      refine WL.val (V.idxB st24 (OV.p rfl) (OV.p rfl) (fun hc => by omega)) rfl ?_
      refine WL.store (cs := [_]) Try.sizeOf5 (OV.p rfl) (OV.p rfl) rfl rfl rfl (Upd.at_ (by simp [nats, nozero]; omega)) ?_
      refine WL.nil ?_
      refine WC.region ?_
      refine WL.val (V.addI (OV.p rfl) (OV.p rfl) (fun hc => by first | omega | (simp at hc; omega))) rfl ?_
      refine WL.val (V.move (OV.p rfl)) rfl ?_
      refine WL.nil ?_
      refine ⟨rfl, ?_⟩
      refine ⟨j + 1, (by show j + 1 ≤ m; omega), (by show m - (j + 1) < m - j; omega), .cons rfl (.cons rfl (.cons rfl (.cons (look_eq rfl (by simp)) (.nil _)))), fun w h => Sat.cells_eq h ?_⟩
      have e1 : nozero (s.take (j + 1)) = nozero (s.take j) ++ [nz x] := by rw [htk]; simp [nozero]
      have e2 : m - j = (m - (j + 1)) + 1 := by omega
      first
        | (have e3 : nz x = 1 := by unfold nz; rw [if_neg (by omega)]
           rw [show 0 + (j : Int).toNat * 1 = j by omega, show Value.int .u8 1 = Value.int .u8 ((1 : Nat) : Int) from rfl, nats_set, e1, e3, e2, List.set_append_right _ _ (by omega), htl, Nat.sub_self, List.replicate_succ, List.set_cons_zero]
           simp)
        | (have e3 : nz x = 0 := by unfold nz; rw [if_pos (by omega)]
           rw [e1, e3, e2, List.replicate_succ]
           simp)
    · simp only [decide_eq_true_eq, decide_eq_false_iff_not, Bool.not_eq_true', Bool.not_eq_false'] at hc1
      have h1 := hc1
      refine WC.skip ?_
      refine WC.region ?_
      refine WL.val (V.addI (OV.p rfl) (OV.p rfl) (fun hc => by first | omega | (simp at hc; omega))) rfl ?_
      refine WL.val (V.move (OV.p rfl)) rfl ?_
      refine WL.nil ?_
      refine ⟨rfl, ?_⟩
      refine ⟨j + 1, (by show j + 1 ≤ m; omega), (by show m - (j + 1) < m - j; omega), .cons rfl (.cons rfl (.cons rfl (.cons (look_eq rfl (by simp)) (.nil _)))), fun w h => Sat.cells_eq h ?_⟩
      have e1 : nozero (s.take (j + 1)) = nozero (s.take j) ++ [nz x] := by rw [htk]; simp [nozero]
      have e2 : m - j = (m - (j + 1)) + 1 := by omega
      first
        | (have e3 : nz x = 1 := by unfold nz; rw [if_neg (by omega)]
           rw [show 0 + (j : Int).toNat * 1 = j by omega, show Value.int .u8 1 = Value.int .u8 ((1 : Nat) : Int) from rfl, nats_set, e1, e3, e2, List.set_append_right _ _ (by omega), htl, Nat.sub_self, List.replicate_succ, List.set_cons_zero]
           simp)
        | (have e3 : nz x = 0 := by unfold nz; rw [if_pos (by omega)]
           rw [e1, e3, e2, List.replicate_succ]
           simp)
  · simp only [decide_eq_true_eq, decide_eq_false_iff_not] at hc0
    refine WC.exit ?_
    refine WC.seq ?_
    refine WC.region ?_
    refine WL.val (V.move (OV.p rfl)) rfl ?_
    refine WL.val (V.assign (OV.p rfl)) rfl ?_
    refine WL.nil ?_
    refine WC.ret ?_
    obtain rfl : j = m := by omega
    exact BodyQ.ret (H' := Cells b8 _ _ :: F) (Res.tmp rfl rfl) (fun w h => Sat.cells_eq h (by rw [List.take_of_length_le (by omega)]; simp)) ⟨b8, rfl, rfl⟩
end
end Go.Proofs.Ytohkefolnmcjnaa
