/- bits.Turn; the chip: Read. -/
import Derived.Test.YtgmdagjnigkaaaaC5
import Derived.KernelRfl
namespace Go.Proofs.Ytgmdagjnigkaaaa
open Go.Sl Go.RowKit
set_option linter.unusedVariables false
set_option linter.unusedSimpArgs false
set_option maxRecDepth 20000

def flip8 (x k : Int) : Int := ((x.toNat ^^^ 2 ^ k.toNat : Nat) : Int)
def turn1 (ys : List Int) (i : Int) : List Int := ys.set (i / 8).toNat (flip8 (ys.getD (i / 8).toNat 0) (i % 8))
def turn (xs l : List Int) : List Int := l.foldl turn1 xs
theorem flip8_code {x k : Int} (hx : 0 ≤ x ∧ x < 256) (hk : 0 ≤ k ∧ k < 8) : bitsOf .xor .u8 x (IntKind.u8.wrap (1 * 2 ^ (min k.toNat IntKind.u8.bits))) = flip8 x k ∧ 0 ≤ flip8 x k ∧ flip8 x k < 256 := by
  have h : ((List.range 256).all fun a => (List.range 8).all fun j => decide (bitsOf .xor .u8 (a : Int) (IntKind.u8.wrap (1 * 2 ^ (min j IntKind.u8.bits))) = flip8 a j) && decide (0 ≤ flip8 a j) && decide (flip8 a j < 256)) = true := by kernel_rfl
  have h1 := List.all_eq_true.1 h x.toNat (List.mem_range.2 (by omega))
  have h2 := List.all_eq_true.1 h1 k.toNat (List.mem_range.2 (by omega))
  simp only [Bool.and_eq_true, decide_eq_true_eq] at h2
  rw [show ((x.toNat : Nat) : Int) = x by omega, show ((k.toNat : Nat) : Int) = k by omega] at h2
  exact ⟨h2.1.1, h2.1.2, h2.2⟩
theorem turn1_length (ys : List Int) (i : Int) : (turn1 ys i).length = ys.length := by simp [turn1]
theorem turn_length : ∀ (l xs : List Int), (turn xs l).length = xs.length
  | [], _ => rfl
  | i :: l, xs => by rw [turn, List.foldl_cons, ← turn, turn_length l, turn1_length]
theorem turn1_isb {ys : List Int} {i : Int} (h : IsBytes ys) (hi : 0 ≤ i ∧ i < 8 * ys.length) : IsBytes (turn1 ys i) := fun x hx => by
  rcases List.mem_or_eq_of_mem_set hx with h1 | rfl
  · exact h x h1
  · have hlt : (i / 8).toNat < ys.length := by omega
    rw [List.getD, List.getElem?_eq_getElem hlt]
    exact (flip8_code (h _ (List.getElem_mem hlt)) (by omega)).2
theorem turn_isb : ∀ {l xs : List Int}, IsBytes xs → (∀ i ∈ l, 0 ≤ i ∧ i < 8 * (xs.length : Int)) → IsBytes (turn xs l)
  | [], _, h, _ => h
  | i :: l, xs, h, hi => by
    rw [turn, List.foldl_cons, ← turn]
    exact turn_isb (turn1_isb h (hi i (.head _))) (fun j hj => by rw [turn1_length]; exact hi j (.tail _ hj))
theorem turn_take {xs l : List Int} {j : Nat} (h : j < l.length) : turn xs (l.take (j + 1)) = turn1 (turn xs (l.take j)) (l.getD j 0) := by
  rw [List.take_add_one, List.getElem?_eq_getElem h, turn, turn, List.foldl_append]
  simp [List.getD, h]

theorem bits_Turn {A B : Option Addr} {m q cap cap' : Nat} {xs l : List Int} (hx : IsBytes xs) {K : World} {F : List Assn} (hs : Seq K F A m 1 (ints .u8 xs)) (hl : Seq K F B q 1 (ints .i64 l)) (hi : ∀ i ∈ l, 0 ≤ i ∧ i < 8 * (xs.length : Int)) (hmx : m ≤ 100000) (hq : q ≤ maxLen) :
    Does Try.prog 49 #[.slice A m cap, .slice B q cap'] K F (fun v H' => ∃ b, v = .tuple #[.slice (some ⟨b, 0, none⟩) m m, .int .i64 0] ∧ H' = Cells b 5 (ints .u8 (turn xs l)) :: F) := by
  have hxl : xs.length = m := by simpa [ints] using hs.len
  have hll : l.length = q := by simpa [ints] using hl.len
  have hq' : q ≤ 9223372036854775807 := by simpa [maxLen] using hq
  refine Does.enter Try.func49 rfl Try.ntmps49 rfl ?_
  simp only [env0, Nat.reduceAdd]
  refine WC.seq ?_
  refine WC.region ?_
  refine WL.val (V.assign (OV.p rfl)) rfl ?_
  refine WL.val (V.assign (OV.p rfl)) rfl ?_
  refine WL.nil ?_
  refine WC.seq ?_
  refine WC.region ?_
  refine WL.val (V.move (OV.p rfl)) rfl ?_
  refine WL.val (V.len (t := 29) Try.runUnderlying29 (OV.p rfl)) rfl ?_
  refine WL.make1 (m := m) Try.underlying29 el5 (OV.p rfl) (OV.p rfl) rfl rfl (by omega) rfl rfl rfl (fun b6 => ?_)
  refine WL.val (V.assign (OV.p rfl)) rfl ?_
  refine WL.nil ?_
  refine WC.seq ?_
  refine WC.region ?_
  refine WL.val (V.move (OV.p rfl)) rfl ?_
  refine WL.val (V.move (OV.p rfl)) rfl ?_
  refine WL.copySeq st29 (OV.p rfl) (OV.p rfl) (by repeat (first | exact hs | apply Seq.up)) (Nat.le_refl _) (ints_one _ _) (Upd.front (by simp [ints]; omega)) rfl ?_
  refine WL.nil ?_
  refine WC.seq ?_
  refine WC.seq ?_
  refine WC.region ?_
  refine WL.val (V.move (OV.p rfl)) rfl ?_
  refine WL.val (V.len (t := 40) Try.runUnderlying40 (OV.p rfl)) rfl ?_
  refine WL.val (V.move (OV.p rfl)) rfl ?_
  refine WL.nil ?_
  refine WC.block ?_
  refine WC.loop (σ := Nat) (fun j => [(0, .slice A m cap), (6, .slice (some ⟨b6, 0, none⟩) m m), (15, .slice B q cap'), (16, .int .i64 (q : Int)), (17, .int .i64 (j : Int))]) (fun j => Cells b6 5 (ints .u8 (turn xs (l.take j))) :: F) (fun j => j ≤ q) (fun j => q - j) 0 (Nat.zero_le _) (.cons rfl (.cons rfl (.cons rfl (.cons rfl (.cons rfl (.nil _)))))) (fun w h => Sat.cells_eq h (by rw [List.drop_eq_nil_of_le (by simp [ints]; omega)]; simp [turn])) ?_
  rintro j hj
  refine WC.seq ?_
  refine WC.region ?_
  refine WL.val (V.lss (OV.p rfl) (OV.p rfl)) rfl ?_
  refine WL.nil ?_
  refine WC.seq ?_
  refine WC.cond rfl (fun hc0 => ?_) (fun hc0 => ?_)
  · try simp only [decide_eq_true_eq, decide_eq_false_iff_not, Bool.and_eq_true, Bool.or_eq_true, Bool.and_eq_false_iff, Bool.or_eq_false_iff, Bool.not_eq_true', Bool.not_eq_false', Bool.not_eq_true, Bool.not_eq_false, Int.not_lt, Int.not_le] at hc0
    refine WC.skip ?_
    refine WC.seq ?_
    refine WC.block ?_
    refine WC.seq ?_
    refine WC.region ?_
    refine WL.val (V.idxS st40 (OV.p rfl) (OV.p rfl) (fun hc => by omega) (fun hc => by repeat (first | exact Seq.int_rd hl (by omega) | apply Rd.up))) rfl ?_
    refine WL.val (V.load Try.isAgg3 (OV.p rfl) (fun hc => by repeat (first | exact Seq.int_rd hl (by omega) | apply Rd.up))) rfl ?_
    refine WL.val (V.assign (OV.p rfl)) rfl ?_
    refine WL.nil ?_
    refine WC.seq ?_
    refine WC.seq ?_
    have hjq : j < q := by omega
    have hij : 0 ≤ l.getD j 0 ∧ l.getD j 0 < 8 * (xs.length : Int) := by
      rw [List.getD, List.getElem?_eq_getElem (by omega)]
      exact hi _ (List.getElem_mem _)
    rw [show (j : Int).toNat = j by omega]
    refine WC.region ?_
    refine WL.val (V.move (OV.p rfl)) rfl ?_
    refine WL.val (V.lss (OV.p rfl) (OV.p rfl)) rfl ?_
    refine WL.val (V.move (OV.p rfl)) rfl ?_
    refine WL.valG (oj := _) rfl rfl rfl GC.f (V.move (OV.p rfl)) rfl ?_
    refine WL.valG (oj := _) rfl rfl rfl GC.f (V.move (OV.p rfl)) rfl ?_
    refine WL.valG (oj := _) rfl rfl rfl GC.f (V.len (t := 29) Try.runUnderlying29 (OV.g rfl id)) rfl ?_
    refine WL.valG (oj := _) rfl rfl rfl GC.f (V.mulI (OV.p rfl) (OV.g rfl id) (fun hc => by first | omega | (simp at hc; omega))) rfl ?_
    refine WL.valG (oj := _) rfl rfl rfl GC.f (V.geq (OV.g rfl id) (OV.g rfl id)) rfl ?_
    refine WL.val (V.pickOr (OV.p rfl) (OV.g rfl id)) rfl ?_
    refine WL.nil ?_
    refine WC.condF' rfl ((by simp only [Bool.or_eq_false_iff, decide_eq_false_iff_not]; omega)) ?_
    refine WC.skip ?_
    refine WC.regionA F (by kernel_rfl) ?_
    refine WA.take 0 (fun w h => by repeat (first | exact h | replace h := h.tail)) rfl (by kernel_rfl) (by kernel_rfl) (by kernel_rfl) (fun _ _ _ h => h) (V.move (OV.p rfl)) rfl ?_
    refine WA.take 1 (fun w h => by repeat (first | exact h | replace h := h.tail)) rfl (by kernel_rfl) (by kernel_rfl) (by kernel_rfl) (fun _ _ _ h => h) (V.move (OV.p rfl)) rfl ?_
    refine WA.take 2 (fun w h => by repeat (first | exact h | replace h := h.tail)) rfl (by kernel_rfl) (by kernel_rfl) (by kernel_rfl) (fun _ _ _ h => h) (V.quoI (OV.p rfl) (OV.p rfl) (fun hc => by omega)) rfl ?_
    refine WA.take 3 (fun w h => by repeat (first | exact h | replace h := h.tail)) rfl (by kernel_rfl) (by kernel_rfl) (by kernel_rfl) (fun _ _ _ h => h) (V.idxB st29 (OV.p rfl) (OV.p rfl) (fun hc => by omega)) rfl ?_
    refine WA.take 5 (fun w h => by repeat (first | exact h | replace h := h.tail)) rfl (by kernel_rfl) (by kernel_rfl) (by kernel_rfl) (fun _ _ _ h => h) (V.move (OV.p rfl)) rfl ?_
    refine WA.take 6 (fun w h => by repeat (first | exact h | replace h := h.tail)) rfl (by kernel_rfl) (by kernel_rfl) (by kernel_rfl) (fun _ _ _ h => h) (V.remI (OV.p rfl) (OV.p rfl) (fun hc => by first | omega | (simp at hc; omega))) rfl ?_
    refine WA.take 7 (fun w h => by repeat (first | exact h | replace h := h.tail)) rfl (by kernel_rfl) (by kernel_rfl) (by kernel_rfl) (fun _ _ _ h => h) (V.shl (OV.p rfl) (OV.p rfl) (by omega)) rfl ?_
    refine WA.one (i := 4) (fun w h => by repeat (first | exact h | replace h := h.tail)) (by kernel_rfl) rfl ?_
    refine WL.val (V.load Try.isAgg5 (OV.p rfl) (fun _ => Rd.here (v := .int .u8 ((turn xs (l.take j)).getD (l.getD j 0 / 8).toNat 0)) (by rw [Nat.zero_add, Nat.mul_one]; exact ints_getD _ _ (by rw [turn_length]; omega)))) rfl ?_
    refine WL.nil ?_
    refine WA.take 8 (fun w h => by repeat (first | exact h | replace h := h.tail)) rfl (by kernel_rfl) (by kernel_rfl) (by kernel_rfl) (fun _ _ _ h => h) (V.xor (OV.p rfl) (OV.p rfl)) rfl ?_
    refine WA.take 9 (fun w h => by repeat (first | exact h | replace h := h.tail)) rfl (by kernel_rfl) (by kernel_rfl) (by kernel_rfl) (fun _ _ _ h => h) (V.idxB st29 (OV.p rfl) (OV.p rfl) (fun hc => by first | omega | (simp at hc; omega))) rfl ?_
    refine WA.one (i := 10) (fun w h => by repeat (first | exact h | replace h := h.tail)) (by kernel_rfl) rfl ?_
    refine WL.store (cs := [_]) Try.sizeOf5 (OV.p rfl) (OV.p rfl) rfl rfl rfl (Upd.at_ (by rw [Nat.zero_add, Nat.mul_one, ints_length, turn_length]; omega)) ?_
    refine WL.nil ?_
    refine WA.done (by kernel_rfl) (fun w h => by repeat (first | exact h | replace h := h.tail)) ?_
    refine WC.region ?_
    refine WL.val (V.addI (OV.p rfl) (OV.p rfl) (fun hc => by first | omega | (simp at hc; omega))) rfl ?_
    refine WL.val (V.move (OV.p rfl)) rfl ?_
    refine WL.nil ?_
    refine ⟨rfl, ?_⟩
    refine ⟨j + 1, (by show j + 1 ≤ q; omega), (by show q - (j + 1) < q - j; omega), .cons rfl (.cons rfl (.cons rfl (.cons rfl (.cons (look_eq rfl (by simp)) (.nil _))))), fun w h => Sat.cells_eq h ?_⟩
    have hib := turn_isb (xs := xs) (l := l.take j) hx (fun i h => hi i (List.mem_of_mem_take h))
    have hlt : (l.getD j 0 / 8).toNat < (turn xs (l.take j)).length := by rw [turn_length]; omega
    rw [turn_take (by omega), Nat.zero_add, Nat.mul_one, (flip8_code (x := (turn xs (l.take j)).getD (l.getD j 0 / 8).toNat 0) (by rw [List.getD, List.getElem?_eq_getElem hlt]; exact hib _ (List.getElem_mem hlt)) (by omega)).1, ints_set]
    rfl
  · try simp only [decide_eq_true_eq, decide_eq_false_iff_not, Bool.and_eq_true, Bool.or_eq_true, Bool.and_eq_false_iff, Bool.or_eq_false_iff, Bool.not_eq_true', Bool.not_eq_false', Bool.not_eq_true, Bool.not_eq_false, Int.not_lt, Int.not_le] at hc0
    refine WC.exit ?_
    refine WC.seq ?_
    refine WC.region ?_
    refine WL.val (V.move (OV.p rfl)) rfl ?_
    refine WL.val (V.assign (OV.p rfl)) rfl ?_
    refine WL.val (V.assign (OV.p rfl)) rfl ?_
    refine WL.nil ?_
    refine WC.ret ?_
    obtain rfl : j = q := by omega
    refine BodyQ.ret (H' := Cells b6 _ _ :: F) (Res.tmp2 rfl rfl rfl) (fun w h => Sat.cells_eq h ?_) ⟨b6, rfl, rfl⟩
    rw [List.take_of_length_le (by omega)]

def Chip.readErr (S : Chip) (b p : Int) : Int := if S.up = false then 70 else if S.page b p = false then 1 else 0
def Chip.reads (S : Chip) (b p : Int) : List Int := turn ((S.pages (b, p)).getD S.blank) ((S.wrong (b, p)).getD [])
theorem Cw.Ok.reads_len {C : Cw} (hC : C.Ok) (b p : Int) : (C.sem.reads b p).length = C.g.raw.toNat := by
  have hr := Geo.raw_bd hC.mays
  unfold Chip.reads
  rw [turn_length]
  have h1 : C.sem.pages (b, p) = (C.pages (b, p)).map (·.2.2) := rfl
  rw [h1]
  cases h : C.pages (b, p) with
  | none => exact List.length_replicate
  | some e => have := (hC.page _ e h).2.1; simp; omega
theorem Cw.Ok.base_isb {C : Cw} (hC : C.Ok) (b p : Int) : IsBytes ((C.sem.pages (b, p)).getD C.sem.blank) := by
  have h1 : C.sem.pages (b, p) = (C.pages (b, p)).map (·.2.2) := rfl
  rw [h1]
  cases h : C.pages (b, p) with
  | none => exact IsBytes.repl (by omega)
  | some e => exact (hC.page _ e h).2.2
theorem Cw.Ok.base_len {C : Cw} (hC : C.Ok) (b p : Int) : (((C.sem.pages (b, p)).getD C.sem.blank).length : Int) = C.g.raw := by
  have hr := Geo.raw_bd hC.mays
  have h1 : C.sem.pages (b, p) = (C.pages (b, p)).map (·.2.2) := rfl
  rw [h1]
  cases h : C.pages (b, p) with
  | none =>
    show ((List.replicate C.g.raw.toNat 255).length : Int) = C.g.raw
    rw [List.length_replicate]; omega
  | some e => exact (hC.page _ e h).2.1
/-- Which bits of a page are read wrongly. -/
theorem Cw.Ok.wrong_at {C : Cw} (hC : C.Ok) (b p : Int) : ∃ Aw cw lw, (C.wrongF (b, p)).getD (.slice none 0 0) = .slice Aw lw.length cw ∧ SeqIn C.own Aw lw.length 1 (ints .i64 lw) ∧ (∀ i ∈ lw, 0 ≤ i ∧ i < 8 * C.g.raw) ∧ lw = (C.sem.wrong (b, p)).getD [] ∧ lw.length ≤ maxLen := by
  have h1 : C.sem.wrong (b, p) = (C.wrong (b, p)).map (·.2.2) := rfl
  have h2 : C.wrongF (b, p) = (C.wrong (b, p)).map Cw.sliceOf := rfl
  rw [h1, h2]
  cases h : C.wrong (b, p) with
  | none => exact ⟨none, 0, [], rfl, SeqIn.nil, fun i hi => by simp at hi, rfl, Nat.zero_le _⟩
  | some e => have := hC.wr _ e h; exact ⟨e.1, e.2.1, e.2.2, rfl, this.1, this.2.1, rfl, this.2.2⟩

theorem chip_Read {bc : Nat} {C : Cw} (hC : C.Ok) (b p : Int) {K : World} {F : List Assn} :
    Does Try.prog 19 #[ptr bc 0, .int .i64 b, .int .i64 p] K (C.A bc :: F)
      (fun v H' => (C.sem.readErr b p = 0 ∧ ∃ bo, v = .tuple #[.slice (some ⟨bo, 0, none⟩) C.g.raw.toNat C.g.raw.toNat, .int .i64 0] ∧ H' = Cells bo 5 (ints .u8 (C.sem.reads b p)) :: C.A bc :: F) ∨
        (C.sem.readErr b p ≠ 0 ∧ v = .tuple #[.slice none 0 0, .int .i64 (C.sem.readErr b p)] ∧ H' = C.A bc :: F)) := by
  have hr := Geo.raw_bd hC.mays
  obtain ⟨Aw, cw, lw, hw1, hw2, hw3, hw4, hwl⟩ := hC.wrong_at b p
  have hbl := hC.base_len b p
  have hbb := hC.base_isb b p
  have hre : turn ((C.sem.pages (b, p)).getD C.sem.blank) lw = C.sem.reads b p := by unfold Chip.reads; rw [hw4]
  refine Does.openC ?_
  dsimp only [Cw.parts, List.cons_append, List.nil_append]
  cases hpg : C.pages (b, p) with
  | none =>
    have hb0 : (C.sem.pages (b, p)).getD C.sem.blank = List.replicate C.g.raw.toNat 255 := by
      rw [show C.sem.pages (b, p) = (C.pages (b, p)).map (·.2.2) from rfl, hpg]; rfl
    rw [hb0] at hre hbl hbb
    refine Does.enter Try.func19 rfl Try.ntmps19 rfl ?_
    simp only [env0, Nat.reduceAdd]
    refine WC.seq ?_
    refine WC.region ?_
    refine WL.val (V.assign (OV.p rfl)) rfl ?_
    refine WL.val (V.assign (OV.p rfl)) rfl ?_
    refine WL.nil ?_
    refine WC.seq ?_
    refine WC.seq ?_
    refine WC.region ?_
    refine WL.val (V.move (OV.p rfl)) rfl ?_
    refine WL.call (vs := [_]) Try.call43 ⟨OV.p rfl, trivial⟩ (chip_ready (C := C) (by repeat (first | exact Rds.all | apply Rds.up))) rfl ?_
    rintro _ H0 ⟨rfl, h0⟩
    subst H0
    refine WL.val (V.assign (OV.p rfl)) rfl ?_
    refine WL.nil ?_
    refine WC.seq ?_
    refine WC.region ?_
    refine WL.val (V.move (OV.p rfl)) rfl ?_
    refine WL.val (V.neq (OV.p rfl) (OV.p rfl)) rfl ?_
    refine WL.nil ?_
    refine WC.cond rfl (fun hc0 => ?_) (fun hc0 => ?_)
    · skip
      have hup : C.up = false := by cases h : C.up <;> simp [Chip.ready, Cw.sem, h] at hc0 ⊢
      refine WC.seq ?_
      refine WC.region ?_
      refine WL.val (V.move (OV.p rfl)) rfl ?_
      refine WL.val (V.assign (OV.p rfl)) rfl ?_
      refine WL.val (V.assign (OV.p rfl)) rfl ?_
      refine WL.nil ?_
      refine WC.ret ?_
      have e1 : C.sem.readErr b p = 70 := by unfold Chip.readErr; rw [if_pos (show C.sem.up = false from hup)]
      have e2 : C.sem.ready = 70 := by unfold Chip.ready; rw [if_neg (by show ¬ C.up = true; rw [hup]; decide)]
      rw [e2]
      exact BodyQ.ret (H' := C.A bc :: F) (Res.tmp2 rfl rfl rfl) (fun w h => Sat.all (l := C.parts bc) h) (.inr ⟨by rw [e1]; decide, by rw [e1], rfl⟩)
    · skip
      have hup : C.up = true := by cases h : C.up <;> simp [Chip.ready, Cw.sem, h] at hc0 ⊢
      refine WC.skip ?_
      refine WC.seq ?_
      refine WC.seq ?_
      refine WC.region ?_
      refine WL.val (V.move (OV.p rfl)) rfl ?_
      refine WL.val (V.move (OV.p rfl)) rfl ?_
      refine WL.val (V.move (OV.p rfl)) rfl ?_
      refine WL.call (vs := [_, _, _]) Try.call44 ⟨OV.p rfl, OV.p rfl, OV.p rfl, trivial⟩ (chip_page (C := C) b p (by repeat (first | exact Rds.all | apply Rds.up))) rfl ?_
      rintro _ H0 ⟨rfl, h0⟩
      subst H0
      refine WL.val (V.not (OV.p rfl)) rfl ?_
      refine WL.nil ?_
      refine WC.cond rfl (fun hc1 => ?_) (fun hc1 => ?_)
      · simp only [decide_eq_true_eq, decide_eq_false_iff_not, Bool.and_eq_true, Bool.or_eq_true, Bool.and_eq_false_iff, Bool.or_eq_false_iff, Bool.not_eq_true', Bool.not_eq_false', Bool.not_eq_true, Bool.not_eq_false] at hc1
        have h1 := hc1
        refine WC.seq ?_
        refine WC.region ?_
        refine WL.val (V.assign (OV.p rfl)) rfl ?_
        refine WL.val (V.assign (OV.p rfl)) rfl ?_
        refine WL.nil ?_
        refine WC.ret ?_
        have e1 : C.sem.readErr b p = 1 := by unfold Chip.readErr; rw [if_neg (by show ¬ C.up = false; rw [hup]; decide), if_pos h1]
        exact BodyQ.ret (H' := C.A bc :: F) (Res.tmp2 rfl rfl rfl) (fun w h => Sat.all (l := C.parts bc) h) (.inr ⟨by rw [e1]; decide, by rw [e1], rfl⟩)
      · simp only [decide_eq_true_eq, decide_eq_false_iff_not, Bool.and_eq_true, Bool.or_eq_true, Bool.and_eq_false_iff, Bool.or_eq_false_iff, Bool.not_eq_true', Bool.not_eq_false', Bool.not_eq_true, Bool.not_eq_false] at hc1
        have h1 := hc1
        refine WC.skip ?_
        refine WC.seq ?_
        refine WC.region ?_
        refine WL.val (V.move (OV.p rfl)) rfl ?_
        refine WL.val (V.nilCheck (OV.p rfl)) rfl ?_
        refine WL.val (V.fieldAddr fo77_2 (OV.p rfl)) rfl ?_
        refine WL.val (V.load Try.isAgg73 (OV.p rfl) (fun _ => by repeat (first | exact Rd.here rfl | apply Rd.up))) rfl ?_
        refine WL.val (V.move (OV.p rfl)) rfl ?_
        refine WL.val (V.move (OV.p rfl)) rfl ?_
        refine WL.val (V.build (vs := [(0, _), (1, _)]) ⟨OV.p rfl, OV.p rfl, trivial⟩ rfl (bld82_0_1 _ _)) rfl ?_
        refine WL.val (V.val_eq (v' := .tuple #[.slice none 0 0, .bool false]) (V.lookupOk (k := (b, p)) Try.underlying73 Try.zeroValue29 kl82 (OV.p rfl) (OV.p rfl) (fun _ => by repeat (first | exact RdM.here | apply RdM.up))) (fun _ => by unfold Cw.pagesF; rw [hpg]; rfl)) rfl ?_
        refine WL.val (V.move (OV.p rfl)) rfl ?_
        refine WL.val (V.extract (OV.p rfl) rfl) rfl ?_
        refine WL.val (V.extract (OV.p rfl) rfl) rfl ?_
        refine WL.val (V.assign (OV.p rfl)) rfl ?_
        refine WL.val (V.assign (OV.p rfl)) rfl ?_
        refine WL.nil ?_
        refine WC.seq ?_
        refine WC.seq ?_
        refine WC.region ?_
        refine WL.val (V.move (OV.p rfl)) rfl ?_
        refine WL.val (V.not (OV.p rfl)) rfl ?_
        refine WL.nil ?_
        refine WC.condT' rfl (by first | rfl | (simp; done) | (simp; omega)) ?_
        refine WC.region ?_
        refine WL.val (V.move (OV.p rfl)) rfl ?_
        refine WL.call (vs := [_]) Try.call45 ⟨OV.p rfl, trivial⟩ (chip_blank (C := C) hC.mays (by repeat (first | exact Rds.all | apply Rds.up))) rfl ?_
        rintro _ _ ⟨bo, rfl, rfl⟩
        refine WL.val (V.assign (OV.p rfl)) rfl ?_
        refine WL.nil ?_
        refine WC.seq ?_
        refine WC.region ?_
        refine WL.val (V.move (OV.p rfl)) rfl ?_
        refine WL.val (V.move (OV.p rfl)) rfl ?_
        refine WL.val (V.nilCheck (OV.p rfl)) rfl ?_
        refine WL.val (V.fieldAddr fo77_3 (OV.p rfl)) rfl ?_
        refine WL.val (V.load Try.isAgg74 (OV.p rfl) (fun _ => by repeat (first | exact Rd.here rfl | apply Rd.up))) rfl ?_
        refine WL.val (V.move (OV.p rfl)) rfl ?_
        refine WL.val (V.move (OV.p rfl)) rfl ?_
        refine WL.val (V.build (vs := [(0, _), (1, _)]) ⟨OV.p rfl, OV.p rfl, trivial⟩ rfl (bld82_0_1 _ _)) rfl ?_
        refine WL.val (V.val_eq (v' := .slice Aw lw.length cw) (V.lookup (k := (b, p)) Try.underlying74 Try.zeroValue40 kl82 (OV.p rfl) (OV.p rfl) (fun _ => by repeat (first | exact RdM.here | apply RdM.up))) (fun _ => hw1)) rfl ?_
        refine WL.call (vs := [_, _]) Try.call49 ⟨OV.p rfl, OV.p rfl, trivial⟩ (bits_Turn hbb (by repeat (first | exact Seq.allI (by simp) | apply Seq.up)) (by repeat (first | exact SeqIn.seq hw2 | apply Seq.up)) (by rw [hbl]; exact hw3) (by omega) hwl) rfl ?_
        rintro _ _ ⟨bt, rfl, rfl⟩
        refine WL.val (V.extract (OV.p rfl) rfl) rfl ?_
        refine WL.val (V.extract (OV.p rfl) rfl) rfl ?_
        refine WL.val (V.assign (OV.p rfl)) rfl ?_
        refine WL.val (V.assign (OV.p rfl)) rfl ?_
        refine WL.nil ?_
        refine WC.ret ?_
        have e1 : C.sem.readErr b p = 0 := by unfold Chip.readErr; rw [if_neg (by show ¬ C.up = false; rw [hup]; decide), if_neg (by rw [h1]; decide)]
        refine BodyQ.ret (H' := Cells bt _ (ints .u8 (C.sem.reads b p)) :: C.A bc :: F) (Res.tmp2 rfl rfl rfl) (fun w h => ?_) (.inl ⟨e1, bt, rfl, rfl⟩)
        rw [hre] at h
        exact (Sat.all (l := C.parts bc) (h.sel 9 [2, 3, 4, 5, 6, 7, 8, 0] rfl)).p1
  | some e =>
    obtain ⟨Ap, cp, xp⟩ := e
    have hpe := hC.page _ _ hpg
    have hb0 : (C.sem.pages (b, p)).getD C.sem.blank = xp := by
      rw [show C.sem.pages (b, p) = (C.pages (b, p)).map (·.2.2) from rfl, hpg]; rfl
    rw [hb0] at hre hbl hbb
    have hxl : xp.length = C.g.raw.toNat := by omega
    have hsp : SeqIn C.own Ap xp.length 1 (ints .u8 xp) := hpe.1
    refine Does.enter Try.func19 rfl Try.ntmps19 rfl ?_
    simp only [env0, Nat.reduceAdd]
    refine WC.seq ?_
    refine WC.region ?_
    refine WL.val (V.assign (OV.p rfl)) rfl ?_
    refine WL.val (V.assign (OV.p rfl)) rfl ?_
    refine WL.nil ?_
    refine WC.seq ?_
    refine WC.seq ?_
    refine WC.region ?_
    refine WL.val (V.move (OV.p rfl)) rfl ?_
    refine WL.call (vs := [_]) Try.call43 ⟨OV.p rfl, trivial⟩ (chip_ready (C := C) (by repeat (first | exact Rds.all | apply Rds.up))) rfl ?_
    rintro _ H0 ⟨rfl, h0⟩
    subst H0
    refine WL.val (V.assign (OV.p rfl)) rfl ?_
    refine WL.nil ?_
    refine WC.seq ?_
    refine WC.region ?_
    refine WL.val (V.move (OV.p rfl)) rfl ?_
    refine WL.val (V.neq (OV.p rfl) (OV.p rfl)) rfl ?_
    refine WL.nil ?_
    refine WC.cond rfl (fun hc0 => ?_) (fun hc0 => ?_)
    · skip
      have hup : C.up = false := by cases h : C.up <;> simp [Chip.ready, Cw.sem, h] at hc0 ⊢
      refine WC.seq ?_
      refine WC.region ?_
      refine WL.val (V.move (OV.p rfl)) rfl ?_
      refine WL.val (V.assign (OV.p rfl)) rfl ?_
      refine WL.val (V.assign (OV.p rfl)) rfl ?_
      refine WL.nil ?_
      refine WC.ret ?_
      have e1 : C.sem.readErr b p = 70 := by unfold Chip.readErr; rw [if_pos (show C.sem.up = false from hup)]
      have e2 : C.sem.ready = 70 := by unfold Chip.ready; rw [if_neg (by show ¬ C.up = true; rw [hup]; decide)]
      rw [e2]
      exact BodyQ.ret (H' := C.A bc :: F) (Res.tmp2 rfl rfl rfl) (fun w h => Sat.all (l := C.parts bc) h) (.inr ⟨by rw [e1]; decide, by rw [e1], rfl⟩)
    · skip
      have hup : C.up = true := by cases h : C.up <;> simp [Chip.ready, Cw.sem, h] at hc0 ⊢
      refine WC.skip ?_
      refine WC.seq ?_
      refine WC.seq ?_
      refine WC.region ?_
      refine WL.val (V.move (OV.p rfl)) rfl ?_
      refine WL.val (V.move (OV.p rfl)) rfl ?_
      refine WL.val (V.move (OV.p rfl)) rfl ?_
      refine WL.call (vs := [_, _, _]) Try.call44 ⟨OV.p rfl, OV.p rfl, OV.p rfl, trivial⟩ (chip_page (C := C) b p (by repeat (first | exact Rds.all | apply Rds.up))) rfl ?_
      rintro _ H0 ⟨rfl, h0⟩
      subst H0
      refine WL.val (V.not (OV.p rfl)) rfl ?_
      refine WL.nil ?_
      refine WC.cond rfl (fun hc1 => ?_) (fun hc1 => ?_)
      · simp only [decide_eq_true_eq, decide_eq_false_iff_not, Bool.and_eq_true, Bool.or_eq_true, Bool.and_eq_false_iff, Bool.or_eq_false_iff, Bool.not_eq_true', Bool.not_eq_false', Bool.not_eq_true, Bool.not_eq_false] at hc1
        have h1 := hc1
        refine WC.seq ?_
        refine WC.region ?_
        refine WL.val (V.assign (OV.p rfl)) rfl ?_
        refine WL.val (V.assign (OV.p rfl)) rfl ?_
        refine WL.nil ?_
        refine WC.ret ?_
        have e1 : C.sem.readErr b p = 1 := by unfold Chip.readErr; rw [if_neg (by show ¬ C.up = false; rw [hup]; decide), if_pos h1]
        exact BodyQ.ret (H' := C.A bc :: F) (Res.tmp2 rfl rfl rfl) (fun w h => Sat.all (l := C.parts bc) h) (.inr ⟨by rw [e1]; decide, by rw [e1], rfl⟩)
      · simp only [decide_eq_true_eq, decide_eq_false_iff_not, Bool.and_eq_true, Bool.or_eq_true, Bool.and_eq_false_iff, Bool.or_eq_false_iff, Bool.not_eq_true', Bool.not_eq_false', Bool.not_eq_true, Bool.not_eq_false] at hc1
        have h1 := hc1
        refine WC.skip ?_
        refine WC.seq ?_
        refine WC.region ?_
        refine WL.val (V.move (OV.p rfl)) rfl ?_
        refine WL.val (V.nilCheck (OV.p rfl)) rfl ?_
        refine WL.val (V.fieldAddr fo77_2 (OV.p rfl)) rfl ?_
        refine WL.val (V.load Try.isAgg73 (OV.p rfl) (fun _ => by repeat (first | exact Rd.here rfl | apply Rd.up))) rfl ?_
        refine WL.val (V.move (OV.p rfl)) rfl ?_
        refine WL.val (V.move (OV.p rfl)) rfl ?_
        refine WL.val (V.build (vs := [(0, _), (1, _)]) ⟨OV.p rfl, OV.p rfl, trivial⟩ rfl (bld82_0_1 _ _)) rfl ?_
        refine WL.val (V.val_eq (v' := .tuple #[.slice Ap xp.length cp, .bool true]) (V.lookupOk (k := (b, p)) Try.underlying73 Try.zeroValue29 kl82 (OV.p rfl) (OV.p rfl) (fun _ => by repeat (first | exact RdM.here | apply RdM.up))) (fun _ => by unfold Cw.pagesF; rw [hpg]; rfl)) rfl ?_
        refine WL.val (V.move (OV.p rfl)) rfl ?_
        refine WL.val (V.extract (OV.p rfl) rfl) rfl ?_
        refine WL.val (V.extract (OV.p rfl) rfl) rfl ?_
        refine WL.val (V.assign (OV.p rfl)) rfl ?_
        refine WL.val (V.assign (OV.p rfl)) rfl ?_
        refine WL.nil ?_
        refine WC.seq ?_
        refine WC.seq ?_
        refine WC.region ?_
        refine WL.val (V.move (OV.p rfl)) rfl ?_
        refine WL.val (V.not (OV.p rfl)) rfl ?_
        refine WL.nil ?_
        refine WC.condF' rfl (by first | rfl | (simp; done) | (simp; omega)) ?_
        refine WC.skip ?_
        refine WC.seq ?_
        refine WC.region ?_
        refine WL.val (V.move (OV.p rfl)) rfl ?_
        refine WL.val (V.move (OV.p rfl)) rfl ?_
        refine WL.val (V.nilCheck (OV.p rfl)) rfl ?_
        refine WL.val (V.fieldAddr fo77_3 (OV.p rfl)) rfl ?_
        refine WL.val (V.load Try.isAgg74 (OV.p rfl) (fun _ => by repeat (first | exact Rd.here rfl | apply Rd.up))) rfl ?_
        refine WL.val (V.move (OV.p rfl)) rfl ?_
        refine WL.val (V.move (OV.p rfl)) rfl ?_
        refine WL.val (V.build (vs := [(0, _), (1, _)]) ⟨OV.p rfl, OV.p rfl, trivial⟩ rfl (bld82_0_1 _ _)) rfl ?_
        refine WL.val (V.val_eq (v' := .slice Aw lw.length cw) (V.lookup (k := (b, p)) Try.underlying74 Try.zeroValue40 kl82 (OV.p rfl) (OV.p rfl) (fun _ => by repeat (first | exact RdM.here | apply RdM.up))) (fun _ => hw1)) rfl ?_
        refine WL.call (vs := [_, _]) Try.call49 ⟨OV.p rfl, OV.p rfl, trivial⟩ (bits_Turn hbb (by repeat (first | exact SeqIn.seq hsp | apply Seq.up)) (by repeat (first | exact SeqIn.seq hw2 | apply Seq.up)) (by rw [hbl]; exact hw3) (by omega) hwl) rfl ?_
        rintro _ _ ⟨bt, rfl, rfl⟩
        refine WL.val (V.extract (OV.p rfl) rfl) rfl ?_
        refine WL.val (V.extract (OV.p rfl) rfl) rfl ?_
        refine WL.val (V.assign (OV.p rfl)) rfl ?_
        refine WL.val (V.assign (OV.p rfl)) rfl ?_
        refine WL.nil ?_
        refine WC.ret ?_
        have e1 : C.sem.readErr b p = 0 := by unfold Chip.readErr; rw [if_neg (by show ¬ C.up = false; rw [hup]; decide), if_neg (by rw [h1]; decide)]
        refine BodyQ.ret (H' := Cells bt _ (ints .u8 (C.sem.reads b p)) :: C.A bc :: F) (Res.tmp2 rfl rfl rfl) (fun w h => ?_) (.inl ⟨e1, bt, by rw [hxl], rfl⟩)
        rw [hre] at h
        exact (Sat.all (l := C.parts bc) (h.sel 8 [1, 2, 3, 4, 5, 6, 7, 0] rfl)).p1
end Go.Proofs.Ytgmdagjnigkaaaa
