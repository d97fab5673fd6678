/- slices.Sort at []int, by the kit's contract, over a slice of one's own. -/
import Derived.Test.YtgmdagjnigkaaaaF0
import Derived.Test.YtgmdagjnigkaaaaF3
namespace Go.Proofs.Ytgmdagjnigkaaaa
open Go.Sl Go.RowKit
set_option linter.unusedVariables false
set_option linter.unusedSimpArgs false
set_option maxRecDepth 20000
def sorted (xs : List Int) : List Int := xs.mergeSort fun x y => decide (x ≤ y)
theorem sorted_length (xs : List Int) : (sorted xs).length = xs.length := List.length_mergeSort xs
theorem sorted_sorted (xs : List Int) : (sorted xs).Pairwise (· ≤ ·) := by
  have h := List.pairwise_mergeSort (le := fun x y : Int => decide (x ≤ y)) (fun a b c h1 h2 => by simp at h1 h2 ⊢; omega) (fun a b => by simp; omega) xs
  exact h.imp fun {a b} h => of_decide_eq_true h
theorem mem_sorted {xs : List Int} {x : Int} : x ∈ sorted xs ↔ x ∈ xs := List.mem_mergeSort
theorem len64_0 {K : World} {F : List Assn} : Tells Try.prog 104 #[.int .u64 0] K F (.int .i64 0) := by
  refine Does.enter Try.func104 rfl Try.ntmps104 rfl ?_
  simp only [env0, Nat.reduceAdd]
  refine WC.seq ?_
  refine WC.region ?_
  refine WL.val (V.assign (OV.p rfl)) rfl ?_
  refine WL.nil ?_
  refine WC.seq ?_
  refine WC.seq ?_
  refine WC.region ?_
  refine WL.val (V.move (OV.p rfl)) rfl ?_
  refine WL.val (V.geq (OV.p rfl) (OV.p rfl)) rfl ?_
  refine WL.nil ?_
  refine WC.condF' rfl (by first | rfl | (simp; done) | (simp; omega)) ?_
  refine WC.skip ?_
  refine WC.seq ?_
  refine WC.seq ?_
  refine WC.region ?_
  refine WL.val (V.move (OV.p rfl)) rfl ?_
  refine WL.val (V.geq (OV.p rfl) (OV.p rfl)) rfl ?_
  refine WL.nil ?_
  refine WC.condF' rfl (by first | rfl | (simp; done) | (simp; omega)) ?_
  refine WC.skip ?_
  refine WC.seq ?_
  refine WC.seq ?_
  refine WC.region ?_
  refine WL.val (V.move (OV.p rfl)) rfl ?_
  refine WL.val (V.geq (OV.p rfl) (OV.p rfl)) rfl ?_
  refine WL.nil ?_
  refine WC.condF' rfl (by first | rfl | (simp; done) | (simp; omega)) ?_
  refine WC.skip ?_
  refine WC.seq ?_
  refine WC.region ?_
  refine WL.val (V.move (OV.p rfl)) rfl ?_
  refine WL.val (V.move (OV.p rfl)) rfl ?_
  refine WL.val (V.convW Try.runUnderlying133 Try.runUnderlying5 (OV.p rfl) (fun _ => rfl)) rfl ?_
  refine WL.val (V.idxStr (b := 0) Try.underlying9 (OV.p rfl) (OV.p rfl) (fun _ => ⟨by decide, by kernel_rfl⟩)) rfl ?_
  refine WL.val (V.convW Try.runUnderlying5 Try.runUnderlying3 (OV.p rfl) (fun _ => rfl)) rfl ?_
  refine WL.val (V.val_eq (v' := .int .i64 0) (V.add (OV.p rfl) (OV.p rfl)) (fun _ => rfl)) rfl ?_
  refine WL.val (V.assign (OV.p rfl)) rfl ?_
  refine WL.nil ?_
  refine WC.ret ?_
  exact BodyQ.ret (H' := F) (Res.tmp rfl rfl) (fun w h => h) ⟨rfl, rfl⟩
theorem len_0 {K : World} {F : List Assn} : Tells Try.prog 86 #[.int .u64 0] K F (.int .i64 0) := by
  refine Does.enter Try.func86 rfl Try.ntmps86 rfl ?_
  simp only [env0, Nat.reduceAdd]
  refine WC.seq ?_
  refine WC.region ?_
  refine WL.val (V.assign (OV.p rfl)) rfl ?_
  refine WL.nil ?_
  refine WC.seq ?_
  refine WC.condF' rfl (by first | rfl | (simp; done) | (simp; omega)) ?_
  refine WC.skip ?_
  refine WC.seq ?_
  refine WC.region ?_
  refine WL.val (V.move (OV.p rfl)) rfl ?_
  refine WL.call (vs := [_]) Try.call104 ⟨OV.p rfl, trivial⟩ (len64_0) rfl ?_
  rintro _ H0 ⟨rfl, h0⟩
  subst H0
  refine WL.val (V.assign (OV.p rfl)) rfl ?_
  refine WL.nil ?_
  refine WC.ret ?_
  exact BodyQ.ret (H' := F) (Res.tmp rfl rfl) (fun w h => h) ⟨rfl, rfl⟩
theorem insertion_0 {v : Value} {K : World} {F : List Assn} : Does Try.prog 94 #[v, .int .i64 0, .int .i64 0] K F (fun _ H' => H' = F) := by
  refine Does.enter Try.func94 rfl Try.ntmps94 rfl ?_
  simp only [env0, Nat.reduceAdd]
  refine WC.seq ?_
  refine WC.region ?_
  refine WL.val (V.move (OV.p rfl)) rfl ?_
  refine WL.val (V.addI (OV.p rfl) (OV.p rfl) (fun hc => by first | omega | (simp at hc; omega))) rfl ?_
  refine WL.val (V.assign (OV.p rfl)) rfl ?_
  refine WL.nil ?_
  refine WC.block ?_
  refine WC.rounds 1 ?_
  refine WC.seq ?_
  refine WC.seq ?_
  refine WC.region ?_
  refine WL.val (V.move (OV.p rfl)) rfl ?_
  refine WL.val (V.move (OV.p rfl)) rfl ?_
  refine WL.val (V.lss (OV.p rfl) (OV.p rfl)) rfl ?_
  refine WL.nil ?_
  refine WC.condF' rfl (by first | rfl | (simp; done) | (simp; omega)) ?_
  refine WC.exit ?_
  exact BodyQ.normal (H' := F) (Res.none rfl) (fun w h => h) rfl
theorem pdq_0 {v : Value} {K : World} {F : List Assn} : Does Try.prog 85 #[v, .int .i64 0, .int .i64 0, .int .i64 0] K F (fun _ H' => H' = F) := by
  refine Does.enter Try.func85 rfl Try.ntmps85 rfl ?_
  simp only [env0, Nat.reduceAdd]
  refine WC.seq ?_
  refine WC.region ?_
  refine WL.val (V.assign (OV.p rfl)) rfl ?_
  refine WL.nil ?_
  refine WC.seq ?_
  refine WC.region ?_
  refine WL.val (V.assign (OV.p rfl)) rfl ?_
  refine WL.nil ?_
  refine WC.block ?_
  refine WC.rounds 1 ?_
  refine WC.block ?_
  refine WC.seq ?_
  refine WC.region ?_
  refine WL.val (V.move (OV.p rfl)) rfl ?_
  refine WL.val (V.move (OV.p rfl)) rfl ?_
  refine WL.val (V.subI (OV.p rfl) (OV.p rfl) (fun hc => by first | omega | (simp at hc; omega))) rfl ?_
  refine WL.val (V.assign (OV.p rfl)) rfl ?_
  refine WL.nil ?_
  refine WC.seq ?_
  refine WC.seq ?_
  refine WC.region ?_
  refine WL.val (V.move (OV.p rfl)) rfl ?_
  refine WL.val (V.leq (OV.p rfl) (OV.p rfl)) rfl ?_
  refine WL.nil ?_
  refine WC.condT' rfl (by first | rfl | (simp; done) | (simp; omega)) ?_
  refine WC.seq ?_
  refine WC.region ?_
  refine WL.val (V.move (OV.p rfl)) rfl ?_
  refine WL.val (V.move (OV.p rfl)) rfl ?_
  refine WL.val (V.move (OV.p rfl)) rfl ?_
  refine WL.call (vs := [_, _, _]) Try.call94 ⟨OV.p rfl, OV.p rfl, OV.p rfl, trivial⟩ (insertion_0) rfl ?_
  rintro v H0 h0
  subst H0
  refine WL.nil ?_
  refine WC.ret ?_
  exact BodyQ.ret (H' := F) (Res.none rfl) (fun w h => h) rfl
theorem sort_nil {K : World} {F : List Assn} : Does Try.prog 64 #[.slice none 0 0] K F (fun v H' => H' = F) := by
  refine Does.enter Try.func64 rfl Try.ntmps64 rfl ?_
  simp only [env0, Nat.reduceAdd]
  refine WC.seq ?_
  refine WC.region ?_
  refine WL.val (V.move (OV.p rfl)) rfl ?_
  refine WL.val (V.len (t := 40) Try.runUnderlying40 (OV.p rfl)) rfl ?_
  refine WL.val (V.assign (OV.p rfl)) rfl ?_
  refine WL.nil ?_
  refine WC.region ?_
  refine WL.val (V.move (OV.p rfl)) rfl ?_
  refine WL.val (V.move (OV.p rfl)) rfl ?_
  refine WL.val (V.move (OV.p rfl)) rfl ?_
  refine WL.val (V.convW Try.runUnderlying3 Try.runUnderlying115 (OV.p rfl) (fun _ => rfl)) rfl ?_
  refine WL.call (vs := [_]) Try.call86 ⟨OV.p rfl, trivial⟩ (len_0) rfl ?_
  rintro _ H0 ⟨rfl, h0⟩
  subst H0
  refine WL.call (vs := [_, _, _, _]) Try.call85 ⟨OV.p rfl, OV.p rfl, OV.p rfl, OV.p rfl, trivial⟩ (pdq_0) rfl ?_
  rintro v H0 h0
  subst H0
  refine WL.nil ?_
  exact BodyQ.normal (H' := F) (Res.none rfl) (fun w h => h) rfl
theorem sort_own {g m cap : Nat} {xs : List Int} {K : World} {F : List Assn} (hm : m = xs.length) (hsz : xs.length < 4611686018427387904) :
    Does Try.prog 64 #[.slice (some ⟨g, 0, none⟩) m cap] K (SlA (.slice (some ⟨g, 0, none⟩) m cap) 3 1 m (ints .i64 xs) :: F)
      (fun v H' => H' = SlA (.slice (some ⟨g, 0, none⟩) m cap) 3 1 m (ints .i64 (sorted xs)) :: F) := by
  intro w hw
  subst hm
  have hown := hw.head
  obtain ⟨h1, h2⟩ := hown
  rcases h2 with ⟨h2, _⟩ | ⟨g', cap', cur, h2, _, h3, h4, h5, h6, h7⟩
  · cases h2
  · injection h2 with e1 e2 e3
    simp only [Option.some.injEq, Addr.mk.injEq] at e1
    obtain ⟨rfl, _⟩ := e1
    subst e3
    have hlen : (ints .i64 xs).length = xs.length := ints_length _ _
    have hcur : ∀ j, j < xs.length → cur[j]? = some (.int .i64 xs[j]!) := fun j hj => by
      have e4 : (cur.toList.take (xs.length * 1))[j]? = (ints .i64 xs)[j]? := by rw [h7]
      rw [List.getElem?_take, if_pos (by omega), Array.getElem?_toList, ints_getD _ _ hj] at e4
      rw [e4]
      simp [List.getD, hj]
    have hH : Go.Sort.Holds (Value.int .i64) w g 0 xs.toArray := fun j hj => by
      have hj' : j < xs.length := by simpa using hj
      refine ⟨?_, ?_⟩
      · simp only [World.cell?, h3, Nat.zero_add, hcur j hj']
        simp [hj']
      · simp [World.frozen?, h3]
    have hlt : g < w.heap.size := by
      rcases Nat.lt_or_ge g w.heap.size with h | h
      · exact h
      · rw [Array.getElem?_eq_none h] at h3; cases h3
    refine (Any.slices_Sort_int Try.lays189 g 0 cap xs w hH hlt hsz).mono fun e w' ⟨he, n, os, hw'⟩ => ⟨.tuple #[], _, he, ?_, rfl⟩
    subst hw'
    have hheap : (Go.Sort.grow (Go.Sort.putRow (Value.int .i64) (Go.Sort.ahead w n) g 0 (xs.mergeSort fun x y => decide (x ≤ y)).toArray) os).heap = w.heap.modify g (Go.Sort.onCells (Go.Sort.putCells (Value.int .i64) 0 (xs.mergeSort fun x y => decide (x ≤ y)).toArray)) ++ os := rfl
    have hsize : w.heap.size ≤ (Go.Sort.grow (Go.Sort.putRow (Value.int .i64) (Go.Sort.ahead w n) g 0 (xs.mergeSort fun x y => decide (x ≤ y)).toArray) os).heap.size := by rw [hheap]; simp
    have hat : ∀ b, b < w.heap.size → (Go.Sort.grow (Go.Sort.putRow (Value.int .i64) (Go.Sort.ahead w n) g 0 (xs.mergeSort fun x y => decide (x ≤ y)).toArray) os).heap[b]? = (w.heap.modify g (Go.Sort.onCells (Go.Sort.putCells (Value.int .i64) 0 (xs.mergeSort fun x y => decide (x ≤ y)).toArray)))[b]? := fun b hb => by
      rw [hheap, Array.getElem?_append_left (by simpa using hb)]
    refine ⟨hw.1.grow rfl rfl rfl hsize, hw.2.set (A' := SlA (.slice (some ⟨g, 0, none⟩) xs.length cap) 3 1 xs.length (ints .i64 (sorted xs))) hsize (fun b hb hb' => ?_) ⟨?_, .inr ⟨g, cap, Go.Sort.putCells (Value.int .i64) 0 (xs.mergeSort fun x y => decide (x ≤ y)).toArray cur, rfl, Nat.zero_le _, ?_, h4, h5, ?_, ?_⟩⟩ (fun b hb => .inl hb)⟩
    · have hne : g ≠ b := fun e => hb (by simp [SlA, Value.ownBlock, e])
      rw [hat b hb', Array.getElem?_modify, if_neg hne]
    · rw [ints_length, sorted_length, Nat.mul_one]
    · rw [hat g hlt, Array.getElem?_modify, if_pos rfl, h3]; rfl
    · unfold Go.Sort.putCells; rw [Array.size_mapIdx]; exact h6
    · apply List.ext_getElem?
      intro j
      have hcl : xs.length ≤ cur.size := by omega
      rw [List.getElem?_take, Nat.mul_one]
      by_cases hj : j < xs.length
      · rw [if_pos hj, Array.getElem?_toList, ints_getD _ _ (by rw [sorted_length]; exact hj)]
        have hcj : j < cur.size := by omega
        unfold Go.Sort.putCells
        rw [Array.getElem?_mapIdx, Array.getElem?_eq_getElem hcj]
        have hsl : j < (xs.mergeSort fun x y => decide (x ≤ y)).length := by rw [List.length_mergeSort]; exact hj
        simp [sorted, List.getD, hsl]
        intro h
        omega
      · rw [if_neg hj, List.getElem?_eq_none (by rw [ints_length, sorted_length]; omega)]
theorem sort_ints {A : Option Addr} {m cap : Nat} {xs : List Int} {K : World} {F : List Assn} (hsz : xs.length < 4611686018427387904) :
    Does Try.prog 64 #[.slice A m cap] K (SlA (.slice A m cap) 3 1 m (ints .i64 xs) :: F)
      (fun v H' => H' = SlA (.slice A m cap) 3 1 m (ints .i64 (sorted xs)) :: F) := by
  refine Does.have_ (p := xs.length = m) (fun w hw => by have := SlA.len hw; rwa [ints_length, Nat.mul_one] at this) (fun hl => ?_)
  cases A with
  | none =>
    refine Does.have_ (p := m = 0 ∧ cap = 0 ∧ xs = []) (fun w hw => by have := SlA.nilCs hw; simpa [ints] using this) (fun ⟨e1, e2, e3⟩ => ?_)
    subst e1 e2 e3
    exact sort_nil.mono fun v H' h => by rw [h, show sorted [] = [] by simp [sorted]]
  | some a =>
    refine Does.have_ (p := ∃ g, a = ⟨g, 0, none⟩) (fun w hw => SlA.addr hw) (fun ⟨g, e1⟩ => ?_)
    subst e1
    exact sort_own hl.symm hsz
end Go.Proofs.Ytgmdagjnigkaaaa
