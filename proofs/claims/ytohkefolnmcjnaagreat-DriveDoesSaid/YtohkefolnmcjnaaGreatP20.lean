import Derived.Test.YtohkefolnmcjnaaGreatP19
import Derived.Test.YtohkefolnmcjnaaGreatP17
/- casemateref05: the generator. -/
namespace Go.Proofs.YtohkefolnmcjnaaGreat
open Go.Sl Go.RowKit
set_option linter.unusedVariables false
set_option linter.unusedSimpArgs false
set_option maxRecDepth 20000

def stp1 (q p : List Nat) (x i : Nat) : List Nat := q.set i (q.getD i 0 ^^^ gmul (p.getD i 0) x)
def stp2 (q p : List Nat) (i : Nat) : List Nat := q.set (i + 1) (q.getD (i + 1) 0 ^^^ p.getD i 0)
def stpTo (p : List Nat) (x : Nat) : Nat → List Nat
  | 0 => List.replicate (p.length + 1) 0
  | i + 1 => stp2 (stp1 (stpTo p x i) p x i) p i
def conjTo (n : Nat) : Nat → List Nat × Nat
  | 0 => ([1], gexp (n : Int))
  | k + 1 => (stpTo (conjTo n k).1 (conjTo n k).2 (conjTo n k).1.length, gmul (conjTo n k).2 (conjTo n k).2)
def genTo : Nat → List Nat
  | 0 => [1]
  | i + 1 => mul4 (genTo i) (conjTo (2 * i + 1) 13).1
theorem stp1_length (q p : List Nat) (x i : Nat) : (stp1 q p x i).length = q.length := by simp [stp1]
theorem stp2_length (q p : List Nat) (i : Nat) : (stp2 q p i).length = q.length := by simp [stp2]
theorem stpTo_length (p : List Nat) (x : Nat) : ∀ i, (stpTo p x i).length = p.length + 1
  | 0 => List.length_replicate
  | i + 1 => by rw [stpTo, stp2_length, stp1_length, stpTo_length]
theorem stp1_small {q p : List Nat} {x i : Nat} (hq : Small 8192 q) (hp : Small 8192 p) : Small 8192 (stp1 q p x i) := hq.set (xor_lt (k := 13) (hq.at_ (by decide) _) (gmul_lt (hp.at_ (by decide) _)))
theorem stp2_small {q p : List Nat} {i : Nat} (hq : Small 8192 q) (hp : Small 8192 p) : Small 8192 (stp2 q p i) := hq.set (xor_lt (k := 13) (hq.at_ (by decide) _) (hp.at_ (by decide) _))
theorem stpTo_small {p : List Nat} {x : Nat} (hp : Small 8192 p) : ∀ i, Small 8192 (stpTo p x i)
  | 0 => Small.repl (by decide)
  | i + 1 => stp2_small (stp1_small (stpTo_small hp i) hp) hp
theorem conjTo_facts (n : Nat) : ∀ k, (conjTo n k).1.length = k + 1 ∧ Small 8192 (conjTo n k).1 ∧ (conjTo n k).2 < 8192
  | 0 => ⟨rfl, fun y hy => by rw [List.mem_singleton.1 hy]; decide, gexp_lt _⟩
  | k + 1 => by
    obtain ⟨h1, h2, h3⟩ := conjTo_facts n k
    exact ⟨by rw [conjTo, stpTo_length, h1], stpTo_small h2 _, gmul_lt h3⟩
theorem conj_ok : ((List.range 8).all fun i => (conjTo (2 * i + 1) 13).1.all fun x => Nat.blt x 2) = true := by kernel_rfl
theorem conj_small {i : Nat} (h : i < 8) : Small 2 (conjTo (2 * i + 1) 13).1 := fun x hx => by
  have := List.all_eq_true.1 (List.all_eq_true.1 conj_ok i (List.mem_range.2 h)) x hx
  simpa using this
theorem mul4_length (a b : List Nat) : (mul4 a b).length = a.length + b.length := mul4To_length a b _
theorem genTo_facts : ∀ i, (genTo i).length = 1 + 14 * i ∧ Small 2 (genTo i)
  | 0 => ⟨rfl, fun y hy => by rw [List.mem_singleton.1 hy]; decide⟩
  | i + 1 => by
    obtain ⟨h1, h2⟩ := genTo_facts i
    exact ⟨by rw [genTo, mul4_length, h1, (conjTo_facts _ 13).1]; omega, mul4To_small _ _ _⟩
section
variable {K : World} {F : List Assn}
theorem ref05_generator {t : Nat} (ht : 1 ≤ t ∧ t ≤ 8) :
    Does Tryz.prog 179 #[.int .i64 (t : Int)] K F (fun v H' => ∃ g, v = .slice (some ⟨g, 0, none⟩) (1 + 14 * t) (1 + 14 * t) ∧ H' = Cells g 3 (nats .i64 (genTo t)) :: F) := by
  refine Does.enter Tryz.func179 rfl Tryz.ntmps179 rfl ?_
  simp only [env0, Nat.reduceAdd]
  refine WC.sr ?_
  refine WL.val (V.assign (OV.p rfl)) rfl ?_
  refine WL.nil ?_
  refine WC.sr ?_
  refine WL.buildSlice (E := 3) (cs := [_]) (vs := [(0, _)]) ⟨OV.p rfl, trivial⟩ rfl (bsl42_1_0 _) rfl (fun b10 => ?_)
  refine WL.val (V.assign (OV.p rfl)) rfl ?_
  refine WL.nil ?_
  refine WC.seq ?_
  refine WC.sr ?_
  refine WL.val (V.assign (OV.p rfl)) rfl ?_
  refine WL.nil ?_
  refine WC.block ?_
  refine WC.loop (σ := Nat × Nat) (fun s => [(0, .int .i64 (t : Int)), (3, .slice (some ⟨s.2, 0, none⟩) (1 + 14 * s.1) (1 + 14 * s.1)), (4, .int .i64 ((2 * s.1 + 1 : Nat) : Int))]) (fun s => Cells s.2 3 (nats .i64 (genTo s.1)) :: F) (fun s => s.1 ≤ t) (fun s => t - s.1) (0, b10) (Nat.zero_le _) (.cons rfl (.cons rfl (.cons rfl (.nil _)))) (fun w h => h) ?_
  rintro ⟨i, ga⟩ hi
  dsimp only at hi ⊢
  obtain ⟨gl, gs⟩ := genTo_facts i
  refine WC.seq ?_
  refine WC.sr ?_
  refine WL.val (V.move (OV.p rfl)) rfl ?_
  refine WL.val (V.move (OV.p rfl)) rfl ?_
  refine WL.val (V.mulI (OV.p rfl) (OV.p rfl) (fun hc => by first | omega | (simp at hc; omega))) rfl ?_
  refine WL.val (V.lss (OV.p rfl) (OV.p rfl)) rfl ?_
  refine WL.nil ?_
  refine WC.cond rfl (fun hc0 => ?_) (fun hc0 => ?_)
  ·simp only [decide_eq_true_eq, decide_eq_false_iff_not] at hc0
   have hit : i < t := by omega
   obtain ⟨n, hn⟩ : ∃ n, n = 2 * i + 1 := ⟨_, rfl⟩
   obtain ⟨al, hal⟩ : ∃ al, al = genTo i := ⟨_, rfl⟩
   obtain ⟨L, hL⟩ : ∃ L, L = 1 + 14 * i := ⟨_, rfl⟩
   have hall : al.length = L := by rw [hal, gl, hL]
   rw [← hn, ← hal, ← hL]
   refine WC.skip ?_
   refine WC.seq ?_
   refine WC.block ?_
   refine WC.sr ?_
   refine WL.buildSlice (E := 3) (cs := [_]) (vs := [(0, _)]) ⟨OV.p rfl, trivial⟩ rfl (bsl42_1_0 _) rfl (fun b17 => ?_)
   refine WL.val (V.assign (OV.p rfl)) rfl ?_
   refine WL.nil ?_
   refine WC.sr ?_
   refine WL.val (V.move (OV.p rfl)) rfl ?_
   refine WL.call (vs := [_]) Tryz.call200 ⟨OV.p rfl, trivial⟩ (ref02_Exp (n := n) (by omega)) rfl ?_
   rintro _ H0 ⟨rfl, h0⟩
   subst H0
   refine WL.val (V.assign (OV.p rfl)) rfl ?_
   refine WL.nil ?_
   refine WC.seq ?_
   refine WC.sr ?_
   refine WL.val (V.assign (OV.p rfl)) rfl ?_
   refine WL.nil ?_
   refine WC.block ?_
   refine WC.loop (σ := Nat × Nat) (fun s => [(0, .int .i64 (t : Int)), (3, .slice (some ⟨ga, 0, none⟩) L L), (4, .int .i64 (n : Int)), (5, .slice (some ⟨s.2, 0, none⟩) (s.1 + 1) (s.1 + 1)), (6, .int .i64 ((conjTo n s.1).2 : Nat)), (7, .int .i64 (s.1 : Int))]) (fun s => Cells s.2 3 (nats .i64 (conjTo n s.1).1) :: Cells ga 3 (nats .i64 al) :: F) (fun s => s.1 ≤ 13) (fun s => 13 - s.1) (0, b17) (Nat.zero_le _) (.cons rfl (.cons rfl (.cons rfl (.cons rfl (.cons rfl (.cons rfl (.nil _))))))) (fun w h => h) ?_
   rintro ⟨k, gp⟩ hk
   dsimp only at hk ⊢
   obtain ⟨cl, cs, cx⟩ := conjTo_facts n k
   refine WC.seq ?_
   refine WC.sr ?_
   refine WL.val (V.move (OV.p rfl)) rfl ?_
   refine WL.val (V.lss (OV.p rfl) (OV.p rfl)) rfl ?_
   refine WL.nil ?_
   refine WC.cond rfl (fun hc1 => ?_) (fun hc1 => ?_)
   ·simp only [decide_eq_true_eq, decide_eq_false_iff_not] at hc1
    obtain ⟨p, hp⟩ : ∃ p, p = (conjTo n k).1 := ⟨_, rfl⟩
    obtain ⟨x, hx⟩ : ∃ x, x = (conjTo n k).2 := ⟨_, rfl⟩
    rw [← hp] at cl cs
    rw [← hx] at cx
    rw [← hp, ← hx]
    refine WC.skip ?_
    refine WC.seq ?_
    refine WC.block ?_
    refine WC.sr ?_
    refine WL.val (V.move (OV.p rfl)) rfl ?_
    refine WL.val (V.len (t := 42) Tryz.runUnderlying42 (OV.p rfl)) rfl ?_
    refine WL.val (V.addI (OV.p rfl) (OV.p rfl) (fun hc => by first | omega | (simp at hc; omega))) rfl ?_
    refine WL.make1 (m := k + 2) Tryz.underlying42 el3 (OV.p rfl) (OV.p rfl) (by omega) (by omega) (by omega) rfl rfl rfl (fun gq => ?_)
    refine WL.val (V.assign (OV.p rfl)) rfl ?_
    refine WL.nil ?_
    refine WC.seq ?_
    refine WC.sr ?_
    refine WL.val (V.assign (OV.p rfl)) rfl ?_
    refine WL.nil ?_
    refine WC.block ?_
    refine WC.loop (σ := Nat) (fun j => [(0, .int .i64 (t : Int)), (3, .slice (some ⟨ga, 0, none⟩) L L), (4, .int .i64 (n : Int)), (5, .slice (some ⟨gp, 0, none⟩) (k + 1) (k + 1)), (6, .int .i64 (x : Nat)), (7, .int .i64 (k : Int)), (8, .slice (some ⟨gq, 0, none⟩) (k + 2) (k + 2)), (9, .int .i64 (j : Int))]) (fun j => Cells gq 3 (nats .i64 (stpTo p x j)) :: Cells gp 3 (nats .i64 p) :: Cells ga 3 (nats .i64 al) :: F) (fun j => j ≤ k + 1) (fun j => k + 1 - j) 0 (Nat.zero_le _) (.cons rfl (.cons rfl (.cons rfl (.cons rfl (.cons rfl (.cons rfl (.cons rfl (.cons rfl (.nil _))))))))) (fun w h => Sat.cells_eq h (by rw [stpTo, cl, nats_replicate]; rfl)) ?_
    rintro j hj
    refine WC.seq ?_
    refine WC.sr ?_
    refine WL.val (V.move (OV.p rfl)) rfl ?_
    refine WL.val (V.move (OV.p rfl)) rfl ?_
    refine WL.val (V.len (t := 42) Tryz.runUnderlying42 (OV.p rfl)) rfl ?_
    refine WL.val (V.lss (OV.p rfl) (OV.p rfl)) rfl ?_
    refine WL.nil ?_
    refine WC.cond rfl (fun hc2 => ?_) (fun hc2 => ?_)
    ·simp only [decide_eq_true_eq, decide_eq_false_iff_not] at hc2
     have hjk : j < k + 1 := by omega
     obtain ⟨q, hq⟩ : ∃ q, q = stpTo p x j := ⟨_, rfl⟩
     have hql : q.length = k + 2 := by rw [hq, stpTo_length, cl]
     have hqs : Small 8192 q := by rw [hq]; exact stpTo_small cs j
     rw [← hq]
     obtain ⟨pj, hpj⟩ : ∃ pj, pj = p.getD j 0 := ⟨_, rfl⟩
     have hpj8 : pj < 8192 := by rw [hpj]; exact cs.at_ (by decide) j
     have hrp : ∀ {X : List Assn}, Rd K (Cells gp 3 (nats .i64 p) :: X) (some ⟨gp, 0 + (j : Int).toNat * 1, none⟩) (.int .i64 (pj : Int)) := fun {X} => by
       rw [show 0 + (j : Int).toNat * 1 = j by omega, hpj]; exact Rd.here (nats_get _ _ (by omega))
     obtain ⟨qj, hqj⟩ : ∃ qj, qj = q.getD j 0 := ⟨_, rfl⟩
     have hqj8 : qj < 8192 := by rw [hqj]; exact hqs.at_ (by decide) j
     have hgq : (nats .i64 q)[0 + (j : Int).toNat * 1]? = some (.int .i64 (qj : Int)) := by
       rw [show 0 + (j : Int).toNat * 1 = j by omega, hqj]; exact nats_get _ _ (by omega)
     have hmx := gmul_lt (b := x) hpj8
     refine WC.skip ?_
     refine WC.seq ?_
     refine WC.block ?_
     refine WC.seq ?_
     refine WC.regionA (Cells gp 3 (nats .i64 p) :: Cells ga 3 (nats .i64 al) :: F) (by kernel_rfl) ?_
     refine WA.t 0 rfl (V.move (OV.p rfl)) ?_
     refine WA.t 1 rfl (V.move (OV.p rfl)) ?_
     refine WA.t 2 rfl (V.move (OV.p rfl)) ?_
     refine WA.t 3 rfl (V.move (OV.p rfl)) ?_
     refine WA.t 4 rfl (V.idxB st42 (OV.p rfl) (OV.p rfl) (fun hc => by omega)) ?_
     refine WA.t 6 rfl (V.move (OV.p rfl)) ?_
     refine WA.t 7 rfl (V.move (OV.p rfl)) ?_
     refine WA.t 8 rfl (V.idxB st42 (OV.p rfl) (OV.p rfl) (fun hc => by omega)) ?_
     refine WA.t 9 rfl (V.load Tryz.isAgg3 (OV.p rfl) (fun hc => hrp)) ?_
     refine WA.t 10 rfl (V.move (OV.p rfl)) ?_
     refine WA.two (i := 5) (j := 11) (fun w h => by repeat (first | exact h | replace h := h.tail)) (by kernel_rfl) rfl rfl ?_ ?_
     ·refine WL.val (V.load Tryz.isAgg3 (OV.p rfl) (fun hc => Rd.here hgq)) rfl ?_
      refine WL.nil ?_
      refine WA.o 11 rfl ?_
      refine WL.call (vs := [_, _]) Tryz.call202 ⟨OV.p rfl, OV.p rfl, trivial⟩ (ref02_Mul hpj8 cx) rfl ?_
      rintro _ H0 ⟨rfl, h0⟩
      subst H0
      refine WL.nil ?_
      refine WA.o 12 rfl ?_
      refine WL.call (vs := [_, _]) Tryz.call201 ⟨OV.p rfl, OV.p rfl, trivial⟩ (ref02_Sum (by omega) (by omega)) rfl ?_
      rintro _ H0 ⟨rfl, h0⟩
      subst H0
      refine WL.nil ?_
      refine WA.t 13 rfl (V.idxB st42 (OV.p rfl) (OV.p rfl) (fun hc => by omega)) ?_
      refine WA.o 14 rfl ?_
      refine WL.store (cs := [_]) Tryz.sizeOf3 (OV.p rfl) (OV.p rfl) rfl rfl rfl (Upd.at_ (by rw [nats_length]; omega)) ?_
      refine WL.nil ?_
      refine WA.fin ?_
      refine WC.sub (H' := Cells gq 3 (nats .i64 (stp1 q p x j)) :: Cells gp 3 (nats .i64 p) :: Cells ga 3 (nats .i64 al) :: F) (Sub.refl _) (fun w h => Sat.cells_eq h (by rw [show 0 + (j : Int).toNat * 1 = j by omega, nats_set]; unfold stp1; rw [← hqj, ← hpj])) ?_
      obtain ⟨r, hr⟩ : ∃ r, r = stp1 q p x j := ⟨_, rfl⟩
      have hrl : r.length = k + 2 := by rw [hr, stp1_length, hql]
      have hrs : Small 8192 r := by rw [hr]; exact stp1_small hqs cs
      obtain ⟨rj, hrj⟩ : ∃ rj, rj = r.getD (j + 1) 0 := ⟨_, rfl⟩
      have hrj8 : rj < 8192 := by rw [hrj]; exact hrs.at_ (by decide) _
      have hgr : (nats .i64 r)[0 + ((j : Int) + 1).toNat * 1]? = some (.int .i64 (rj : Int)) := by
        rw [show 0 + ((j : Int) + 1).toNat * 1 = j + 1 by omega, hrj]; exact nats_get _ _ (by omega)
      rw [← hr]
      refine WC.regionA (Cells gp 3 (nats .i64 p) :: Cells ga 3 (nats .i64 al) :: F) (by kernel_rfl) ?_
      refine WA.t 0 rfl (V.move (OV.p rfl)) ?_
      refine WA.t 1 rfl (V.move (OV.p rfl)) ?_
      refine WA.t 2 rfl (V.addI (OV.p rfl) (OV.p rfl) (fun hc => by first | omega | (simp at hc; omega))) ?_
      refine WA.t 3 rfl (V.move (OV.p rfl)) ?_
      refine WA.t 4 rfl (V.move (OV.p rfl)) ?_
      refine WA.t 5 rfl (V.addI (OV.p rfl) (OV.p rfl) (fun hc => by first | omega | (simp at hc; omega))) ?_
      refine WA.t 6 rfl (V.idxB st42 (OV.p rfl) (OV.p rfl) (fun hc => by omega)) ?_
      refine WA.t 8 rfl (V.move (OV.p rfl)) ?_
      refine WA.t 9 rfl (V.move (OV.p rfl)) ?_
      refine WA.t 10 rfl (V.idxB st42 (OV.p rfl) (OV.p rfl) (fun hc => by omega)) ?_
      refine WA.t 11 rfl (V.load Tryz.isAgg3 (OV.p rfl) (fun hc => hrp)) ?_
      refine WA.o 7 rfl ?_
      refine WL.val (V.load Tryz.isAgg3 (OV.p rfl) (fun hc => Rd.here hgr)) rfl ?_
      refine WL.nil ?_
      refine WA.o 12 rfl ?_
      refine WL.call (vs := [_, _]) Tryz.call201 ⟨OV.p rfl, OV.p rfl, trivial⟩ (ref02_Sum (by omega) (by omega)) rfl ?_
      rintro _ H0 ⟨rfl, h0⟩
      subst H0
      refine WL.nil ?_
      refine WA.t 13 rfl (V.idxB st42 (OV.p rfl) (OV.p rfl) (fun hc => by omega)) ?_
      refine WA.o 14 rfl ?_
      refine WL.store (cs := [_]) Tryz.sizeOf3 (OV.p rfl) (OV.p rfl) rfl rfl rfl (Upd.at_ (by rw [nats_length]; omega)) ?_
      refine WL.nil ?_
      refine WA.fin ?_
      refine WC.region ?_
      refine WL.val (V.move (OV.p rfl)) rfl ?_
      refine WL.val (V.addI (OV.p rfl) (OV.p rfl) (fun hc => by first | omega | (simp at hc; omega))) rfl ?_
      refine WL.val (V.assign (OV.p rfl)) rfl ?_
      refine WL.nil ?_
      refine ⟨rfl, ?_⟩
      refine ⟨j + 1, hjk, (by show k + 1 - (j + 1) < k + 1 - j; omega), .cons rfl (.cons rfl (.cons rfl (.cons rfl (.cons rfl (.cons rfl (.cons rfl (.cons (look_eq rfl (by simp)) (.nil _)))))))), fun w h => Sat.cells_eq h ?_⟩
      rw [show 0 + ((j : Int) + 1).toNat * 1 = j + 1 by omega, nats_set, stpTo, ← hq, ← hr]
      unfold stp2
      rw [← hrj, ← hpj]
     ·refine WL.call (vs := [_, _]) Tryz.call202 ⟨OV.p rfl, OV.p rfl, trivial⟩ (ref02_Mul hpj8 cx) rfl ?_
      rintro _ H0 ⟨rfl, h0⟩
      subst H0
      refine WL.nil ?_
      refine WA.o 5 rfl ?_
      refine WL.val (V.load Tryz.isAgg3 (OV.p rfl) (fun hc => Rd.here hgq)) rfl ?_
      refine WL.nil ?_
      refine WA.o 12 rfl ?_
      refine WL.call (vs := [_, _]) Tryz.call201 ⟨OV.p rfl, OV.p rfl, trivial⟩ (ref02_Sum (by omega) (by omega)) rfl ?_
      rintro _ H0 ⟨rfl, h0⟩
      subst H0
      refine WL.nil ?_
      refine WA.t 13 rfl (V.idxB st42 (OV.p rfl) (OV.p rfl) (fun hc => by omega)) ?_
      refine WA.o 14 rfl ?_
      refine WL.store (cs := [_]) Tryz.sizeOf3 (OV.p rfl) (OV.p rfl) rfl rfl rfl (Upd.at_ (by rw [nats_length]; omega)) ?_
      refine WL.nil ?_
      refine WA.fin ?_
      refine WC.sub (H' := Cells gq 3 (nats .i64 (stp1 q p x j)) :: Cells gp 3 (nats .i64 p) :: Cells ga 3 (nats .i64 al) :: F) (Sub.refl _) (fun w h => Sat.cells_eq h (by rw [show 0 + (j : Int).toNat * 1 = j by omega, nats_set]; unfold stp1; rw [← hqj, ← hpj])) ?_
      obtain ⟨r, hr⟩ : ∃ r, r = stp1 q p x j := ⟨_, rfl⟩
      have hrl : r.length = k + 2 := by rw [hr, stp1_length, hql]
      have hrs : Small 8192 r := by rw [hr]; exact stp1_small hqs cs
      obtain ⟨rj, hrj⟩ : ∃ rj, rj = r.getD (j + 1) 0 := ⟨_, rfl⟩
      have hrj8 : rj < 8192 := by rw [hrj]; exact hrs.at_ (by decide) _
      have hgr : (nats .i64 r)[0 + ((j : Int) + 1).toNat * 1]? = some (.int .i64 (rj : Int)) := by
        rw [show 0 + ((j : Int) + 1).toNat * 1 = j + 1 by omega, hrj]; exact nats_get _ _ (by omega)
      rw [← hr]
      refine WC.regionA (Cells gp 3 (nats .i64 p) :: Cells ga 3 (nats .i64 al) :: F) (by kernel_rfl) ?_
      refine WA.t 0 rfl (V.move (OV.p rfl)) ?_
      refine WA.t 1 rfl (V.move (OV.p rfl)) ?_
      refine WA.t 2 rfl (V.addI (OV.p rfl) (OV.p rfl) (fun hc => by first | omega | (simp at hc; omega))) ?_
      refine WA.t 3 rfl (V.move (OV.p rfl)) ?_
      refine WA.t 4 rfl (V.move (OV.p rfl)) ?_
      refine WA.t 5 rfl (V.addI (OV.p rfl) (OV.p rfl) (fun hc => by first | omega | (simp at hc; omega))) ?_
      refine WA.t 6 rfl (V.idxB st42 (OV.p rfl) (OV.p rfl) (fun hc => by omega)) ?_
      refine WA.t 8 rfl (V.move (OV.p rfl)) ?_
      refine WA.t 9 rfl (V.move (OV.p rfl)) ?_
      refine WA.t 10 rfl (V.idxB st42 (OV.p rfl) (OV.p rfl) (fun hc => by omega)) ?_
      refine WA.t 11 rfl (V.load Tryz.isAgg3 (OV.p rfl) (fun hc => hrp)) ?_
      refine WA.o 7 rfl ?_
      refine WL.val (V.load Tryz.isAgg3 (OV.p rfl) (fun hc => Rd.here hgr)) rfl ?_
      refine WL.nil ?_
      refine WA.o 12 rfl ?_
      refine WL.call (vs := [_, _]) Tryz.call201 ⟨OV.p rfl, OV.p rfl, trivial⟩ (ref02_Sum (by omega) (by omega)) rfl ?_
      rintro _ H0 ⟨rfl, h0⟩
      subst H0
      refine WL.nil ?_
      refine WA.t 13 rfl (V.idxB st42 (OV.p rfl) (OV.p rfl) (fun hc => by omega)) ?_
      refine WA.o 14 rfl ?_
      refine WL.store (cs := [_]) Tryz.sizeOf3 (OV.p rfl) (OV.p rfl) rfl rfl rfl (Upd.at_ (by rw [nats_length]; omega)) ?_
      refine WL.nil ?_
      refine WA.fin ?_
      refine WC.region ?_
      refine WL.val (V.move (OV.p rfl)) rfl ?_
      refine WL.val (V.addI (OV.p rfl) (OV.p rfl) (fun hc => by first | omega | (simp at hc; omega))) rfl ?_
      refine WL.val (V.assign (OV.p rfl)) rfl ?_
      refine WL.nil ?_
      refine ⟨rfl, ?_⟩
      refine ⟨j + 1, hjk, (by show k + 1 - (j + 1) < k + 1 - j; omega), .cons rfl (.cons rfl (.cons rfl (.cons rfl (.cons rfl (.cons rfl (.cons rfl (.cons (look_eq rfl (by simp)) (.nil _)))))))), fun w h => Sat.cells_eq h ?_⟩
      rw [show 0 + ((j : Int) + 1).toNat * 1 = j + 1 by omega, nats_set, stpTo, ← hq, ← hr]
      unfold stp2
      rw [← hrj, ← hpj]
    ·simp only [decide_eq_true_eq, decide_eq_false_iff_not] at hc2
     refine WC.exit ?_
     refine WC.seq ?_
     obtain rfl : j = k + 1 := by omega
     refine WC.region ?_
     refine WL.val (V.move (OV.p rfl)) rfl ?_
     refine WL.val (V.assign (OV.p rfl)) rfl ?_
     refine WL.nil ?_
     refine WC.region ?_
     refine WL.val (V.move (OV.p rfl)) rfl ?_
     refine WL.val (V.move (OV.p rfl)) rfl ?_
     refine WL.call (vs := [_, _]) Tryz.call202 ⟨OV.p rfl, OV.p rfl, trivial⟩ (ref02_Mul cx cx) rfl ?_
     rintro _ H0 ⟨rfl, h0⟩
     subst H0
     refine WL.val (V.assign (OV.p rfl)) rfl ?_
     refine WL.nil ?_
     refine WC.region ?_
     refine WL.val (V.move (OV.p rfl)) rfl ?_
     refine WL.val (V.addI (OV.p rfl) (OV.p rfl) (fun hc => by first | omega | (simp at hc; omega))) rfl ?_
     refine WL.val (V.assign (OV.p rfl)) rfl ?_
     refine WL.nil ?_
     refine ⟨rfl, ?_⟩
     refine ⟨(k + 1, gq), (by show k + 1 ≤ 13; omega), (by show 13 - (k + 1) < 13 - k; omega), .cons rfl (.cons rfl (.cons rfl (.cons rfl (.cons (look_eq rfl (by rw [conjTo, ← hx])) (.cons (look_eq rfl (by simp)) (.nil _)))))), fun w h => ?_⟩
     have h' := h.sel 3 [0, 2] rfl
     dsimp only
     rw [conjTo, ← hp, ← hx, cl]
     exact h'
   ·simp only [decide_eq_true_eq, decide_eq_false_iff_not] at hc1
    refine WC.exit ?_
    obtain rfl : k = 13 := by omega
    have hc2 : Small 2 (conjTo n 13).1 := by rw [hn]; exact conj_small (by omega)
    rw [← hal] at gs
    refine WC.region ?_
    refine WL.val (V.move (OV.p rfl)) rfl ?_
    refine WL.val (V.move (OV.p rfl)) rfl ?_
    refine WL.call (vs := [_, _]) Tryz.call203 ⟨OV.p rfl, OV.p rfl, trivial⟩ (ref04_Mul (xs := al) (ys := (conjTo n 13).1) (m := L) (q := 14) (Seq.up (Seq.allN hall)) (Seq.allN cl) gs hc2 (by omega)) rfl ?_
    rintro _ _ ⟨gm, rfl, rfl⟩
    refine WL.val (V.assign (OV.p rfl)) rfl ?_
    refine WL.nil ?_
    refine WC.region ?_
    refine WL.val (V.move (OV.p rfl)) rfl ?_
    refine WL.val (V.addI (OV.p rfl) (OV.p rfl) (fun hc => by first | omega | (simp at hc; omega))) rfl ?_
    refine WL.val (V.assign (OV.p rfl)) rfl ?_
    refine WL.nil ?_
    refine ⟨rfl, ?_⟩
    refine ⟨(i + 1, gm), (by show i + 1 ≤ t; omega), (by show t - (i + 1) < t - i; omega), .cons rfl (.cons (look_eq rfl (by dsimp only; rw [hL, show 1 + 14 * i + 14 = 1 + 14 * (i + 1) by omega])) (.cons (look_eq rfl (by refine congrArg (Value.int .i64) ?_; dsimp only; omega)) (.nil _))), fun w h => ?_⟩
    have h' := h.sel 3 [0] rfl
    dsimp only
    rw [genTo, ← hal, ← hn]
    exact h'
  ·simp only [decide_eq_true_eq, decide_eq_false_iff_not] at hc0
   refine WC.exit ?_
   refine WC.sr ?_
   refine WL.val (V.move (OV.p rfl)) rfl ?_
   refine WL.val (V.assign (OV.p rfl)) rfl ?_
   refine WL.nil ?_
   refine WC.ret ?_
   obtain rfl : i = t := by omega
   exact BodyQ.ret (H' := Cells ga 3 (nats .i64 (genTo i)) :: F) (Res.tmp rfl rfl) (fun w h => h) ⟨ga, rfl, rfl⟩
end
end Go.Proofs.YtohkefolnmcjnaaGreat
/- casemateref05: Encode tells what bch's does. -/
namespace Go.Proofs.YtohkefolnmcjnaaGreat
open Go.Sl Go.RowKit
set_option linter.unusedVariables false
set_option linter.unusedSimpArgs false
set_option maxRecDepth 20000

theorem redTo_len {f g : Nat → Bool} {d N M : Nat} (h1 : ∀ i, N ≤ i → f i = false) (hNM : N ≤ M) (j : Nat) : redTo f g d M (M - d) j = redTo f g d N (N - d) j := by
  by_cases h : d ≤ N
  · have := redTo_more (g := g) (d := d) h1 (M - N) (N - d) j
    rwa [show N + (M - N) = M by omega, show M - N + (N - d) = M - d by omega] at this
  · have := redTo_skip (f := f) (g := g) (d := d) (N := M) (k := 0) (M - d) (fun i k1 k2 => h1 i (by omega)) (by omega) j
    rw [Nat.zero_add] at this
    rw [this, show N - d = 0 by omega]; rfl
def gbitsOk (t : Nat) : Bool := ((List.range 140).all fun j => bitL (genTo t) j == bitAt (genB t) j) && Nat.beq (normLen (genTo t) (genTo t).length) (13 * t + 1) && Nat.ble (8 * (genB t).length) 140
theorem gbits_ok : [1, 2, 3, 4, 5, 6, 7, 8].all gbitsOk = true := by kernel_rfl
theorem gbits {t : Nat} (ht : 1 ≤ t ∧ t ≤ 8) : (∀ j, bitL (genTo t) j = bitAt (genB t) j) ∧ normLen (genTo t) (genTo t).length = 13 * t + 1 := by
  have h := List.all_eq_true.1 gbits_ok t (by simp only [List.mem_cons, List.not_mem_nil, or_false]; omega)
  unfold gbitsOk at h
  rw [Bool.and_eq_true, Bool.and_eq_true] at h
  obtain ⟨⟨h1, h2⟩, h3⟩ := h
  refine ⟨fun j => ?_, Nat.eq_of_beq_eq_true h2⟩
  by_cases hj : j < 140
  · exact eq_of_beq (List.all_eq_true.1 h1 j (List.mem_range.2 hj))
  · rw [bitL_none (by rw [(genTo_facts t).1]; omega), bitAt_none (by have := Nat.le_of_ble_eq_true h3; omega)]
theorem prod_bits {t : Nat} {d : List Nat} (hd : Small 256 d) (j : Nat) : bitAt (prodB t d) j = (decide (13 * t ≤ j) && bitAt d (j - 13 * t)) := by
  have hl : (bmulF (shiftB t) d).length = (shiftB t).length + d.length + 1 := bmulTo_length _ _ _
  unfold prodB
  rw [bitAt_norm hl.symm, shift_full, bitAt_addTo (Small.repl (by decide)) hd _ (by rw [List.length_replicate, shiftB_length]; unfold moreLen; omega), bitAt_zeros, Bool.false_xor]
  by_cases h : j - 13 * t < 8 * d.length
  · rw [decide_eq_true h, Bool.and_true]
  · rw [decide_eq_false h, Bool.and_false, Bool.false_and, bitAt_none (by omega), Bool.and_false]
theorem enc_red {t : Nat} {d : List Nat} (ht : 1 ≤ t ∧ t ≤ 8) (hd : Small 256 d) (z : Nat) (j : Nat) :
    redTo (bitL (wordN t d (List.replicate z 0))) (bitL (genTo t)) (13 * t) (13 * t + 8 * d.length) (13 * t + 8 * d.length - 13 * t) j = bitAt (encB t d) j := by
  obtain ⟨g1, g2, g3, g4, g5⟩ := gen_facts ht
  have hf : bitL (wordN t d (List.replicate z 0)) = bitAt (prodB t d) := funext fun i => by
    rw [bitL_word, prod_bits hd]
    unfold wAt
    by_cases h : 13 * t ≤ i
    · rw [if_pos h, decide_eq_true h, Bool.true_and]
    · rw [if_neg h, decide_eq_false h, bitAt_zeros, Bool.false_and]
  have hg : bitL (genTo t) = bitAt (genB t) := funext (gbits ht).1
  have h1 : ∀ i, 13 * t + 8 * d.length ≤ i → bitAt (prodB t d) i = false := fun i hi => by rw [← hf]; exact bitL_none (by rw [wordN_length]; exact hi)
  have h2 : ∀ i, 8 * (prodB t d).length ≤ i → bitAt (prodB t d) i = false := fun i hi => bitAt_none hi
  rw [encB_bit]
  unfold restB
  rw [bmod_red (prodB_small hd) g5 rfl g3 _ (Nat.le_refl _), hf, hg]
  rcases Nat.le_total (13 * t + 8 * d.length) (8 * (prodB t d).length) with h | h
  · exact (redTo_len h1 h j).symm
  · exact redTo_len h2 h j
/-- Bits put to bytes: they are those bytes. -/
theorem put_is {l : List Int} {xs : List Int} (hx : IsBytes xs) (hl : xs.length = (l.length + 7) / 8) (h : ∀ i, i < 8 * xs.length → l.getD i 0 = bitOf xs i) : putI l = xs := by
  have hcut : ∀ j n m, n ≤ m → (∀ k, n ≤ k → k < m → l.getD (8 * j + k) 0 = 0) → byteOf l j m = byteOf l j n := by
    intro j n m hnm hz
    induction m with
    | zero => obtain rfl : n = 0 := by omega
              rfl
    | succ m ih =>
      rcases Nat.lt_or_ge m n with h1 | h1
      · obtain rfl : n = m + 1 := by omega
        rfl
      · rw [byteOf, hz m h1 (Nat.lt_succ_self m), Int.mul_zero, Int.add_zero]
        exact ih h1 (fun k k1 k2 => hz k k1 (by omega))
  apply List.ext_getElem
  · unfold putI; rw [putTo_length]; omega
  · intro j h1 h2
    have e1 : (putI l)[j] = byteOf l j (min 8 (l.length - 8 * j)) := by
      unfold putI
      simp [putTo]
    rw [e1, ← hcut j _ 8 (by omega) (fun k k1 k2 => by rw [List.getD, List.getElem?_eq_none (by omega)]; rfl)]
    refine byte_back (hx _ (List.getElem_mem h2)) (fun m hm => ?_)
    rw [h _ (by omega)]
    unfold bitOf
    rw [show (8 * j + m) / 8 = j by omega, show (8 * j + m) % 8 = m by omega]
    simp [List.getD, h2]
section
variable {K : World} {F : List Assn}
theorem ref05_Encode {t : Nat} {A : Option Addr} {m cap : Nat} {d : List Nat} (ht : 1 ≤ t ∧ t ≤ 8) (hd : Seq K F A m 1 (nats .u8 d)) (h8 : Small 256 d) (hm : 1 ≤ m ∧ m ≤ 512) :
    Does Tryz.prog 144 #[.int .i64 (t : Int), .slice A m cap] K F (fun v H' => ∃ g, v = .slice (some ⟨g, 0, none⟩) (moreLen t) (moreLen t) ∧ H' = Cells g 5 (nats .u8 (encB t d)) :: F) := by
  have hl : d.length = m := by simpa [nats] using hd.len
  have hmore : 2 ≤ moreLen t ∧ moreLen t ≤ 13 := by unfold moreLen; omega
  have hbt : ∀ (K : World) (F : List Assn), Tells Tryz.prog 79 #[.int .i64 (t : Int)] K F (.int .i64 ((moreLen t : Nat) : Int)) := fun K F => (ref05_Bytes (t : Int) (by omega) K F).eq (by congr 1)
  obtain ⟨gf, gn⟩ := gbits ht
  obtain ⟨gl, gs⟩ := genTo_facts t
  refine Does.enter Tryz.func144 rfl Tryz.ntmps144 rfl ?_
  simp only [env0, Nat.reduceAdd]
  refine WC.sr ?_
  refine WL.val (V.assign (OV.p rfl)) rfl ?_
  refine WL.nil ?_
  refine WC.sr ?_
  refine WL.val (V.move (OV.p rfl)) rfl ?_
  refine WL.call (vs := [_]) Tryz.call79 ⟨OV.p rfl, trivial⟩ (hbt _ _) rfl ?_
  rintro _ H0 ⟨rfl, h0⟩
  subst H0
  refine WL.make1 (m := moreLen t) Tryz.underlying38 el5 (OV.p rfl) (OV.p rfl) (by omega) (by omega) (by omega) rfl rfl rfl (fun b9 => ?_)
  refine WL.sub (H' := Cells b9 5 (nats .u8 (List.replicate (moreLen t) 0)) :: F) (Sub.refl _) (fun w h => Sat.cells_eq h (by rw [nats_replicate]; rfl)) ?_
  refine WL.val (V.assign (OV.p rfl)) rfl ?_
  refine WL.nil ?_
  refine WC.sr ?_
  refine WL.val (V.move (OV.p rfl)) rfl ?_
  refine WL.val (V.move (OV.p rfl)) rfl ?_
  refine WL.val (V.move (OV.p rfl)) rfl ?_
  refine WL.call (vs := [_, _, _]) Tryz.call178 ⟨OV.p rfl, OV.p rfl, OV.p rfl, trivial⟩ (ref05_Word ht (hd.up) (Seq.allN List.length_replicate) h8 (Small.repl (by decide)) rfl (by omega)) rfl ?_
  rintro _ _ ⟨Aw, cw, rfl, rfl⟩
  refine WL.val (V.move (OV.p rfl)) rfl ?_
  refine WL.call (vs := [_]) Tryz.call179 ⟨OV.p rfl, trivial⟩ (ref05_generator ht) rfl ?_
  rintro _ _ ⟨gg, rfl, rfl⟩
  refine WL.call (vs := [_, _]) Tryz.call177 ⟨OV.p rfl, OV.p rfl, trivial⟩ (ref04_Mod (d := 13 * t) (Seq.up (SlA.seq (by rw [nats_length, wordN_length, hl, Nat.mul_one]))) (Seq.allN gl) (wordN_small _ _ _) gs (by omega) (by omega) (by rw [← gl]; exact gn)) rfl ?_
  rintro _ _ ⟨gm, cm, R, r, rfl, rfl, hrc, hR2, hRl, hRb⟩
  refine WL.val (V.assign (OV.p rfl)) rfl ?_
  refine WL.nil ?_
  refine WC.sr ?_
  refine WL.val (V.move (OV.p rfl)) rfl ?_
  refine WL.val (V.move (OV.p rfl)) rfl ?_
  refine WL.val (V.mulI (OV.p rfl) (OV.p rfl) (fun hc => by first | omega | (simp at hc; omega))) rfl ?_
  refine WL.val (V.val_eq (v' := .slice (some ⟨gm, 0, none⟩) (13 * t) cm) (V.slice (l := 0) (h := 13 * t) (u := cm) st42 (OV.p rfl) OO.none (OO.some (OV.p rfl) (fun _ => by omega)) OO.none (by simp) (Nat.zero_le _) (by rw [List.length_append, nats_length] at hrc; omega) (Nat.le_refl _)) (fun _ => by rw [Nat.sub_zero, Nat.sub_zero]; split; rfl; simp [Addr.add])) rfl ?_
  have hli : nats .i64 (R.take (13 * t)) = ints .i64 (intsOf (R.take (13 * t))) := nats_intsOf _ _
  have hsR : Seq K (Cells gm 3 (nats .i64 R ++ r) :: Cells gg 3 (nats .i64 (genTo t)) :: SlA (.slice Aw (13 * t + 8 * m) cw) 3 1 (13 * t + 8 * m) (nats .i64 (wordN t d (List.replicate (moreLen t) 0))) :: Cells b9 5 (nats .u8 (List.replicate (moreLen t) 0)) :: F) (some ⟨gm, 0, none⟩) (13 * t) 1 (ints .i64 (intsOf (R.take (13 * t)))) := by
    rw [← hli]
    refine Seq.here (by rw [nats_length, List.length_take]; omega) ?_
    rw [List.drop_zero]
    have e : nats .i64 R ++ r = nats .i64 (R.take (13 * t)) ++ (nats .i64 (R.drop (13 * t)) ++ r) := by rw [← List.append_assoc, ← nats_append, List.take_append_drop]
    rw [e]
    exact List.prefix_append _ _
  have hput : putI (intsOf (R.take (13 * t))) = intsOf (encB t d) := by
    have hel := encB_length ht h8
    refine put_is (intsOf_bytes (encB_small ht h8)) ?_ (fun i hi => ?_)
    · unfold intsOf; rw [List.length_map, List.length_map, List.length_take, hel]; unfold moreLen; omega
    · rw [bitOf_nat, intsOf_getD]
      have hRi := hRb i
      rw [← hl, enc_red ht h8] at hRi
      by_cases hi2 : i < 13 * t
      · have e2 : (R.take (13 * t)).getD i 0 = R.getD i 0 := by simp [List.getD, List.getElem?_take, hi2]
        rw [e2, ← hRi]
        unfold bitL bit1
        have := hR2.at_ (by decide) i
        by_cases h1 : R.getD i 0 = 1
        · rw [decide_eq_true h1, if_pos rfl, h1]
        · rw [decide_eq_false h1, if_neg Bool.false_ne_true]; omega
      · rw [encB_high ht h8 (by omega)]
        have e2 : (R.take (13 * t)).getD i 0 = 0 := by rw [List.getD, List.getElem?_eq_none (by rw [List.length_take]; omega)]; rfl
        rw [e2]; rfl
  have e7 : (13 * t + 7) / 8 = moreLen t := rfl
  refine WL.call (vs := [_]) Tryz.call147 ⟨OV.p rfl, trivial⟩ (ref01_Put hsR (fun x hx => by
    obtain ⟨y, hy, rfl⟩ := List.mem_map.1 hx
    have := hR2 y (List.mem_of_mem_take hy)
    omega) (by omega)) rfl ?_
  rintro _ _ ⟨gp, rfl, rfl⟩
  rw [hput, e7]
  refine WL.val (V.move (OV.p rfl)) rfl ?_
  refine WL.call (vs := [_]) Tryz.call79 ⟨OV.p rfl, trivial⟩ (hbt _ _) rfl ?_
  rintro _ H0 ⟨rfl, h0⟩
  subst H0
  refine WL.call (vs := [_, _]) Tryz.call180 ⟨OV.p rfl, OV.p rfl, trivial⟩ (ref05_padded rfl) rfl ?_
  rintro _ H0 ⟨rfl, h0⟩
  subst H0
  refine WL.val (V.assign (OV.p rfl)) rfl ?_
  refine WL.nil ?_
  refine WC.ret ?_
  refine BodyQ.ret (H' := Cells gp 5 (nats .u8 (encB t d)) :: F) (Res.tmp rfl rfl) (fun w h => ?_) ⟨gp, rfl, rfl⟩
  rw [nats_intsOf]
  exact h.sel 5 [0] rfl
end
end Go.Proofs.YtohkefolnmcjnaaGreat
/- casemateref06: Pack, sector, Marked. -/
namespace Go.Proofs.YtohkefolnmcjnaaGreat
open Go.Sl Go.RowKit
set_option linter.unusedVariables false
set_option linter.unusedSimpArgs false
set_option maxRecDepth 20000

def ngh (l : List Int) : Nat → Int
  | 0 => 0
  | k + 1 => ngh l k + 1 - l.getD k 0
theorem ngh_bd {l : List Int} (h : ∀ x ∈ l, 0 ≤ x ∧ x ≤ 1) : ∀ k, 0 ≤ ngh l k ∧ ngh l k ≤ (k : Int)
  | 0 => ⟨Int.le_refl _, Int.le_refl _⟩
  | k + 1 => by
    have ih := ngh_bd h k
    have := bits_getD h k
    rw [ngh]; omega
theorem ngh_add (l m : List Int) : ∀ k, ngh (l ++ m) (l.length + k) = ngh (l ++ m) l.length + ngh m k
  | 0 => by simp [ngh]
  | k + 1 => by
    rw [← Nat.add_assoc, ngh, ngh_add l m k, ngh]
    have : (l ++ m).getD (l.length + k) 0 = m.getD k 0 := by simp [List.getD, List.getElem?_append_right]
    rw [this]; omega
theorem ngh_pre (l m : List Int) : ∀ k, k ≤ l.length → ngh (l ++ m) k = ngh l k
  | 0, _ => rfl
  | k + 1, h => by
    rw [ngh, ngh_pre l m k (by omega), ngh]
    have : (l ++ m).getD k 0 = l.getD k 0 := by simp [List.getD, List.getElem?_append_left (show k < l.length by omega)]
    rw [this]
theorem allI_cons (x : Int) (xs : List Int) : allI (x :: xs) = (List.range 8).map (bitK x) ++ allI xs := by
  unfold allI
  rw [List.length_cons, show 8 * (xs.length + 1) = 8 + 8 * xs.length by omega, List.range_add, List.map_append, List.map_map]
  congr 1
  · apply List.map_congr_left
    intro i hi
    show bitOf (x :: xs) (8 + i) = bitOf xs i
    unfold bitOf
    rw [show (8 + i) / 8 = i / 8 + 1 by omega, show (8 + i) % 8 = i % 8 by omega]; rfl
theorem ngh8_ok : ((List.range 256).all fun x => decide (ngh ((List.range 8).map (bitK (x : Int))) 8 = 8 - ((pop8 x : Nat) : Int))) = true := by kernel_rfl
theorem ngh_ones : ∀ xs : List Nat, Small 256 xs → ngh (allI (intsOf xs)) (8 * xs.length) = 8 * (xs.length : Int) - ((ones xs : Nat) : Int)
  | [], _ => rfl
  | x :: xs, h => by
    have ih := ngh_ones xs (fun y hy => h y (.tail _ hy))
    have hx := h x (.head _)
    have e : intsOf (x :: xs) = (x : Int) :: intsOf xs := rfl
    have hl : ((List.range 8).map (bitK (x : Int))).length = 8 := by simp
    have h8 := of_decide_eq_true (List.all_eq_true.1 ngh8_ok x (List.mem_range.2 hx))
    rw [e, allI_cons, List.length_cons, show 8 * (xs.length + 1) = ((List.range 8).map (bitK (x : Int))).length + 8 * xs.length by rw [hl]; omega, ngh_add, ngh_pre _ _ _ (Nat.le_refl _), hl, h8, ih, ones]
    omega
theorem intsOf_small {xs : List Nat} (h : Small 256 xs) : IsBytes (intsOf xs) := intsOf_bytes h
section
variable {K : World} {F : List Assn}
theorem ref06_Pack {bl pg : Int} {S B t : Nat} {A : Option Addr} {m cap : Nat} {d : List Nat} (hg : (NG bl pg S B t).mays) (hd : Seq K F A m 1 (nats .u8 d)) (h8 : Small 256 d) (hm : m = S * B) (hmc : m ≤ cap) :
    Does Tryz.prog 106 #[(NG bl pg S B t).v, .slice A m cap] K F
      (fun v H' => ∃ A' cap', v = .slice A' (rawN S B t) cap' ∧ H' = SlA (.slice A' (rawN S B t) cap') 5 1 (rawN S B t) (nats .u8 (packF t S B d)) :: F) := by
  have hl : d.length = m := by simpa [nats] using hd.len
  have hN := NGood.of hg
  obtain ⟨hs, hb, ht⟩ := hN
  have hmore : 2 ≤ moreLen t ∧ moreLen t ≤ 13 := by unfold moreLen; omega
  have hmle : m ≤ 4096 := by rw [hm]; exact Nat.mul_le_mul hs.2 hb.2
  have hm1 : 1 * 4 ≤ m := by rw [hm]; exact Nat.mul_le_mul hs.1 hb.1
  refine Does.enter Tryz.func106 rfl Tryz.ntmps106 rfl ?_
  simp only [env0, Nat.reduceAdd]
  refine WC.sr ?_
  refine WL.box (cs := [_, _, _, _, _]) (OV.p rfl) rfl rfl (fun b2 => ?_)
  refine WL.val (V.assign (OV.p rfl)) rfl ?_
  refine WL.nil ?_
  refine WC.sr ?_
  refine WL.val (V.assign (OV.p rfl)) rfl ?_
  refine WL.nil ?_
  refine WC.seq ?_
  refine WC.sr ?_
  refine WL.val (V.assign (OV.p rfl)) rfl ?_
  refine WL.nil ?_
  refine WC.block ?_
  refine WC.loop (σ := Nat × Option Addr × Nat) (fun x => [(1, .slice A m cap), (2, ptr b2 0), (5, .slice x.2.1 (x.1 * (B + moreLen t)) x.2.2), (6, .int .i64 (x.1 : Int))]) (fun x => SlA (.slice x.2.1 (x.1 * (B + moreLen t)) x.2.2) 5 1 (x.1 * (B + moreLen t)) (nats .u8 (pkTo t B d x.1)) :: Cells b2 23 [.int .i64 bl, .int .i64 pg, .int .i64 (S : Int), .int .i64 (B : Int), .int .i64 (t : Int)] :: F) (fun x => x.1 ≤ S) (fun x => S - x.1) (0, none, 0) (Nat.zero_le _) (.cons rfl (.cons rfl (.cons (look_eq rfl (by rw [Nat.zero_mul])) (.cons rfl (.nil _))))) (fun w h => by dsimp only; rw [Nat.zero_mul]; exact Sat.slNil h _ _) ?_
  rintro ⟨j, Ao, co⟩ hj
  dsimp only at hj ⊢
  have hjB : j * B ≤ m := by rw [hm]; exact Nat.mul_le_mul_right _ hj
  have hpl := pkTo_length ht h8 (hl.trans hm) j hj
  have hjM := Nat.mul_le_mul hj (show B + moreLen t ≤ 525 by omega)
  refine WC.seq ?_
  refine WC.sr ?_
  refine WL.val (V.move (OV.p rfl)) rfl ?_
  refine WL.val (V.fieldAddr fo23_2 (OV.p rfl)) rfl ?_
  refine WL.val (V.load Tryz.isAgg3 (OV.p rfl) (fun _ => by repeat (first | exact Rd.here rfl | apply Rd.up))) rfl ?_
  refine WL.val (V.lss (OV.p rfl) (OV.p rfl)) rfl ?_
  refine WL.nil ?_
  refine WC.cond rfl (fun hc0 => ?_) (fun hc0 => ?_)
  ·simp only [decide_eq_true_eq, decide_eq_false_iff_not] at hc0
   have hjS : j < S := by omega
   have hj1 : (j + 1) * B ≤ m := by rw [hm]; exact Nat.mul_le_mul_right _ hjS
   have hjc : (j : Int) * (B : Int) = ((j * B : Nat) : Int) := (Int.natCast_mul _ _).symm
   have hjc1 : ((j : Int) + 1) * (B : Int) = (((j + 1) * B : Nat) : Int) := by rw [Int.natCast_mul]; rfl
   have hjc2 : (j + 1) * B = j * B + B := Nat.succ_mul _ _
   have hsl := sect_length (hl.trans hm) hjS
   have hsq : Seq K F (A.map (·.add (j * B * 1))) B 1 (nats .u8 (sect B d j)) := by
     have h1 := Seq.dropS hd (l := j * B) (u := cap) (by omega) hmc
     rw [if_neg (by omega)] at h1
     have h2 := Seq.take h1 (show B ≤ m - j * B by omega)
     rw [nats_drop, nats_take] at h2; exact h2
   refine WC.skip ?_
   refine WC.seq ?_
   refine WC.block ?_
   refine WC.sr ?_
   refine WL.val (V.move (OV.p rfl)) rfl ?_
   refine WL.val (V.move (OV.p rfl)) rfl ?_
   refine WL.val (V.fieldAddr fo23_3 (OV.p rfl)) rfl ?_
   refine WL.val (V.load Tryz.isAgg3 (OV.p rfl) (fun _ => by repeat (first | exact Rd.here rfl | apply Rd.up))) rfl ?_
   refine WL.val (V.val_eq (v' := .int .i64 ((j * B : Nat) : Int)) (V.mulI (OV.p rfl) (OV.p rfl) (fun _ => by rw [hjc]; omega)) (fun _ => by rw [hjc])) rfl ?_
   refine WL.val (V.move (OV.p rfl)) rfl ?_
   refine WL.val (V.addI (OV.p rfl) (OV.p rfl) (fun hc => by first | omega | (simp at hc; omega))) rfl ?_
   refine WL.val (V.fieldAddr fo23_3 (OV.p rfl)) rfl ?_
   refine WL.val (V.load Tryz.isAgg3 (OV.p rfl) (fun _ => by repeat (first | exact Rd.here rfl | apply Rd.up))) rfl ?_
   refine WL.val (V.val_eq (v' := .int .i64 (((j + 1) * B : Nat) : Int)) (V.mulI (OV.p rfl) (OV.p rfl) (fun _ => by rw [hjc1]; omega)) (fun _ => by rw [hjc1])) rfl ?_
   refine WL.val (V.val_eq (v' := .slice (A.map (·.add (j * B * 1))) B (cap - j * B)) (V.slice (l := j * B) (h := (j + 1) * B) (u := cap) st38 (OV.p rfl) (OO.some (OV.p rfl) (fun _ => rfl)) (OO.some (OV.p rfl) (fun _ => rfl)) OO.none (by simp) (by omega) (by omega) (Nat.le_refl _)) (fun _ => by rw [if_neg (by omega), hjc2, Nat.add_sub_cancel_left])) rfl ?_
   refine WL.val (V.assign (OV.p rfl)) rfl ?_
   refine WL.nil ?_
   refine WC.sr ?_
   refine WL.val (V.move (OV.p rfl)) rfl ?_
   refine WL.val (V.move (OV.p rfl)) rfl ?_
   refine WL.append (m := j * (B + moreLen t)) (q := B) Tryz.underlying38 el5 (OV.p rfl) (OV.p rfl) (by repeat (first | exact hsq | apply Seq.up)) (nats_one _ _) (by omega) rfl rfl (fun A3 c3 hA3 hc3 => ?_)
   refine WL.val (V.assign (OV.p rfl)) rfl ?_
   refine WL.nil ?_
   refine WC.region ?_
   refine WL.val (V.move (OV.p rfl)) rfl ?_
   refine WL.val (V.fieldAddr fo23_4 (OV.p rfl)) rfl ?_
   refine WL.val (V.load Tryz.isAgg3 (OV.p rfl) (fun _ => by repeat (first | exact Rd.here rfl | apply Rd.up))) rfl ?_
   refine WL.val (V.move (OV.p rfl)) rfl ?_
   refine WL.call (vs := [_, _]) Tryz.call144 ⟨OV.p rfl, OV.p rfl, trivial⟩ (ref05_Encode ht (hsq.up.up) (sect_small h8 j) (by omega)) rfl ?_
   rintro _ _ ⟨ge, rfl, rfl⟩
   refine WL.sub (Sub.refl _) (fun w h => h.p1) ?_
   refine WL.append (m := j * (B + moreLen t) + B) (q := moreLen t) (news := nats .u8 (encB t (sect B d j))) Tryz.underlying38 el5 (OV.p rfl) (OV.p rfl) (Seq.allN (encB_length ht (sect_small h8 j))) (nats_one _ _) (by omega) rfl rfl (fun A4 c4 hA4 hc4 => ?_)
   refine WL.val (V.assign (OV.p rfl)) rfl ?_
   refine WL.nil ?_
   refine WC.region ?_
   refine WL.val (V.move (OV.p rfl)) rfl ?_
   refine WL.val (V.addI (OV.p rfl) (OV.p rfl) (fun hc => by first | omega | (simp at hc; omega))) rfl ?_
   refine WL.val (V.assign (OV.p rfl)) rfl ?_
   refine WL.nil ?_
   refine ⟨rfl, ?_⟩
   refine ⟨(j + 1, A4, c4), hjS, (by show S - (j + 1) < S - j; omega), .cons rfl (.cons rfl (.cons (look_eq rfl (by dsimp only; rw [Nat.succ_mul, Nat.add_assoc])) (.cons (look_eq rfl (by simp)) (.nil _)))), fun w h => ?_⟩
   dsimp only
   rw [Nat.succ_mul, ← Nat.add_assoc, pkTo, nats_append, nats_append]
   exact h.sel 3 [0, 2] rfl
  ·simp only [decide_eq_true_eq, decide_eq_false_iff_not] at hc0
   refine WC.exit ?_
   refine WC.sr ?_
   refine WL.val (V.move (OV.p rfl)) rfl ?_
   refine WL.buildSlice (E := 5) (cs := [_]) (vs := [(0, _)]) ⟨OV.p rfl, trivial⟩ rfl (bsl38_1_0 _) rfl (fun b35 => ?_)
   obtain rfl : j = S := by omega
   refine WL.sub (Sub.refl _) (fun w h => h.p1) ?_
   refine WL.append (m := j * (B + moreLen t)) (q := 1) (news := [.int .u8 0]) Tryz.underlying38 el5 (OV.p rfl) (OV.p rfl) (Seq.all rfl) (by intro u hu; rw [List.mem_singleton.1 hu]; rfl) (by omega) rfl rfl (fun A5 c5 hA5 hc5 => ?_)
   refine WL.val (V.assign (OV.p rfl)) rfl ?_
   refine WL.nil ?_
   refine WC.sr ?_
   refine WL.val (V.move (OV.p rfl)) rfl ?_
   refine WL.val (V.assign (OV.p rfl)) rfl ?_
   refine WL.nil ?_
   refine WC.ret ?_
   refine BodyQ.ret (H' := SlA (.slice A5 (rawN j B t) c5) 5 1 (rawN j B t) (nats .u8 (packF t j B d)) :: F) (Res.tmp rfl rfl) (fun w h => ?_) ⟨A5, c5, rfl, rfl⟩
   have h' := h.sel 3 [0] rfl
   unfold packF rawN
   rw [nats_append]
   exact h'
theorem ref06_sector {bl pg : Int} {S B t : Nat} {A : Option Addr} {m cap j : Nat} (hg : (NG bl pg S B t).mays) (hm : m = rawN S B t) (hmc : m ≤ cap) (hj : j < S) :
    Tells Tryz.prog 146 #[(NG bl pg S B t).v, .slice A m cap, .int .i64 (j : Int)] K F (.slice (A.map (·.add (j * (B + moreLen t) * 1))) (B + moreLen t) (cap - j * (B + moreLen t))) := by
  have hN := NGood.of hg
  obtain ⟨hs, hb, ht⟩ := hN
  have hmore : 2 ≤ moreLen t ∧ moreLen t ≤ 13 := by unfold moreLen; omega
  obtain ⟨n, hn⟩ : ∃ n, n = B + moreLen t := ⟨_, rfl⟩
  have hj1 : (j + 1) * n ≤ S * n := Nat.mul_le_mul_right _ hj
  have hSn : S * n ≤ 8 * 525 := Nat.mul_le_mul hs.2 (by omega)
  have hm2 : m = S * n + 1 := by rw [hm, hn]; rfl
  have hjc : (j : Int) * (n : Int) = ((j * n : Nat) : Int) := (Int.natCast_mul _ _).symm
  have hjc1 : ((j : Int) + 1) * (n : Int) = (((j + 1) * n : Nat) : Int) := by rw [Int.natCast_mul]; rfl
  have hjc2 : (j + 1) * n = j * n + n := Nat.succ_mul _ _
  have hw : ∀ (K : World) (F : List Assn), Tells Tryz.prog 24 #[(NG bl pg S B t).v] K F (.int .i64 (n : Int)) := fun K F => (ref06_Whole _ hg K F).eq (by rw [NG.whole, hn])
  rw [← hn]
  refine Does.enter Tryz.func146 rfl Tryz.ntmps146 rfl ?_
  simp only [env0, Nat.reduceAdd]
  refine WC.sr ?_
  refine WL.box (cs := [_, _, _, _, _]) (OV.p rfl) rfl rfl (fun b3 => ?_)
  refine WL.val (V.assign (OV.p rfl)) rfl ?_
  refine WL.nil ?_
  refine WC.seq ?_
  refine WC.regionQ (by kernel_rfl) (by kernel_rfl) ?_
  refine WQ.val (V.move (OV.p rfl)) rfl ?_
  refine WQ.val (V.move (OV.p rfl)) rfl ?_
  refine WQ.val (V.loadA (vs := [_, _, _, _, _]) ⟨Tryz.isAgg23, Tryz.sizeOf23⟩ (OV.p rfl) rfl (fun _ => by repeat (first | exact Rds.gets ⟨rfl, rfl, rfl, rfl, rfl, trivial⟩ | apply Rds.up))) rfl ?_
  refine WQ.call (vs := [_]) Tryz.call24 ⟨OV.p rfl, trivial⟩ (hw _ _) rfl ?_
  refine WQ.val (V.val_eq (v' := .int .i64 ((j * n : Nat) : Int)) (V.mulI (OV.p rfl) (OV.p rfl) (fun _ => by rw [hjc]; omega)) (fun _ => by rw [hjc])) rfl ?_
  refine WQ.val (V.move (OV.p rfl)) rfl ?_
  refine WQ.val (V.addI (OV.p rfl) (OV.p rfl) (fun hc => by first | omega | (simp at hc; omega))) rfl ?_
  refine WQ.val (V.loadA (vs := [_, _, _, _, _]) ⟨Tryz.isAgg23, Tryz.sizeOf23⟩ (OV.p rfl) rfl (fun _ => by repeat (first | exact Rds.gets ⟨rfl, rfl, rfl, rfl, rfl, trivial⟩ | apply Rds.up))) rfl ?_
  refine WQ.call (vs := [_]) Tryz.call24 ⟨OV.p rfl, trivial⟩ (hw _ _) rfl ?_
  refine WQ.val (V.val_eq (v' := .int .i64 (((j + 1) * n : Nat) : Int)) (V.mulI (OV.p rfl) (OV.p rfl) (fun _ => by rw [hjc1]; omega)) (fun _ => by rw [hjc1])) rfl ?_
  refine WQ.val (V.val_eq (v' := .slice (A.map (·.add (j * n * 1))) n (cap - j * n)) (V.slice (l := j * n) (h := (j + 1) * n) (u := cap) st38 (OV.p rfl) (OO.some (OV.p rfl) (fun _ => rfl)) (OO.some (OV.p rfl) (fun _ => rfl)) OO.none (by simp) (by omega) (by omega) (Nat.le_refl _)) (fun _ => by rw [if_neg (by omega), hjc2, Nat.add_sub_cancel_left])) rfl ?_
  refine WQ.val (V.assign (OV.p rfl)) rfl ?_
  refine WQ.nil ?_
  refine WC.ret ?_
  exact BodyQ.ret (H' := F) (Res.tmp rfl rfl) (fun w h => h.drop 1) ⟨rfl, rfl⟩
theorem ref06_Marked {bl pg : Int} {S B t : Nat} {A : Option Addr} {m cap : Nat} {raw : List Nat} (hg : (NG bl pg S B t).mays) (hr : Seq K F A m 1 (nats .u8 raw)) (h8 : Small 256 raw) (hm : m = rawN S B t) (hmc : m ≤ cap) :
    Tells Tryz.prog 109 #[(NG bl pg S B t).v, .slice A m cap] K F (.int .i64 (stateF t S (B + moreLen t) raw : Nat)) := by
  have hl : raw.length = m := by simpa [nats] using hr.len
  have hN := NGood.of hg
  obtain ⟨hs, hb, ht⟩ := hN
  have hmore : 2 ≤ moreLen t ∧ moreLen t ≤ 13 := by unfold moreLen; omega
  have hsec := fun (K : World) (F : List Assn) (j : Nat) (hj : j < S) => ref06_sector (K := K) (F := F) (A := A) (cap := cap) hg hm hmc hj
  obtain ⟨n, hn⟩ : ∃ n, n = B + moreLen t := ⟨_, rfl⟩
  have hm2 : m = S * n + 1 := by rw [hm, hn]; rfl
  have hSn : S * n ≤ 8 * 525 := Nat.mul_le_mul hs.2 (by omega)
  rw [← hn] at hsec ⊢
  obtain ⟨z, hz⟩ : ∃ z, z = raw.getD (S * n) 0 := ⟨_, rfl⟩
  have hst : stateF t S n raw = if z = 0 then 0 else if z ≠ 255 then 60 else if tornTo n t raw S = true then 60 else 61 := by unfold stateF; rw [hz]
  rw [hst]
  have hz8 : z < 256 := by rw [hz]; exact h8.at_ (by decide) _
  have hlast : ∀ {X : Assn}, Rd K (X :: F) (A.map (·.add (((m : Int) - 1).toNat * 1))) (.int .u8 (z : Nat)) := fun {X} => by
    rw [show ((m : Int) - 1).toNat = S * n by omega, hz]; exact (hr.nat_rd (by omega)).up
  refine Does.enter Tryz.func109 rfl Tryz.ntmps109 rfl ?_
  simp only [env0, Nat.reduceAdd]
  refine WC.sr ?_
  refine WL.box (cs := [_, _, _, _, _]) (OV.p rfl) rfl rfl (fun b2 => ?_)
  refine WL.val (V.assign (OV.p rfl)) rfl ?_
  refine WL.nil ?_
  refine WC.sr ?_
  refine WL.val (V.move (OV.p rfl)) rfl ?_
  refine WL.val (V.move (OV.p rfl)) rfl ?_
  refine WL.val (V.len (t := 38) Tryz.runUnderlying38 (OV.p rfl)) rfl ?_
  refine WL.val (V.subI (OV.p rfl) (OV.p rfl) (fun hc => by first | omega | (simp at hc; omega))) rfl ?_
  refine WL.val (V.idxS st38 (OV.p rfl) (OV.p rfl) (fun hc => by omega) (fun hc => hlast)) rfl ?_
  refine WL.val (V.load Tryz.isAgg5 (OV.p rfl) (fun hc => hlast)) rfl ?_
  refine WL.val (V.assign (OV.p rfl)) rfl ?_
  refine WL.nil ?_
  refine WC.seq ?_
  refine WC.sr ?_
  refine WL.val (V.move (OV.p rfl)) rfl ?_
  refine WL.val (V.eql (OV.p rfl) (OV.p rfl)) rfl ?_
  refine WL.nil ?_
  refine WC.cond rfl (fun hc0 => ?_) (fun hc0 => ?_)
  ·simp only [decide_eq_true_eq, decide_eq_false_iff_not] at hc0
   rw [if_pos (by omega)]
   refine WC.sr ?_
   refine WL.val (V.assign (OV.p rfl)) rfl ?_
   refine WL.nil ?_
   refine WC.ret ?_
   exact BodyQ.ret (H' := F) (Res.tmp rfl rfl) (fun w h => h.drop 1) ⟨rfl, rfl⟩
  ·simp only [decide_eq_true_eq, decide_eq_false_iff_not] at hc0
   rw [if_neg (by omega)]
   refine WC.skip ?_
   refine WC.seq ?_
   refine WC.sr ?_
   refine WL.val (V.move (OV.p rfl)) rfl ?_
   refine WL.val (V.neq (OV.p rfl) (OV.p rfl)) rfl ?_
   refine WL.nil ?_
   refine WC.cond rfl (fun hc1 => ?_) (fun hc1 => ?_)
   ·simp only [Bool.not_eq_true', Bool.not_eq_false', decide_eq_true_eq, decide_eq_false_iff_not] at hc1
    rw [if_pos (by omega)]
    refine WC.sr ?_
    refine WL.val (V.assign (OV.p rfl)) rfl ?_
    refine WL.nil ?_
    refine WC.ret ?_
    exact BodyQ.ret (H' := F) (Res.tmp rfl rfl) (fun w h => h.drop 1) ⟨rfl, rfl⟩
   ·simp only [Bool.not_eq_true', Bool.not_eq_false', decide_eq_true_eq, decide_eq_false_iff_not] at hc1
    rw [if_neg (by omega)]
    refine WC.skip ?_
    refine WC.seq ?_
    refine WC.sr ?_
    refine WL.val (V.assign (OV.p rfl)) rfl ?_
    refine WL.nil ?_
    refine WC.block ?_
    refine WC.loop (σ := Nat) (fun j => [(1, .slice A m cap), (2, ptr b2 0), (6, .int .i64 (j : Int))]) (fun _ => Cells b2 23 [.int .i64 bl, .int .i64 pg, .int .i64 (S : Int), .int .i64 (B : Int), .int .i64 (t : Int)] :: F) (fun j => j ≤ S ∧ tornTo n t raw j = false) (fun j => S - j) 0 ⟨Nat.zero_le _, rfl⟩ (.cons rfl (.cons rfl (.cons rfl (.nil _)))) (fun w h => h) ?_
    rintro j ⟨hj, hjt⟩
    refine WC.seq ?_
    refine WC.sr ?_
    refine WL.val (V.move (OV.p rfl)) rfl ?_
    refine WL.val (V.fieldAddr fo23_2 (OV.p rfl)) rfl ?_
    refine WL.val (V.load Tryz.isAgg3 (OV.p rfl) (fun _ => by repeat (first | exact Rd.here rfl | apply Rd.up))) rfl ?_
    refine WL.val (V.lss (OV.p rfl) (OV.p rfl)) rfl ?_
    refine WL.nil ?_
    refine WC.cond rfl (fun hc2 => ?_) (fun hc2 => ?_)
    ·simp only [decide_eq_true_eq, decide_eq_false_iff_not] at hc2
     have hjS : j < S := by omega
     have hj1 : (j + 1) * n ≤ S * n := Nat.mul_le_mul_right _ hjS
     rw [Nat.succ_mul] at hj1
     have hsq : Seq K F (A.map (·.add (j * n * 1))) n 1 (nats .u8 (sect n raw j)) := by
       have h1 := Seq.dropS hr (l := j * n) (u := cap) (by omega) hmc
       rw [if_neg (by omega)] at h1
       have h2 := Seq.take h1 (show n ≤ m - j * n by omega)
       rw [nats_drop, nats_take] at h2; exact h2
     obtain ⟨q, hq⟩ : ∃ q, q = sect n raw j := ⟨_, rfl⟩
     have hq8 : Small 256 q := by rw [hq]; exact sect_small h8 j
     have hql : q.length = n := by rw [hq]; unfold sect; rw [List.length_take, List.length_drop]; omega
     have hon := ones_le q
     have hsq2 : Seq K F (A.map (·.add (j * n * 1))) n 1 (ints .u8 (intsOf q)) := by rw [← nats_intsOf, hq]; exact hsq
     have hngo := ngh_ones q hq8
     obtain ⟨l, hle⟩ : ∃ l, l = allI (intsOf q) := ⟨_, rfl⟩
     have hll : l.length = 8 * n := by rw [hle, allI_length]; simp [intsOf, hql]
     have hlb : ∀ x ∈ l, 0 ≤ x ∧ x ≤ 1 := by rw [hle]; exact allI_bits _
     refine WC.skip ?_
     refine WC.seq ?_
     refine WC.block ?_
     refine WC.sr ?_
     refine WL.val (V.loadA (vs := [_, _, _, _, _]) ⟨Tryz.isAgg23, Tryz.sizeOf23⟩ (OV.p rfl) rfl (fun _ => by repeat (first | exact Rds.gets ⟨rfl, rfl, rfl, rfl, rfl, trivial⟩ | apply Rds.up))) rfl ?_
     refine WL.val (V.move (OV.p rfl)) rfl ?_
     refine WL.val (V.move (OV.p rfl)) rfl ?_
     refine WL.call (vs := [_, _, _]) Tryz.call146 ⟨OV.p rfl, OV.p rfl, OV.p rfl, trivial⟩ (hsec _ _ j hjS) rfl ?_
     rintro _ H0 ⟨rfl, h0⟩
     subst H0
     refine WL.call (vs := [_]) Tryz.call145 ⟨OV.p rfl, trivial⟩ (ref01_All (xs := intsOf q) (hsq2.up) (intsOf_bytes hq8) (by omega)) rfl ?_
     rintro _ _ ⟨Al, cl, rfl, rfl⟩
     rw [← hle]
     refine WL.val (V.assign (OV.p rfl)) rfl ?_
     refine WL.nil ?_
     refine WC.sr ?_
     refine WL.val (V.assign (OV.p rfl)) rfl ?_
     refine WL.nil ?_
     refine WC.seq ?_
     refine WC.sr ?_
     refine WL.val (V.assign (OV.p rfl)) rfl ?_
     refine WL.nil ?_
     refine WC.block ?_
     refine WC.loop (σ := Nat) (fun k => [(1, .slice A m cap), (2, ptr b2 0), (6, .int .i64 (j : Int)), (7, .slice Al (8 * n) cl), (8, .int .i64 (ngh l k)), (9, .int .i64 (k : Int))]) (fun _ => SlA (.slice Al (8 * n) cl) 3 1 (8 * n) (ints .i64 l) :: Cells b2 23 [.int .i64 bl, .int .i64 pg, .int .i64 (S : Int), .int .i64 (B : Int), .int .i64 (t : Int)] :: F) (fun k => k ≤ 8 * n) (fun k => 8 * n - k) 0 (Nat.zero_le _) (.cons rfl (.cons rfl (.cons rfl (.cons rfl (.cons rfl (.cons rfl (.nil _))))))) (fun w h => h) ?_
     rintro k hk
     have hnb := ngh_bd hlb k
     refine WC.seq ?_
     refine WC.sr ?_
     refine WL.val (V.move (OV.p rfl)) rfl ?_
     refine WL.val (V.move (OV.p rfl)) rfl ?_
     refine WL.val (V.len (t := 42) Tryz.runUnderlying42 (OV.p rfl)) rfl ?_
     refine WL.val (V.lss (OV.p rfl) (OV.p rfl)) rfl ?_
     refine WL.nil ?_
     refine WC.cond rfl (fun hc3 => ?_) (fun hc3 => ?_)
     ·simp only [decide_eq_true_eq, decide_eq_false_iff_not] at hc3
      have hkn : k < 8 * n := by omega
      have hlk := bits_getD hlb k
      have hrl : ∀ {X : List Assn}, Rd K (SlA (.slice Al (8 * n) cl) 3 1 (8 * n) (ints .i64 l) :: X) (Al.map (·.add ((k : Int).toNat * 1))) (.int .i64 (l.getD k 0)) := fun {X} => by
        have h1 : Seq K (SlA (.slice Al (8 * n) cl) 3 1 (8 * n) (ints .i64 l) :: X) Al (8 * n) 1 (ints .i64 l) := SlA.seq (by rw [ints_length, hll, Nat.mul_one])
        have h2 := Seq.int_rd h1 (j := (k : Int)) (by omega)
        rwa [show (k : Int).toNat = k by omega] at h2 ⊢
      refine WC.skip ?_
      refine WC.seq ?_
      refine WC.block ?_
      refine WC.region ?_
      refine WL.val (V.move (OV.p rfl)) rfl ?_
      refine WL.val (V.addI (OV.p rfl) (OV.p rfl) (fun hc => by first | omega | (simp at hc; omega))) rfl ?_
      refine WL.val (V.move (OV.p rfl)) rfl ?_
      refine WL.val (V.move (OV.p rfl)) rfl ?_
      refine WL.val (V.idxS st42 (OV.p rfl) (OV.p rfl) (fun hc => by omega) (fun hc => hrl)) rfl ?_
      refine WL.val (V.load Tryz.isAgg3 (OV.p rfl) (fun hc => hrl)) rfl ?_
      refine WL.val (V.subI (OV.p rfl) (OV.p rfl) (fun hc => by first | omega | (simp at hc; omega))) rfl ?_
      refine WL.val (V.assign (OV.p rfl)) rfl ?_
      refine WL.nil ?_
      refine WC.region ?_
      refine WL.val (V.move (OV.p rfl)) rfl ?_
      refine WL.val (V.addI (OV.p rfl) (OV.p rfl) (fun hc => by first | omega | (simp at hc; omega))) rfl ?_
      refine WL.val (V.assign (OV.p rfl)) rfl ?_
      refine WL.nil ?_
      refine ⟨rfl, ?_⟩
      exact ⟨k + 1, hkn, (by show 8 * n - (k + 1) < 8 * n - k; omega), .cons rfl (.cons rfl (.cons rfl (.cons rfl (.cons rfl (.cons (look_eq rfl (by simp)) (.nil _)))))), fun w h => h⟩
     ·simp only [decide_eq_true_eq, decide_eq_false_iff_not] at hc3
      refine WC.exit ?_
      refine WC.seq ?_
      obtain rfl : k = 8 * n := by omega
      have hng : ngh l (8 * n) = 8 * (n : Int) - ((ones q : Nat) : Int) := by rw [← hql, hle]; exact hngo
      rw [hng]
      refine WC.region ?_
      refine WL.val (V.move (OV.p rfl)) rfl ?_
      refine WL.val (V.fieldAddr fo23_4 (OV.p rfl)) rfl ?_
      refine WL.val (V.load Tryz.isAgg3 (OV.p rfl) (fun _ => by repeat (first | exact Rd.here rfl | apply Rd.up))) rfl ?_
      refine WL.val (V.gtr (OV.p rfl) (OV.p rfl)) rfl ?_
      refine WL.nil ?_
      refine WC.cond rfl (fun hc4 => ?_) (fun hc4 => ?_)
      ·simp only [decide_eq_true_eq, decide_eq_false_iff_not] at hc4
       have hto : tornS n t raw j = true := decide_eq_true (by rw [← hq]; omega)
       refine WC.sr ?_
       refine WL.val (V.assign (OV.p rfl)) rfl ?_
       refine WL.nil ?_
       refine WC.ret ?_
       rw [if_pos (tornTo_mono hto S hjS)]
       exact BodyQ.ret (H' := F) (Res.tmp rfl rfl) (fun w h => h.drop 2) ⟨rfl, rfl⟩
      ·simp only [decide_eq_true_eq, decide_eq_false_iff_not] at hc4
       have hto : tornS n t raw j = false := decide_eq_false (by rw [← hq]; omega)
       refine WC.skip ?_
       refine WC.region ?_
       refine WL.val (V.move (OV.p rfl)) rfl ?_
       refine WL.val (V.addI (OV.p rfl) (OV.p rfl) (fun hc => by first | omega | (simp at hc; omega))) rfl ?_
       refine WL.val (V.assign (OV.p rfl)) rfl ?_
       refine WL.nil ?_
       refine ⟨rfl, ?_⟩
       exact ⟨j + 1, ⟨hjS, by rw [tornTo, hjt, hto]; rfl⟩, (by show S - (j + 1) < S - j; omega), .cons rfl (.cons rfl (.cons (look_eq rfl (by simp)) (.nil _))), fun w h => h.drop 1⟩
    ·simp only [decide_eq_true_eq, decide_eq_false_iff_not] at hc2
     refine WC.exit ?_
     refine WC.sr ?_
     refine WL.val (V.assign (OV.p rfl)) rfl ?_
     refine WL.nil ?_
     refine WC.ret ?_
     obtain rfl : j = S := by omega
     rw [hjt]
     exact BodyQ.ret (H' := F) (Res.tmp rfl rfl) (fun w h => h.drop 1) ⟨rfl, rfl⟩
end
end Go.Proofs.YtohkefolnmcjnaaGreat
