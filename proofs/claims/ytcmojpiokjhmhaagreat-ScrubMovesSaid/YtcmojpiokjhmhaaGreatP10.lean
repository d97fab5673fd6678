import Derived.Test.YtcmojpiokjhmhaaGreatP9
import Derived.KernelRfl
import Derived.Test.YtcmojpiokjhmhaaGreatP8
namespace Go.Proofs.YtcmojpiokjhmhaaGreat
open Go.Sl Go.RowKit
set_option linter.unusedVariables false
set_option linter.unusedSimpArgs false
set_option maxRecDepth 20000
section
variable {bc : Nat} {C : Cw} {K : World} {F : List ak}
theorem GY {b b2 b3 : Nat} {k : Int} (h2 : Rd K F (some ⟨b2, 0, none⟩) (ptr bc 0)) (h3 : Rd K F (some ⟨b3, 0, none⟩) (.int .i64 k)) : Does Tryz.prog 120 #[ptr b2 0, ptr b3 0] K (C.A bc :: F) (fun v H' => H' = (C.mark k).A bc :: F) := by
  refine Does.nk ?_
  dsimp only [Cw.parts, List.cons_append, List.nil_append]
  refine Does.enter Tryz.func120 rfl Tryz.ntmps120 rfl ?_
  simp only [aI, Nat.reduceAdd]
  refine WC.dR F (by kernel_rfl) ?_
  refine WA.t 0 rfl (V.load Tryz.isAgg28 (OV.p rfl) (fun _ => h2)) ?_
  refine WA.t 1 rfl (V.nilCheck (OV.p rfl)) (WA.t 2 rfl (V.fieldAddr Hl (OV.p rfl)) ?_)
  refine WA.t 4 rfl (V.load Tryz.isAgg3 (OV.p rfl) (fun _ => h3)) ?_
  refine WA.o 3 rfl (WL.ld Tryz.isAgg81 rfl rfl ?_)
  refine WL.nil (WA.o 5 rfl ?_)
  refine WL.lK (k := _) Tryz.underlying81 QJ (OV.p rfl) (OV.p rfl) (OV.p rfl) (by repeat (first | exact jT.here | apply jT.up)) ?_
  refine WL.nil (WA.fin ?_)
  exact au.ret (H' := (C.mark k).A bc :: F) (aO.none rfl) (fun w h => Sat.all (l := (C.mark k).parts bc) (by rw [CU] at h; exact h)) rfl
theorem LZ (hC : C.Ok) {f : FuncId} {caps : List Value} {C1 : Cw} (hf : dY Tryz.prog f) (hdo : Does Tryz.prog f caps.toArray K (C.deed.A bc :: F) (fun v H' => H' = C1.A bc :: F)) :
    Does Tryz.prog 119 #[ptr bc 0, .func (.func f) #[] caps.toArray] K (C.A bc :: F) (fun v H' => v = .int .i64 (ah.after C.sem.cut) ∧ H' = (if !C.sem.cut || decide (0 < C.keep) then C1 else C.deed).A bc :: F) := by
  refine Does.nk ?_
  dsimp only [Cw.parts, List.cons_append, List.nil_append]
  refine Does.enter Tryz.func119 rfl Tryz.ntmps119 rfl ?_
  simp only [aI, Nat.reduceAdd]
  refine WC.sr (WL.sg rfl rfl (WL.nil (WC.sr (WL.mv rfl rfl (WL.call (vs := [_]) Tryz.call117 ⟨OV.p rfl, trivial⟩ (vX (C := C) hC.left) rfl ?_)))))
  rintro _ _ ⟨rfl, rfl⟩
  refine WL.sg rfl rfl (WL.nil (WC.seq (WC.sr (WL.mv rfl rfl (WL.val (V.not (OV.p rfl)) rfl (WL.mv rfl rfl (WL.av (oj := _) rfl rfl rfl GC.f (V.move (OV.p rfl)) rfl (WL.av (oj := _) rfl rfl rfl GC.f (V.nilCheck (OV.g rfl id)) rfl (WL.av (oj := _) rfl rfl rfl GC.f (V.fieldAddr yP (OV.g rfl id)) rfl ?_)))))))))
  refine WL.av (oj := _) rfl rfl rfl GC.f (V.load Tryz.isAgg3 (OV.g rfl id) (fun _ => by repeat (first | exact Rd.here rfl | apply Rd.up))) rfl ?_
  refine WL.av (oj := _) rfl rfl rfl GC.f (V.gtr (OV.g rfl id) (OV.p rfl)) rfl (WL.val (V.bH (OV.p rfl) (OV.g rfl id)) rfl (WL.nil ?_))
  refine WC.cond rfl (fun hc0 => ?_) (fun hc0 => ?_)
  ·skip
   have h0 := hc0
   refine WC.region (WL.mv rfl rfl ?_)
   refine WL.sub (Sub.refl _) (fun w h => Sat.all (l := C.deed.parts bc) h) ?_
   refine WL.mg (first := []) (captured := caps) (vs := []) hf (OV.p rfl) trivial hdo rfl ?_
   rintro _ _ rfl
   refine WL.nil (WC.sr (WL.mv rfl rfl (WL.mv rfl rfl (WL.call (vs := [_, _]) Tryz.call118 ⟨OV.p rfl, OV.p rfl, trivial⟩ (jE _ _) rfl ?_))))
   rintro _ H0 ⟨rfl, h0⟩
   subst H0
   refine WL.sg rfl rfl (WL.nil (WC.ret ?_))
   first
   | exact au.ret (H' := C1.A bc :: F) (aO.tmp rfl rfl) (fun w h => h) ⟨rfl, by rw [if_pos (show (!C.sem.cut || decide (0 < C.keep)) = true from h0)]⟩
   | exact au.ret (H' := C.deed.A bc :: F) (aO.tmp rfl rfl) (fun w h => Sat.all (l := C.deed.parts bc) h) ⟨rfl, by rw [if_neg (show ¬ (!C.sem.cut || decide (0 < C.keep)) = true by rw [show (!C.sem.cut || decide (0 < C.keep)) = false from h0]; decide)]⟩
  ·skip
   have h0 := hc0
   refine WC.skip (WC.sr (WL.mv rfl rfl (WL.mv rfl rfl (WL.call (vs := [_, _]) Tryz.call118 ⟨OV.p rfl, OV.p rfl, trivial⟩ (jE _ _) rfl ?_))))
   rintro _ H0 ⟨rfl, h0⟩
   subst H0
   refine WL.sg rfl rfl (WL.nil (WC.ret ?_))
   first
   | exact au.ret (H' := C1.A bc :: F) (aO.tmp rfl rfl) (fun w h => h) ⟨rfl, by rw [if_pos (show (!C.sem.cut || decide (0 < C.keep)) = true from h0)]⟩
   | exact au.ret (H' := C.deed.A bc :: F) (aO.tmp rfl rfl) (fun w h => Sat.all (l := C.deed.parts bc) h) ⟨rfl, by rw [if_neg (show ¬ (!C.sem.cut || decide (0 < C.keep)) = true by rw [show (!C.sem.cut || decide (0 < C.keep)) = false from h0]; decide)]⟩
end
theorem QK {c : Bool} {C1 C2 : Cw} {S1 S2 : ah} (h1 : C1.sem = S1) (h2 : C2.sem = S2) : (if c then C1 else C2).sem = if c then S1 else S2 := by cases c <;> simp [h1, h2]
theorem Px {c : Bool} {C1 C2 : Cw} (h1 : C1.Ok) (h2 : C2.Ok) : (if c then C1 else C2).Ok := by cases c <;> simp [h1, h2]
theorem JW {bc : Nat} {C : Cw} (hC : C.Ok) (b : Int) {K : World} {F : List ak} :
    Does Tryz.prog 92 #[ptr bc 0, .int .i64 b] K (C.A bc :: F)
      (fun v H' => ∃ C' : Cw, C'.Ok ∧ H' = C'.A bc :: F ∧ C'.sem = (C.sem.mark b).1 ∧ v = .int .i64 (C.sem.mark b).2) := by
  refine Does.nk ?_
  dsimp only [Cw.parts, List.cons_append, List.nil_append]
  refine Does.enter Tryz.func92 rfl Tryz.ntmps92 rfl ?_
  simp only [aI, Nat.reduceAdd]
  refine WC.sr ?_
  refine WL.box (cs := [_]) (OV.p rfl) rfl rfl (fun b2 => ?_)
  refine WL.box (cs := [_]) (OV.p rfl) rfl rfl (fun b3 => ?_)
  refine WL.sg rfl rfl (WL.nil (WC.seq (WC.sr (WL.ld Tryz.isAgg28 rfl rfl ?_))))
  refine WL.call (vs := [_]) Tryz.call50 ⟨OV.p rfl, trivial⟩ (iV (C := C) (by repeat (first | exact bD.all | apply bD.up))) rfl ?_
  rintro _ H0 ⟨rfl, h0⟩
  subst H0
  refine WL.sg rfl rfl (WL.nil (WC.sr (WL.mv rfl rfl (WL.val (V.neq (OV.p rfl) (OV.p rfl)) rfl (WL.nil ?_)))))
  refine WC.cond rfl (fun hc0 => ?_) (fun hc0 => ?_)
  ·skip
   have hup : C.up = false := by cases h : C.up <;> simp [ah.ready, Cw.sem, h] at hc0 ⊢
   refine WC.sr (WL.mv rfl rfl (WL.sg rfl rfl (WL.nil (WC.ret ?_))))
   have e1 : C.sem.mark b = (C.sem, 70) := by unfold ah.mark; rw [if_pos (show C.sem.up = false from hup)]
   rw [e1]
   exact au.ret (H' := C.A bc :: F) (aO.tmp rfl rfl) (fun w h => Sat.all (l := C.parts bc) h.tail.tail) ⟨C, hC, rfl, rfl, by unfold ah.ready; rw [if_neg (by show ¬ C.up = true; rw [hup]; decide)]⟩
  ·skip
   have hup : C.up = true := by cases h : C.up <;> simp [ah.ready, Cw.sem, h] at hc0 ⊢
   refine WC.skip (WC.seq (WC.sr (WL.ld Tryz.isAgg28 rfl rfl ?_)))
   refine WL.ld Tryz.isAgg3 rfl rfl ?_
   refine WL.call (vs := [_, _]) Tryz.call46 ⟨OV.p rfl, OV.p rfl, trivial⟩ (oo (C := C) b (by repeat (first | exact bD.all | apply bD.up))) rfl ?_
   rintro _ H0 ⟨rfl, h0⟩
   subst H0
   refine WL.val (V.not (OV.p rfl)) rfl (WL.nil ?_)
   refine WC.cond rfl (fun hc1 => ?_) (fun hc1 => ?_)
   ·simp only [decide_eq_true_eq, decide_eq_false_iff_not, Bool.and_eq_true, Bool.or_eq_true, Bool.and_eq_false_iff, Bool.or_eq_false_iff, Bool.not_eq_true', Bool.not_eq_false', Bool.not_eq_true, Bool.not_eq_false, decide_eq_true_eq, decide_eq_false_iff_not] at hc1
    refine WC.sr (WL.sg rfl rfl (WL.nil (WC.ret ?_)))
    have e1 : C.sem.mark b = (C.sem, 1) := by unfold ah.mark; rw [if_neg (by show ¬ C.up = false; rw [hup]; decide), if_pos hc1]
    rw [e1]
    exact au.ret (H' := C.A bc :: F) (aO.tmp rfl rfl) (fun w h => Sat.all (l := C.parts bc) h.tail.tail) ⟨C, hC, rfl, rfl, rfl⟩
   ·simp only [decide_eq_true_eq, decide_eq_false_iff_not, Bool.and_eq_true, Bool.or_eq_true, Bool.and_eq_false_iff, Bool.or_eq_false_iff, Bool.not_eq_true', Bool.not_eq_false', Bool.not_eq_true, Bool.not_eq_false, decide_eq_true_eq, decide_eq_false_iff_not] at hc1
    refine WC.skip (WC.sr (WL.ld Tryz.isAgg28 rfl rfl ?_))
    refine WL.val (V.makeFunc (us := []) (vs := [_, _]) trivial ⟨OV.p rfl, OV.p rfl, trivial⟩) rfl ?_
    refine WL.sub (Sub.refl _) (fun w h => Sat.all (l := C.parts bc) (h.sel 9 [2, 3, 4, 5, 6, 7, 8, 0, 1] rfl)) ?_
    refine WL.call (vs := [_, _]) Tryz.call119 ⟨OV.p rfl, OV.p rfl, trivial⟩ (LZ (caps := [ptr b2 0, ptr b3 0]) (C1 := C.deed.mark b) hC Tryz.call120 (GY (b := 0) (by repeat (first | exact Rd.here rfl | apply Rd.up)) (by repeat (first | exact Rd.here rfl | apply Rd.up)))) rfl ?_
    rintro _ _ ⟨rfl, rfl⟩
    refine WL.sg rfl rfl (WL.nil (WC.ret ?_))
    have e1 : C.sem.mark b = C.sem.all fun T => { T with marked := fun k => if k = b then true else T.marked k } := by unfold ah.mark; rw [if_neg (by show ¬ C.up = false; rw [hup]; decide), if_neg (by rw [hc1]; decide)]
    rw [e1]
    exact au.ret (H' := (if !C.sem.cut || decide (0 < C.keep) then C.deed.mark b else C.deed).A bc :: F) (aO.tmp rfl rfl) (fun w h => h.sel 3 [0] rfl) ⟨_, Px hC.deed.mark hC.deed, rfl, QK rfl rfl, rfl⟩
def yg (x k : Int) : Int := ((x.toNat ^^^ 2 ^ k.toNat : Nat) : Int)
def zl (ys : List Int) (i : Int) : List Int := ys.set (i / 8).toNat (yg (ys.getD (i / 8).toNat 0) (i % 8))
def turn (xs l : List Int) : List Int := l.foldl zl xs
theorem zO {x k : Int} (hx : 0 ≤ x ∧ x < 256) (hk : 0 ≤ k ∧ k < 8) : bitsOf .xor .u8 x (IntKind.u8.wrap (1 * 2 ^ (min k.toNat IntKind.u8.bits))) = yg x k ∧ 0 ≤ yg x k ∧ yg x k < 256 := by
  have h : ((List.range 256).all fun a => (List.range 8).all fun j => decide (bitsOf .xor .u8 (a : Int) (IntKind.u8.wrap (1 * 2 ^ (min j IntKind.u8.bits))) = yg a j) && decide (0 ≤ yg a j) && decide (yg a j < 256)) = true := by kernel_rfl
  have h1 := List.all_eq_true.1 h x.toNat (List.mem_range.2 (by omega))
  have h2 := List.all_eq_true.1 h1 k.toNat (List.mem_range.2 (by omega))
  simp only [Bool.and_eq_true, decide_eq_true_eq] at h2
  rw [show ((x.toNat : Nat) : Int) = x by omega, show ((k.toNat : Nat) : Int) = k by omega] at h2
  exact ⟨h2.1.1, h2.1.2, h2.2⟩
theorem uz (ys : List Int) (i : Int) : (zl ys i).length = ys.length := by simp [zl]
theorem je : ∀ (l xs : List Int), (turn xs l).length = xs.length
  | [], _ => rfl
  | i :: l, xs => by rw [turn, List.foldl_cons, ← turn, je l, uz]
theorem JQ {ys : List Int} {i : Int} (h : bF ys) (hi : 0 ≤ i ∧ i < 8 * ys.length) : bF (zl ys i) := fun x hx => by
  rcases List.mem_or_eq_of_mem_set hx with h1 | rfl
  · exact h x h1
  · have hlt : (i / 8).toNat < ys.length := by omega
    rw [List.getD, List.getElem?_eq_getElem hlt]
    exact (zO (h _ (List.getElem_mem hlt)) (by omega)).2
theorem Bh : ∀ {l xs : List Int}, bF xs → (∀ i ∈ l, 0 ≤ i ∧ i < 8 * (xs.length : Int)) → bF (turn xs l)
  | [], _, h, _ => h
  | i :: l, xs, h, hi => by
    rw [turn, List.foldl_cons, ← turn]
    exact Bh (JQ h (hi i (.head _))) (fun j hj => by rw [uz]; exact hi j (.tail _ hj))
theorem Ko {xs l : List Int} {j : Nat} (h : j < l.length) : turn xs (l.take (j + 1)) = zl (turn xs (l.take j)) (l.getD j 0) := by
  rw [List.take_add_one, List.getElem?_eq_getElem h, turn, turn, List.foldl_append]
  simp [List.getD, h]
theorem Cj {A B : Option Addr} {m q cap cap' : Nat} {xs l : List Int} (hx : bF xs) {K : World} {F : List ak} (hs : Seq K F A m 1 (ints .u8 xs)) (hl : Seq K F B q 1 (ints .i64 l)) (hi : ∀ i ∈ l, 0 ≤ i ∧ i < 8 * (xs.length : Int)) (hmx : m ≤ 100000) (hq : q ≤ maxLen) :
    Does Tryz.prog 133 #[.slice A m cap, .slice B q cap'] K F (fun v H' => ∃ b, v = .tuple #[.slice (some ⟨b, 0, none⟩) m m, .int .i64 0] ∧ H' = Cells b 5 (ints .u8 (turn xs l)) :: F) := by
  have hxl : xs.length = m := by simpa [ints] using hs.len
  have hll : l.length = q := by simpa [ints] using hl.len
  have hq' : q ≤ 9223372036854775807 := by simpa [maxLen] using hq
  refine Does.enter Tryz.func133 rfl Tryz.ntmps133 rfl ?_
  simp only [aI, Nat.reduceAdd]
  refine WC.sr (WL.sg rfl rfl (WL.sg rfl rfl (WL.nil (WC.sr (WL.mv rfl rfl (WL.val (V.len (t := 43) Tryz.runUnderlying43 (OV.p rfl)) rfl ?_))))))
  refine WL.oW (m := m) Tryz.underlying43 yD (OV.p rfl) (OV.p rfl) rfl rfl (by omega) rfl rfl rfl (fun b6 => ?_)
  refine WL.sg rfl rfl (WL.nil (WC.sr (WL.mv rfl rfl (WL.mv rfl rfl ?_))))
  refine WL.yV fE (OV.p rfl) (OV.p rfl) (by repeat (first | exact hs | apply Seq.up)) (Nat.le_refl _) (qJ _ _) (bA.front (by simp [ints]; omega)) rfl ?_
  refine WL.nil (WC.seq (WC.sr (WL.mv rfl rfl (WL.val (V.len (t := 24) Tryz.runUnderlying24 (OV.p rfl)) rfl (WL.mv rfl rfl (WL.nil (WC.block ?_)))))))
  refine WC.loop (σ := Nat) (fun j => [(0, .slice A m cap), (6, .slice (some ⟨b6, 0, none⟩) m m), (15, .slice B q cap'), (16, .int .i64 (q : Int)), (17, .int .i64 (j : Int))]) (fun j => Cells b6 5 (ints .u8 (turn xs (l.take j))) :: F) (fun j => j ≤ q) (fun j => q - j) 0 (Nat.zero_le _) (.cons rfl (.cons rfl (.cons rfl (.cons rfl (.cons rfl (.nil _)))))) (fun w h => Sat.aV h (by rw [List.drop_eq_nil_of_le (by simp [ints]; omega)]; simp [turn])) ?_
  rintro j hj
  refine WC.sr (WL.val (V.lss (OV.p rfl) (OV.p rfl)) rfl (WL.nil (WC.seq ?_)))
  refine WC.cond rfl (fun hc0 => ?_) (fun hc0 => ?_)
  ·try simp only [decide_eq_true_eq, decide_eq_false_iff_not, Bool.and_eq_true, Bool.or_eq_true, Bool.and_eq_false_iff, Bool.or_eq_false_iff, Bool.not_eq_true', Bool.not_eq_false', Bool.not_eq_true, Bool.not_eq_false, Int.not_lt, Int.not_le] at hc0
   refine WC.skip (WC.seq (WC.block (WC.sr ?_)))
   refine WL.val (V.dS bZ (OV.p rfl) (OV.p rfl) (fun hc => by omega) (fun hc => by repeat (first | exact Seq.iY hl (by omega) | apply Rd.up))) rfl ?_
   refine WL.val (V.load Tryz.isAgg3 (OV.p rfl) (fun hc => by repeat (first | exact Seq.iY hl (by omega) | apply Rd.up))) rfl ?_
   refine WL.sg rfl rfl (WL.nil (WC.seq (WC.seq ?_)))
   have hjq : j < q := by omega
   have hij : 0 ≤ l.getD j 0 ∧ l.getD j 0 < 8 * (xs.length : Int) := by
     rw [List.getD, List.getElem?_eq_getElem (by omega)]
     exact hi _ (List.getElem_mem _)
   rw [show (j : Int).toNat = j by omega]
   refine WC.region (WL.mv rfl rfl (WL.val (V.lss (OV.p rfl) (OV.p rfl)) rfl (WL.mv rfl rfl (WL.av (oj := _) rfl rfl rfl GC.f (V.move (OV.p rfl)) rfl (WL.av (oj := _) rfl rfl rfl GC.f (V.move (OV.p rfl)) rfl (WL.av (oj := _) rfl rfl rfl GC.f (V.len (t := 43) Tryz.runUnderlying43 (OV.g rfl id)) rfl ?_))))))
   refine WL.av (oj := _) rfl rfl rfl GC.f (V.jF (OV.p rfl) (OV.g rfl id) (fun hc => by first | omega | (simp at hc; omega))) rfl ?_
   refine WL.av (oj := _) rfl rfl rfl GC.f (V.geq (OV.g rfl id) (OV.g rfl id)) rfl (WL.val (V.bH (OV.p rfl) (OV.g rfl id)) rfl (WL.nil ?_))
   refine WC.aQ rfl ((by simp only [Bool.or_eq_false_iff, decide_eq_false_iff_not]; omega)) ?_
   refine WC.skip ?_
   refine WC.dR F (by kernel_rfl) ?_
   refine WA.t 0 rfl (V.move (OV.p rfl)) (WA.t 1 rfl (V.move (OV.p rfl)) ?_)
   refine WA.t 2 rfl (V.sV (OV.p rfl) (OV.p rfl) (fun hc => by omega)) ?_
   refine WA.t 3 rfl (V.bR fE (OV.p rfl) (OV.p rfl) (fun hc => by omega)) ?_
   refine WA.t 5 rfl (V.move (OV.p rfl)) ?_
   refine WA.t 6 rfl (V.o8 (OV.p rfl) (OV.p rfl) (fun hc => by first | omega | (simp at hc; omega))) ?_
   refine WA.t 7 rfl (V.shl (OV.p rfl) (OV.p rfl) (by omega)) ?_
   refine WA.o 4 rfl ?_
   refine WL.val (V.load Tryz.isAgg5 (OV.p rfl) (fun _ => Rd.here (v := .int .u8 ((turn xs (l.take j)).getD (l.getD j 0 / 8).toNat 0)) (by rw [Nat.zero_add, Nat.mul_one]; exact jl _ _ (by rw [je]; omega)))) rfl ?_
   refine WL.nil (WA.t 8 rfl (V.xor (OV.p rfl) (OV.p rfl)) ?_)
   refine WA.t 9 rfl (V.bR fE (OV.p rfl) (OV.p rfl) (fun hc => by first | omega | (simp at hc; omega))) ?_
   refine WA.o 10 rfl ?_
   refine WL.store (cs := [_]) Tryz.sizeOf5 (OV.p rfl) (OV.p rfl) rfl rfl rfl (bA.at_ (by rw [Nat.zero_add, Nat.mul_one, aG, je]; omega)) ?_
   refine WL.nil (WA.fin (WC.region (WL.ad rfl rfl rfl ?_)))
   refine WL.mv rfl rfl (WL.nil ?_)
   refine ⟨rfl, ?_⟩
   refine ⟨j + 1, (by show j + 1 ≤ q; omega), (by show q - (j + 1) < q - j; omega), .cons rfl (.cons rfl (.cons rfl (.cons rfl (.cons (look_eq rfl (by simp)) (.nil _))))), fun w h => Sat.aV h ?_⟩
   have hib := Bh (xs := xs) (l := l.take j) hx (fun i h => hi i (List.mem_of_mem_take h))
   have hlt : (l.getD j 0 / 8).toNat < (turn xs (l.take j)).length := by rw [je]; omega
   rw [Ko (by omega), Nat.zero_add, Nat.mul_one, (zO (x := (turn xs (l.take j)).getD (l.getD j 0 / 8).toNat 0) (by rw [List.getD, List.getElem?_eq_getElem hlt]; exact hib _ (List.getElem_mem hlt)) (by omega)).1, ints_set]
   rfl
  ·try simp only [decide_eq_true_eq, decide_eq_false_iff_not, Bool.and_eq_true, Bool.or_eq_true, Bool.and_eq_false_iff, Bool.or_eq_false_iff, Bool.not_eq_true', Bool.not_eq_false', Bool.not_eq_true, Bool.not_eq_false, Int.not_lt, Int.not_le] at hc0
   refine WC.exit (WC.sr (WL.mv rfl rfl (WL.sg rfl rfl (WL.sg rfl rfl (WL.nil (WC.ret ?_))))))
   obtain rfl : j = q := by omega
   refine au.ret (H' := Cells b6 _ _ :: F) (aO.fD rfl rfl rfl) (fun w h => Sat.aV h ?_) ⟨b6, rfl, rfl⟩
   rw [List.take_of_length_le (by omega)]
def ah.eD (S : ah) (b p : Int) : Int := if S.up = false then 70 else if S.page b p = false then 1 else 0
def ah.reads (S : ah) (b p : Int) : List Int := turn ((S.pages (b, p)).getD S.blank) ((S.wrong (b, p)).getD [])
theorem Cw.Ok.Cy {C : Cw} (hC : C.Ok) (b p : Int) : (C.sem.reads b p).length = C.g.raw.toNat := by
  have hr := Geo.lN hC.aD
  unfold ah.reads
  rw [je]
  have h1 : C.sem.pages (b, p) = (C.pages (b, p)).map (·.2.2) := rfl
  rw [h1]
  cases h : C.pages (b, p) with
  | none => exact List.length_replicate
  | some e => have := (hC.page _ e h).2.1; simp; omega
theorem Cw.Ok.EY {C : Cw} (hC : C.Ok) (b p : Int) : bF ((C.sem.pages (b, p)).getD C.sem.blank) := by
  have h1 : C.sem.pages (b, p) = (C.pages (b, p)).map (·.2.2) := rfl
  rw [h1]
  cases h : C.pages (b, p) with
  | none => exact bF.vZ (by omega)
  | some e => exact (hC.page _ e h).2.2
theorem Cw.Ok.KH {C : Cw} (hC : C.Ok) (b p : Int) : (((C.sem.pages (b, p)).getD C.sem.blank).length : Int) = C.g.raw := by
  have hr := Geo.lN hC.aD
  have h1 : C.sem.pages (b, p) = (C.pages (b, p)).map (·.2.2) := rfl
  rw [h1]
  cases h : C.pages (b, p) with
  | none =>
    show ((List.replicate C.g.raw.toNat 255).length : Int) = C.g.raw
    rw [List.length_replicate]; omega
  | some e => exact (hC.page _ e h).2.1
theorem Cw.Ok.Fq {C : Cw} (hC : C.Ok) (b p : Int) : ∃ Aw cw lw, (C.gM (b, p)).getD (.slice none 0 0) = .slice Aw lw.length cw ∧ eU C.own Aw lw.length 1 (ints .i64 lw) ∧ (∀ i ∈ lw, 0 ≤ i ∧ i < 8 * C.g.raw) ∧ lw = (C.sem.wrong (b, p)).getD [] ∧ lw.length ≤ maxLen := by
  have h1 : C.sem.wrong (b, p) = (C.wrong (b, p)).map (·.2.2) := rfl
  have h2 : C.gM (b, p) = (C.wrong (b, p)).map Cw.fQ := rfl
  rw [h1, h2]
  cases h : C.wrong (b, p) with
  | none => exact ⟨none, 0, [], rfl, eU.nil, fun i hi => by simp at hi, rfl, Nat.zero_le _⟩
  | some e => have := hC.wr _ e h; exact ⟨e.1, e.2.1, e.2.2, rfl, this.1, this.2.1, rfl, this.2.2⟩
theorem CY {bc : Nat} {C : Cw} (hC : C.Ok) (b p : Int) {K : World} {F : List ak} :
    Does Tryz.prog 96 #[ptr bc 0, .int .i64 b, .int .i64 p] K (C.A bc :: F)
      (fun v H' => (C.sem.eD b p = 0 ∧ ∃ bo, v = .tuple #[.slice (some ⟨bo, 0, none⟩) C.g.raw.toNat C.g.raw.toNat, .int .i64 0] ∧ H' = Cells bo 5 (ints .u8 (C.sem.reads b p)) :: C.A bc :: F) ∨
        (C.sem.eD b p ≠ 0 ∧ v = .tuple #[.slice none 0 0, .int .i64 (C.sem.eD b p)] ∧ H' = C.A bc :: F)) := by
  have hr := Geo.lN hC.aD
  obtain ⟨Aw, cw, lw, hw1, hw2, hw3, hw4, hwl⟩ := hC.Fq b p
  have hbl := hC.KH b p
  have hbb := hC.EY b p
  have hre : turn ((C.sem.pages (b, p)).getD C.sem.blank) lw = C.sem.reads b p := by unfold ah.reads; rw [hw4]
  refine Does.nk ?_
  dsimp only [Cw.parts, List.cons_append, List.nil_append]
  cases hpg : C.pages (b, p) with
  | none =>
    have hb0 : (C.sem.pages (b, p)).getD C.sem.blank = List.replicate C.g.raw.toNat 255 := by
      rw [show C.sem.pages (b, p) = (C.pages (b, p)).map (·.2.2) from rfl, hpg]; rfl
    rw [hb0] at hre hbl hbb
    refine Does.enter Tryz.func96 rfl Tryz.ntmps96 rfl ?_
    simp only [aI, Nat.reduceAdd]
    refine WC.sr (WL.sg rfl rfl (WL.sg rfl rfl (WL.nil (WC.seq (WC.sr (WL.mv rfl rfl ?_))))))
    refine WL.call (vs := [_]) Tryz.call50 ⟨OV.p rfl, trivial⟩ (iV (C := C) (by repeat (first | exact bD.all | apply bD.up))) rfl ?_
    rintro _ H0 ⟨rfl, h0⟩
    subst H0
    refine WL.sg rfl rfl (WL.nil (WC.sr (WL.mv rfl rfl (WL.val (V.neq (OV.p rfl) (OV.p rfl)) rfl (WL.nil ?_)))))
    refine WC.cond rfl (fun hc0 => ?_) (fun hc0 => ?_)
    ·skip
     have hup : C.up = false := by cases h : C.up <;> simp [ah.ready, Cw.sem, h] at hc0 ⊢
     refine WC.sr (WL.mv rfl rfl (WL.sg rfl rfl (WL.sg rfl rfl (WL.nil (WC.ret ?_)))))
     have e1 : C.sem.eD b p = 70 := by unfold ah.eD; rw [if_pos (show C.sem.up = false from hup)]
     have e2 : C.sem.ready = 70 := by unfold ah.ready; rw [if_neg (by show ¬ C.up = true; rw [hup]; decide)]
     rw [e2]
     exact au.ret (H' := C.A bc :: F) (aO.fD rfl rfl rfl) (fun w h => Sat.all (l := C.parts bc) h) (.inr ⟨by rw [e1]; decide, by rw [e1], rfl⟩)
    ·skip
     have hup : C.up = true := by cases h : C.up <;> simp [ah.ready, Cw.sem, h] at hc0 ⊢
     refine WC.skip (WC.seq (WC.sr (WL.mv rfl rfl (WL.mv rfl rfl (WL.mv rfl rfl ?_)))))
     refine WL.call (vs := [_, _, _]) Tryz.call59 ⟨OV.p rfl, OV.p rfl, OV.p rfl, trivial⟩ (qY (C := C) b p (by repeat (first | exact bD.all | apply bD.up))) rfl ?_
     rintro _ H0 ⟨rfl, h0⟩
     subst H0
     refine WL.val (V.not (OV.p rfl)) rfl (WL.nil ?_)
     refine WC.cond rfl (fun hc1 => ?_) (fun hc1 => ?_)
     ·simp only [decide_eq_true_eq, decide_eq_false_iff_not, Bool.and_eq_true, Bool.or_eq_true, Bool.and_eq_false_iff, Bool.or_eq_false_iff, Bool.not_eq_true', Bool.not_eq_false', Bool.not_eq_true, Bool.not_eq_false] at hc1
      have h1 := hc1
      refine WC.sr (WL.sg rfl rfl (WL.sg rfl rfl (WL.nil (WC.ret ?_))))
      have e1 : C.sem.eD b p = 1 := by unfold ah.eD; rw [if_neg (by show ¬ C.up = false; rw [hup]; decide), if_pos h1]
      exact au.ret (H' := C.A bc :: F) (aO.fD rfl rfl rfl) (fun w h => Sat.all (l := C.parts bc) h) (.inr ⟨by rw [e1]; decide, by rw [e1], rfl⟩)
     ·simp only [decide_eq_true_eq, decide_eq_false_iff_not, Bool.and_eq_true, Bool.or_eq_true, Bool.and_eq_false_iff, Bool.or_eq_false_iff, Bool.not_eq_true', Bool.not_eq_false', Bool.not_eq_true, Bool.not_eq_false] at hc1
      have h1 := hc1
      refine WC.skip (WC.sr (WL.mv rfl rfl (WL.nc rfl rfl (WL.val (V.fieldAddr w9 (OV.p rfl)) rfl (WL.ld Tryz.isAgg79 rfl rfl ?_)))))
      refine WL.mv rfl rfl (WL.mv rfl rfl (WL.val (V.build (vs := [(0, _), (1, _)]) ⟨OV.p rfl, OV.p rfl, trivial⟩ rfl (eT _ _)) rfl ?_))
      refine WL.val (V.aC (v' := .tuple #[.slice none 0 0, .bool false]) (V.Fy (k := (b, p)) Tryz.underlying79 Tryz.zeroValue43 p8 (OV.p rfl) (OV.p rfl) (fun _ => by repeat (first | exact Bu.here | apply Bu.up))) (fun _ => by unfold Cw.fZ; rw [hpg]; rfl)) rfl ?_
      refine WL.mv rfl rfl (WL.xt rfl rfl rfl (WL.xt rfl rfl rfl (WL.sg rfl rfl (WL.sg rfl rfl (WL.nil (WC.seq (WC.sr (WL.mv rfl rfl (WL.val (V.not (OV.p rfl)) rfl (WL.nil ?_))))))))))
      refine WC.dV rfl (by first | rfl | (simp; done) | (simp; omega)) ?_
      refine WC.region (WL.mv rfl rfl ?_)
      refine WL.call (vs := [_]) Tryz.call132 ⟨OV.p rfl, trivial⟩ (Ai (C := C) hC.aD (by repeat (first | exact bD.all | apply bD.up))) rfl ?_
      rintro _ _ ⟨bo, rfl, rfl⟩
      refine WL.sg rfl rfl (WL.nil (WC.sr (WL.mv rfl rfl (WL.mv rfl rfl (WL.nc rfl rfl (WL.val (V.fieldAddr AV (OV.p rfl)) rfl (WL.ld Tryz.isAgg80 rfl rfl ?_)))))))
      refine WL.mv rfl rfl (WL.mv rfl rfl (WL.val (V.build (vs := [(0, _), (1, _)]) ⟨OV.p rfl, OV.p rfl, trivial⟩ rfl (eT _ _)) rfl ?_))
      refine WL.val (V.aC (v' := .slice Aw lw.length cw) (V.lookup (k := (b, p)) Tryz.underlying80 Tryz.zeroValue24 p8 (OV.p rfl) (OV.p rfl) (fun _ => by repeat (first | exact Bu.here | apply Bu.up))) (fun _ => hw1)) rfl ?_
      refine WL.call (vs := [_, _]) Tryz.call133 ⟨OV.p rfl, OV.p rfl, trivial⟩ (Cj hbb (by repeat (first | exact Seq.allI (by simp) | apply Seq.up)) (by repeat (first | exact eU.seq hw2 | apply Seq.up)) (by rw [hbl]; exact hw3) (by omega) hwl) rfl ?_
      rintro _ _ ⟨bt, rfl, rfl⟩
      refine WL.xt rfl rfl rfl (WL.xt rfl rfl rfl (WL.sg rfl rfl (WL.sg rfl rfl (WL.nil (WC.ret ?_)))))
      have e1 : C.sem.eD b p = 0 := by unfold ah.eD; rw [if_neg (by show ¬ C.up = false; rw [hup]; decide), if_neg (by rw [h1]; decide)]
      refine au.ret (H' := Cells bt _ (ints .u8 (C.sem.reads b p)) :: C.A bc :: F) (aO.fD rfl rfl rfl) (fun w h => ?_) (.inl ⟨e1, bt, rfl, rfl⟩)
      rw [hre] at h
      exact (Sat.all (l := C.parts bc) (h.sel 9 [2, 3, 4, 5, 6, 7, 8, 0] rfl)).p1
  | some e =>
    obtain ⟨Ap, cp, xp⟩ := e
    have hpe := hC.page _ _ hpg
    have hb0 : (C.sem.pages (b, p)).getD C.sem.blank = xp := by
      rw [show C.sem.pages (b, p) = (C.pages (b, p)).map (·.2.2) from rfl, hpg]; rfl
    rw [hb0] at hre hbl hbb
    have hxl : xp.length = C.g.raw.toNat := by omega
    have hsp : eU C.own Ap xp.length 1 (ints .u8 xp) := hpe.1
    refine Does.enter Tryz.func96 rfl Tryz.ntmps96 rfl ?_
    simp only [aI, Nat.reduceAdd]
    refine WC.sr (WL.sg rfl rfl (WL.sg rfl rfl (WL.nil (WC.seq (WC.sr (WL.mv rfl rfl ?_))))))
    refine WL.call (vs := [_]) Tryz.call50 ⟨OV.p rfl, trivial⟩ (iV (C := C) (by repeat (first | exact bD.all | apply bD.up))) rfl ?_
    rintro _ H0 ⟨rfl, h0⟩
    subst H0
    refine WL.sg rfl rfl (WL.nil (WC.sr (WL.mv rfl rfl (WL.val (V.neq (OV.p rfl) (OV.p rfl)) rfl (WL.nil ?_)))))
    refine WC.cond rfl (fun hc0 => ?_) (fun hc0 => ?_)
    ·skip
     have hup : C.up = false := by cases h : C.up <;> simp [ah.ready, Cw.sem, h] at hc0 ⊢
     refine WC.sr (WL.mv rfl rfl (WL.sg rfl rfl (WL.sg rfl rfl (WL.nil (WC.ret ?_)))))
     have e1 : C.sem.eD b p = 70 := by unfold ah.eD; rw [if_pos (show C.sem.up = false from hup)]
     have e2 : C.sem.ready = 70 := by unfold ah.ready; rw [if_neg (by show ¬ C.up = true; rw [hup]; decide)]
     rw [e2]
     exact au.ret (H' := C.A bc :: F) (aO.fD rfl rfl rfl) (fun w h => Sat.all (l := C.parts bc) h) (.inr ⟨by rw [e1]; decide, by rw [e1], rfl⟩)
    ·skip
     have hup : C.up = true := by cases h : C.up <;> simp [ah.ready, Cw.sem, h] at hc0 ⊢
     refine WC.skip (WC.seq (WC.sr (WL.mv rfl rfl (WL.mv rfl rfl (WL.mv rfl rfl ?_)))))
     refine WL.call (vs := [_, _, _]) Tryz.call59 ⟨OV.p rfl, OV.p rfl, OV.p rfl, trivial⟩ (qY (C := C) b p (by repeat (first | exact bD.all | apply bD.up))) rfl ?_
     rintro _ H0 ⟨rfl, h0⟩
     subst H0
     refine WL.val (V.not (OV.p rfl)) rfl (WL.nil ?_)
     refine WC.cond rfl (fun hc1 => ?_) (fun hc1 => ?_)
     ·simp only [decide_eq_true_eq, decide_eq_false_iff_not, Bool.and_eq_true, Bool.or_eq_true, Bool.and_eq_false_iff, Bool.or_eq_false_iff, Bool.not_eq_true', Bool.not_eq_false', Bool.not_eq_true, Bool.not_eq_false] at hc1
      have h1 := hc1
      refine WC.sr (WL.sg rfl rfl (WL.sg rfl rfl (WL.nil (WC.ret ?_))))
      have e1 : C.sem.eD b p = 1 := by unfold ah.eD; rw [if_neg (by show ¬ C.up = false; rw [hup]; decide), if_pos h1]
      exact au.ret (H' := C.A bc :: F) (aO.fD rfl rfl rfl) (fun w h => Sat.all (l := C.parts bc) h) (.inr ⟨by rw [e1]; decide, by rw [e1], rfl⟩)
     ·simp only [decide_eq_true_eq, decide_eq_false_iff_not, Bool.and_eq_true, Bool.or_eq_true, Bool.and_eq_false_iff, Bool.or_eq_false_iff, Bool.not_eq_true', Bool.not_eq_false', Bool.not_eq_true, Bool.not_eq_false] at hc1
      have h1 := hc1
      refine WC.skip (WC.sr (WL.mv rfl rfl (WL.nc rfl rfl (WL.val (V.fieldAddr w9 (OV.p rfl)) rfl (WL.ld Tryz.isAgg79 rfl rfl ?_)))))
      refine WL.mv rfl rfl (WL.mv rfl rfl (WL.val (V.build (vs := [(0, _), (1, _)]) ⟨OV.p rfl, OV.p rfl, trivial⟩ rfl (eT _ _)) rfl ?_))
      refine WL.val (V.aC (v' := .tuple #[.slice Ap xp.length cp, .bool true]) (V.Fy (k := (b, p)) Tryz.underlying79 Tryz.zeroValue43 p8 (OV.p rfl) (OV.p rfl) (fun _ => by repeat (first | exact Bu.here | apply Bu.up))) (fun _ => by unfold Cw.fZ; rw [hpg]; rfl)) rfl ?_
      refine WL.mv rfl rfl (WL.xt rfl rfl rfl (WL.xt rfl rfl rfl (WL.sg rfl rfl (WL.sg rfl rfl (WL.nil (WC.seq (WC.sr (WL.mv rfl rfl (WL.val (V.not (OV.p rfl)) rfl (WL.nil ?_))))))))))
      refine WC.aQ rfl (by first | rfl | (simp; done) | (simp; omega)) ?_
      refine WC.skip (WC.sr (WL.mv rfl rfl (WL.mv rfl rfl (WL.nc rfl rfl (WL.val (V.fieldAddr AV (OV.p rfl)) rfl (WL.ld Tryz.isAgg80 rfl rfl ?_))))))
      refine WL.mv rfl rfl (WL.mv rfl rfl (WL.val (V.build (vs := [(0, _), (1, _)]) ⟨OV.p rfl, OV.p rfl, trivial⟩ rfl (eT _ _)) rfl ?_))
      refine WL.val (V.aC (v' := .slice Aw lw.length cw) (V.lookup (k := (b, p)) Tryz.underlying80 Tryz.zeroValue24 p8 (OV.p rfl) (OV.p rfl) (fun _ => by repeat (first | exact Bu.here | apply Bu.up))) (fun _ => hw1)) rfl ?_
      refine WL.call (vs := [_, _]) Tryz.call133 ⟨OV.p rfl, OV.p rfl, trivial⟩ (Cj hbb (by repeat (first | exact eU.seq hsp | apply Seq.up)) (by repeat (first | exact eU.seq hw2 | apply Seq.up)) (by rw [hbl]; exact hw3) (by omega) hwl) rfl ?_
      rintro _ _ ⟨bt, rfl, rfl⟩
      refine WL.xt rfl rfl rfl (WL.xt rfl rfl rfl (WL.sg rfl rfl (WL.sg rfl rfl (WL.nil (WC.ret ?_)))))
      have e1 : C.sem.eD b p = 0 := by unfold ah.eD; rw [if_neg (by show ¬ C.up = false; rw [hup]; decide), if_neg (by rw [h1]; decide)]
      refine au.ret (H' := Cells bt _ (ints .u8 (C.sem.reads b p)) :: C.A bc :: F) (aO.fD rfl rfl rfl) (fun w h => ?_) (.inl ⟨e1, bt, by rw [hxl], rfl⟩)
      rw [hre] at h
      exact (Sat.all (l := C.parts bc) (h.sel 8 [1, 2, 3, 4, 5, 6, 7, 0] rfl)).p1
def Cw.new (g : Geo) (m : Int → Bool) (bp bw bn bm bk : Nat) : Cw := ⟨g, fun _ => none, fun _ => none, List.replicate g.bl.toNat 0, m, fun _ => false, 0, true, 0, 0, bp, bw, bn, bm, bk, []⟩
def ah.new (g : Geo) (l : List Int) : ah := ⟨g, fun _ => none, fun _ => none, List.replicate g.bl.toNat 0, fun k => decide (k ∈ l), fun _ => false, 0, true, 0, 0⟩
theorem Cw.OZ {g : Geo} (h : g.aD) (m : Int → Bool) (bp bw bn bm bk : Nat) : (Cw.new g m bp bw bn bm bk).Ok := by
  refine ⟨h, fun p e he => (by have h : (none : Option (Option Addr × Nat × List Int)) = some e := he; cases h), fun p e he => (by have h : (none : Option (Option Addr × Nat × List Int)) = some e := he; cases h), ?_, fun x hx => ?_, (by show (0 : Int) ≤ 0 ∧ (0 : Int) ≤ 9223372036854775807; decide)⟩
  · show ((List.replicate g.bl.toNat 0).length : Int) = g.bl
    rw [List.length_replicate]; unfold Geo.aD at h; omega
  · rw [List.eq_of_mem_replicate hx]; unfold Geo.aD at h; show (0 : Int) ≤ 0 ∧ 0 ≤ g.pg; omega
theorem Dl {l : List Int} {j : Nat} (h : j < l.length) : (fun k' => if k' = l.getD j 0 then true else decide (k' ∈ l.take j)) = fun k => decide (k ∈ l.take (j + 1)) := by
  funext k
  have hg : l.getD j 0 = l[j] := by simp [List.getD, h]
  have ht : l.take (j + 1) = l.take j ++ [l[j]] := by rw [List.take_add_one, List.getElem?_eq_getElem h]; rfl
  rw [hg, ht]
  by_cases hk : k = l[j]
  · rw [if_pos hk, decide_eq_true (List.mem_append.2 (.inr (List.mem_singleton.2 hk)))]
  · rw [if_neg hk]
    exact decide_eq_decide.2 ⟨fun h => List.mem_append_left _ h, fun h => (List.mem_append.1 h).elim id fun h => absurd (List.mem_singleton.1 h) hk⟩
theorem Me (g : Geo) {B : Option Addr} {q cap : Nat} {l : List Int} {K : World} {F : List ak} (hl : Seq K F B q 1 (ints .i64 l)) (hq : q ≤ 9223372036854775807) :
    Does Tryz.prog 10 #[g.v, .slice B q cap] K F (fun v H' =>
      (g.may = true ∧ (∀ x ∈ l, 0 ≤ x ∧ x < g.bl) ∧ ∃ bc, ∃ C : Cw, C.Ok ∧ C.sem = ah.new g l ∧ v = .tuple #[ptr bc 0, .int .i64 0] ∧ H' = C.A bc :: F) ∨
      (¬ (g.may = true ∧ ∀ x ∈ l, 0 ≤ x ∧ x < g.bl) ∧ v = .tuple #[.pointer none, .int .i64 1] ∧ H' = F)) := by
  have hll : l.length = q := by simpa [ints] using hl.len
  cases hm : g.may with
  | false =>
    refine Does.enter Tryz.func10 rfl Tryz.ntmps10 rfl ?_
    simp only [aI, Nat.reduceAdd]
    refine WC.sr ?_
    refine WL.box (cs := [_, _, _, _, _]) (OV.p rfl) rfl rfl (fun b2 => ?_)
    refine WL.sg rfl rfl (WL.sg rfl rfl (WL.nil (WC.sr ?_)))
    refine WL.val (V.bB (vs := [_, _, _, _, _]) ⟨Tryz.isAgg23, Tryz.sizeOf23⟩ (OV.p rfl) rfl (fun _ => by repeat (first | exact bD.gets ⟨rfl, rfl, rfl, rfl, rfl, trivial⟩ | apply bD.up))) rfl ?_
    refine WL.call (vs := [_]) Tryz.call45 ⟨OV.p rfl, trivial⟩ (aL.eq (v' := .tuple #[.int .i64 0, .int .i64 1]) (D7 g _ _) (by rw [hm]; rfl)) rfl ?_
    rintro _ H0 ⟨rfl, h0⟩
    subst H0
    refine WL.mv rfl rfl (WL.xt rfl rfl rfl (WL.xt rfl rfl rfl (WL.sg rfl rfl (WL.sg rfl rfl (WL.nil (WC.seq (WC.sr (WL.mv rfl rfl (WL.val (V.neq (OV.p rfl) (OV.p rfl)) rfl (WL.nil ?_))))))))))
    refine WC.dV rfl (by first | rfl | (simp; done) | (simp; omega)) ?_
    refine WC.sr (WL.mv rfl rfl (WL.sg rfl rfl (WL.sg rfl rfl (WL.nil (WC.ret ?_)))))
    exact au.ret (H' := F) (aO.fD rfl rfl rfl) (fun w h => by repeat (first | exact h | replace h := h.tail)) (.inr ⟨fun h => (by cases h.1), rfl, rfl⟩)
  | true =>
    have hg := Geo.mE hm
    have hgb := hg
    unfold Geo.aD at hgb
    refine Does.enter Tryz.func10 rfl Tryz.ntmps10 rfl ?_
    simp only [aI, Nat.reduceAdd]
    refine WC.sr ?_
    refine WL.box (cs := [_, _, _, _, _]) (OV.p rfl) rfl rfl (fun b2 => ?_)
    refine WL.sg rfl rfl (WL.sg rfl rfl (WL.nil (WC.sr ?_)))
    refine WL.val (V.bB (vs := [_, _, _, _, _]) ⟨Tryz.isAgg23, Tryz.sizeOf23⟩ (OV.p rfl) rfl (fun _ => by repeat (first | exact bD.gets ⟨rfl, rfl, rfl, rfl, rfl, trivial⟩ | apply bD.up))) rfl ?_
    refine WL.call (vs := [_]) Tryz.call45 ⟨OV.p rfl, trivial⟩ (aL.eq (v' := .tuple #[.int .i64 g.raw, .int .i64 0]) (D7 g _ _) (by rw [hm]; rfl)) rfl ?_
    rintro _ H0 ⟨rfl, h0⟩
    subst H0
    refine WL.mv rfl rfl (WL.xt rfl rfl rfl (WL.xt rfl rfl rfl (WL.sg rfl rfl (WL.sg rfl rfl (WL.nil (WC.seq (WC.sr (WL.mv rfl rfl (WL.val (V.neq (OV.p rfl) (OV.p rfl)) rfl (WL.nil ?_))))))))))
    refine WC.aQ rfl (by first | rfl | (simp; done) | (simp; omega)) ?_
    refine WC.skip (WC.seq ?_)
    refine WC.Ea (by kernel_rfl) ?_
    refine WA.t 0 rfl (V.bB (vs := [_, _, _, _, _]) ⟨Tryz.isAgg23, Tryz.sizeOf23⟩ (OV.p rfl) rfl (fun _ => by repeat (first | exact bD.gets ⟨rfl, rfl, rfl, rfl, rfl, trivial⟩ | apply bD.up))) ?_
    refine WA.t 1 rfl (V.move (OV.p rfl)) (WA.t 4 rfl (V.fieldAddr jI (OV.p rfl)) ?_)
    refine WA.t 5 rfl (V.load Tryz.isAgg3 (OV.p rfl) (fun _ => by repeat (first | exact Rd.here rfl | apply Rd.up))) ?_
    refine WA.par (fuel := 3) (e0 := [(24, .int .i64 g.bl), (20, .int .i64 g.raw), (19, g.v), (1, .slice B q cap)]) (EX := #[true, true, true, true, true, true, true, true, true, false, false, false]) [⟨2, 21, fun b => .map (some b), fun b => cO b eF fun _ => none⟩, ⟨3, 22, fun b => .map (some b), fun b => cO b eF fun _ => none⟩, ⟨6, 25, fun b => .slice (some ⟨b, 0, none⟩) g.bl.toNat g.bl.toNat, fun b => Cells b 3 (List.replicate g.bl.toNat (.int .i64 0))⟩, ⟨7, 26, fun b => .map (some b), fun b => cO b kC fun _ => none⟩, ⟨8, 27, fun b => .map (some b), fun b => cO b kC fun _ => none⟩] _ rfl rfl rfl (.cons rfl (.cons rfl (.cons rfl (.cons rfl (.nil _))))) (by kernel_rfl) ?_ (fun w h => h) (fun bs hbs => ?_)
    · intro x hx
      simp only [List.mem_cons, List.not_mem_nil, or_false] at hx
      rcases hx with rfl | rfl | rfl | rfl | rfl
      · exact ⟨_, rfl, fun e' H' Q' hE h => WL.makeMap eF rfl h⟩
      · exact ⟨_, rfl, fun e' H' Q' hE h => WL.makeMap eF rfl h⟩
      · exact ⟨_, rfl, fun e' H' Q' hE h => WL.oW (m := g.bl.toNat) Tryz.underlying24 el3 (OV.p (hE 24 _ rfl)) (OV.p (hE 24 _ rfl)) (by omega) (by omega) (by omega) rfl rfl rfl h⟩
      · exact ⟨_, rfl, fun e' H' Q' hE h => WL.makeMap kC rfl h⟩
      · exact ⟨_, rfl, fun e' H' Q' hE h => WL.makeMap kC rfl h⟩
    obtain ⟨PV, Ny, M4, Pm, Po, rfl⟩ : ∃ a b c d e, bs = [a, b, c, d, e] := by
      match bs, hbs with
      | [a, b, c, d, e], _ => exact ⟨a, b, c, d, e, rfl⟩
    simp only [List.zip_cons_cons, List.zip_nil_right, List.map_cons, List.map_nil, List.cons_append, List.nil_append]
    refine WA.t 9 rfl (V.build (vs := [(0, _), (1, _), (2, _), (3, _), (4, _), (5, _), (6, _), (8, _)]) ⟨OV.p rfl, OV.p rfl, OV.p rfl, OV.p rfl, OV.p rfl, OV.p rfl, OV.p rfl, OV.p rfl, trivial⟩ rfl (pq _ _ _ _ _ _ _ _ _ _ _ _ _ _)) (WA.o 10 rfl ?_)
    refine WL.box (cs := [_, _, _, _, _, _, _, _, _, _, _, _, _, _, _]) (OV.p rfl) rfl rfl (fun J2 => ?_)
    refine WL.nil (WA.t 11 rfl (V.assign (OV.p rfl)) (WA.fin (WC.seq (WC.sr (WL.mv rfl rfl (WL.val (V.len (t := 24) Tryz.runUnderlying24 (OV.p rfl)) rfl (WL.mv rfl rfl (WL.nil (WC.block ?_)))))))))
    refine WC.loop (σ := Nat) (fun j => [(8, ptr J2 0), (30, .slice B q cap), (31, .int .i64 (q : Int)), (32, .int .i64 (j : Int))]) (fun j => Cells J2 83 (Cw.new g (fun _ => false) PV Ny M4 Pm Po).cells :: cO PV eF (fun _ => none) :: cO Ny eF (fun _ => none) :: Cells M4 3 (ints .i64 (List.replicate g.bl.toNat 0)) :: cO Pm kC (gQ fun k => decide (k ∈ l.take j)) :: cO Po kC (fun _ => none) :: F) (fun j => j ≤ q ∧ ∀ x ∈ l.take j, 0 ≤ x ∧ x < g.bl) (fun j => q - j) 0 ⟨Nat.zero_le _, fun x hx => (by cases hx)⟩ (.cons rfl (.cons rfl (.cons rfl (.cons rfl (.nil _))))) (fun w h => ?_) ?_
    · rw [Am]
      have e1 : (Cw.new g (fun _ => false) PV Ny M4 Pm Po).cells = _ := rfl
      refine Sat.aV (h.sel 7 [0, 1, 2, 3, 4, 5] rfl) ?_
      simp [Cw.cells, Cw.new]
    rintro j ⟨hj, hin⟩
    refine WC.sr (WL.val (V.lss (OV.p rfl) (OV.p rfl)) rfl (WL.nil (WC.seq ?_)))
    refine WC.cond rfl (fun hc1 => ?_) (fun hc1 => ?_)
    ·try simp only [decide_eq_true_eq, decide_eq_false_iff_not, Bool.and_eq_true, Bool.or_eq_true, Bool.and_eq_false_iff, Bool.or_eq_false_iff, Bool.not_eq_true', Bool.not_eq_false', Bool.not_eq_true, Bool.not_eq_false, Int.not_lt, Int.not_le] at hc1
     refine WC.skip (WC.seq (WC.block (WC.sr ?_)))
     refine WL.val (V.dS bZ (OV.p rfl) (OV.p rfl) (fun hc => by first | omega | (simp at hc; omega)) (fun hc => by repeat (first | exact Seq.iY hl (by first | omega | (simp at hc; omega)) | apply Rd.up))) rfl ?_
     refine WL.val (V.load Tryz.isAgg3 (OV.p rfl) (fun hc => by repeat (first | exact Seq.iY hl (by first | omega | (simp at hc; omega)) | apply Rd.up))) rfl ?_
     refine WL.sg rfl rfl (WL.nil (WC.seq (WC.sr (WL.mv rfl rfl (WL.mv rfl rfl ?_)))))
     refine WL.call (vs := [_, _]) Tryz.call46 ⟨OV.p rfl, OV.p rfl, trivial⟩ (oo (C := Cw.new g (fun _ => false) PV Ny M4 Pm Po) _ (by repeat (first | exact bD.all | apply bD.up))) rfl ?_
     rintro _ H0 ⟨rfl, h0⟩
     subst H0
     refine WL.val (V.not (OV.p rfl)) rfl (WL.nil ?_)
     refine WC.cond rfl (fun hc2 => ?_) (fun hc2 => ?_)
     ·skip
      have h2 := hc2
      refine WC.sr (WL.sg rfl rfl (WL.sg rfl rfl (WL.nil (WC.ret ?_))))
      refine au.ret (H' := F) (aO.fD rfl rfl rfl) (fun w h => by repeat (first | exact h | replace h := h.tail)) (.inr ⟨fun h => ?_, rfl, rfl⟩)
      have h3 := h.2 (l.getD (j : Int).toNat 0) (by rw [List.getD, List.getElem?_eq_getElem (by omega)]; exact List.getElem_mem _)
      simp [ah.block, Cw.sem, Cw.new] at h2
      simp at h3
      omega
     ·skip
      have h2 := hc2
      refine WC.skip (WC.region (WL.mv rfl rfl (WL.nc rfl rfl (WL.val (V.fieldAddr Hl (OV.p rfl)) rfl (WL.ld Tryz.isAgg81 rfl rfl ?_)))))
      refine WL.mv rfl rfl ?_
      refine WL.lK (k := _) Tryz.underlying81 QJ (OV.p rfl) (OV.p rfl) (OV.p rfl) (by repeat (first | exact jT.here | apply jT.up)) ?_
      refine WL.nil (WC.region (WL.ad rfl rfl rfl ?_))
      refine WL.mv rfl rfl (WL.nil ?_)
      refine ⟨rfl, ?_⟩
      refine ⟨j + 1, ⟨by show j + 1 ≤ q; omega, fun x hx => ?_⟩, (by show q - (j + 1) < q - j; omega), .cons rfl (.cons rfl (.cons rfl (.cons (look_eq rfl (by simp)) (.nil _)))), fun w h => ?_⟩
      · rw [List.take_add_one, List.getElem?_eq_getElem (by omega)] at hx
        rcases List.mem_append.1 hx with hx | hx
        · exact hin x hx
        · have hx' : x = l.getD (j : Int).toNat 0 := by
            simp at hx
            rw [show (j : Int).toNat = j by omega]
            simp [List.getD, show j < l.length by omega, hx]
          subst hx'
          simp [ah.block, Cw.sem, Cw.new] at h2
          exact h2
      · rw [CU, show (j : Int).toNat = j by omega, Dl (by omega)] at h
        exact h
    ·try simp only [decide_eq_true_eq, decide_eq_false_iff_not, Bool.and_eq_true, Bool.or_eq_true, Bool.and_eq_false_iff, Bool.or_eq_false_iff, Bool.not_eq_true', Bool.not_eq_false', Bool.not_eq_true, Bool.not_eq_false, Int.not_lt, Int.not_le] at hc1
     refine WC.exit (WC.sr (WL.mv rfl rfl (WL.sg rfl rfl (WL.sg rfl rfl (WL.nil (WC.ret ?_))))))
     obtain rfl : j = q := by omega
     rw [List.take_of_length_le (by omega)] at hin
     refine au.ret (H' := (Cw.new g (fun k => decide (k ∈ l.take j)) PV Ny M4 Pm Po).A J2 :: F) (aO.fD rfl rfl rfl) (fun w h => ?_) (.inl ⟨(by first | trivial | rfl), hin, J2, _, Cw.OZ hg _ _ _ _ _ _, ?_, rfl, rfl⟩)
     · have h1 := (Sat.all (l := []) h).sel 7 [1, 2, 3, 4, 5, 6, 0] rfl
       exact Sat.all (l := (Cw.new g (fun k => decide (k ∈ l.take j)) PV Ny M4 Pm Po).parts J2) h1
     · rw [List.take_of_length_le (by omega)]
       rfl
theorem F5 {A : Option Addr} {m cap : Nat} {xs : List Int} {K : World} {F : List ak} (hs : Seq K F A m 1 (ints .u8 xs)) (hm : m ≤ 1000000) :
    Does Tryz.prog 87 #[.slice A m cap] K F (fun v H' => ∃ A' cap', v = .slice A' m cap' ∧ H' = aU (.slice A' m cap') 5 1 m (ints .u8 xs) :: F) := by
  have hl : xs.length = m := by simpa [ints] using hs.len
  refine Does.have_ (p := A = none → xs = []) (fun w hw hA => by subst hA; simpa [ints] using hs.Fh hw) (fun hnil => ?_)
  refine Does.enter Tryz.func87 rfl Tryz.ntmps87 rfl ?_
  simp only [aI, Nat.reduceAdd]
  refine WC.sr (WL.sg rfl rfl (WL.nil (WC.seq (WC.sr (WL.mv rfl rfl (WL.val (V.MB Tryz.underlying43 (OV.p rfl)) rfl (WL.nil ?_)))))))
  refine WC.cond rfl (fun hc0 => ?_) (fun hc0 => ?_)
  ·skip
   have hA : A = none := by cases A <;> simp at hc0 ⊢
   subst hA
   have hx := hnil rfl
   subst hx
   obtain rfl : m = 0 := hl.symm
   refine WC.sr (WL.sg rfl rfl (WL.nil (WC.ret ?_)))
   exact au.ret (H' := aU (.slice none 0 0) _ 1 0 [] :: F) (aO.tmp rfl rfl) (fun w h => Sat.fO h _ _) ⟨none, 0, rfl, rfl⟩
  ·skip
   refine WC.skip (WC.sr ?_)
   refine WL.buildSlice (E := 5) (cs := []) (vs := []) trivial rfl (Nc ) rfl (fun b5 => ?_)
   refine WL.mv rfl rfl ?_
   refine WL.sub (Sub.refl _) (fun w h => Sat.Dq (m := 0) (cap := 0) (s := 1) h rfl (Nat.le_refl _) (Nat.zero_le _)) ?_
   refine WL.append (m := 0) (cs := []) Tryz.underlying43 yD (OV.p rfl) (OV.p rfl) (by repeat (first | exact hs | apply Seq.up)) (qJ _ _) (by omega) rfl rfl (fun A' c' hn' hc' => ?_)
   refine WL.sg rfl rfl (WL.nil (WC.ret ?_))
   refine au.ret (H' := aU (.slice A' m c') _ 1 m (ints .u8 xs) :: F) (aO.tmp rfl (look_eq rfl (by simp))) (fun w h => ?_) ⟨A', c', rfl, rfl⟩
   simpa using h
namespace Cw
end Cw
theorem wo (k : IntKind) (xs : List Nat) : aA k xs = ints k (xs.map fun x : Nat => (x : Int)) := by simp [aA, ints]
section
variable {K : World} {F : List ak}
theorem tJ {A : Option Addr} {m cap : Nat} {xs : List Nat} (hs : Seq K F A m 1 (aA .u8 xs)) (hm : m ≤ 1000000) :
    Does Tryz.prog 87 #[.slice A m cap] K F (fun v H' => ∃ A' cap', v = .slice A' m cap' ∧ H' = aU (.slice A' m cap') 5 1 m (aA .u8 xs) :: F) := by
  rw [wo] at hs ⊢
  exact F5 hs hm
theorem uU {A : Option Addr} {m cap E : Nat} {cs : List Value} (hm : 0 < m) : ∀ w, Sat K w (aU (.slice A m cap) E 1 m cs :: F) → ∃ x : Nat × List Value, (A = some ⟨x.1, 0, none⟩ ∧ (cs ++ x.2).length = cap ∧ cap ≤ maxLen) ∧ Sat K w (Cells x.1 E (cs ++ x.2) :: F) := fun w hw => by
  cases A with
  | none => have := (aU.sM hw).1; omega
  | some a =>
    obtain ⟨g, rfl⟩ := aU.addr hw
    obtain ⟨r, ⟨h1, h2, h3, h4⟩, h5⟩ := Sat.kH hw
    exact ⟨(g, r), ⟨rfl, by show (cs ++ r).length = cap; omega, h4⟩, h5⟩
theorem Gh {t : Nat} {A B : Option Addr} {m q cap cap' : Nat} {d mo : List Nat} (ht : 1 ≤ t ∧ t ≤ 8) (hd : Seq K F A m 1 (aA .u8 d)) (hm : Seq K F B q 1 (aA .u8 mo)) (BI : Small 256 d) (OE : Small 256 mo) (hdl : 1 ≤ m ∧ m ≤ 512) (hml : q = ay t) :
    Does Tryz.prog 151 #[.int .i64 (t : Int), .slice A m cap, .slice B q cap'] K F
      (fun v H' => ∃ bw, ∃ W : Wd, W.Ok ∧ W.t = t ∧ W.d = d ∧ W.m = dM t mo ∧ (W.d.length ≤ W.c1 ∧ W.m.length ≤ W.c2) ∧ v = .tuple #[ptr bw 0, .int .i64 0] ∧ H' = W.parts bw ++ F) := by
  have hl : d.length = m := by simpa [aA] using hd.len
  have Bq : mo.length = q := by simpa [aA] using hm.len
  have Uv : q ≤ 13 := by rw [hml]; unfold ay; omega
  have hq0 : 0 < q := by rw [hml]; unfold ay; omega
  have Um : 13 * t ≤ 8 * q := by rw [hml]; unfold ay; omega
  refine Does.enter Tryz.func151 rfl Tryz.ntmps151 rfl ?_
  simp only [aI, Nat.reduceAdd]
  refine WC.sr (WL.sg rfl rfl (WL.sg rfl rfl (WL.nil (WC.sr (WL.mv rfl rfl (WL.mv rfl rfl (WL.call (vs := [_, _]) Tryz.call146 ⟨OV.p rfl, OV.p rfl, trivial⟩ (EU ht hdl) rfl ?_)))))))
  rintro _ H0 ⟨rfl, h0⟩
  subst H0
  refine WL.mv rfl rfl (WL.xt rfl rfl rfl (WL.xt rfl rfl rfl (WL.sg rfl rfl (WL.sg rfl rfl (WL.nil (WC.seq (WC.sr (WL.mv rfl rfl (WL.val (V.neq (OV.p rfl) (OV.p rfl)) rfl (WL.mv rfl rfl (WL.av (oj := _) rfl rfl rfl GC.f (V.move (OV.p rfl)) rfl (WL.av (oj := _) rfl rfl rfl GC.f (V.len (t := 43) Tryz.runUnderlying43 (OV.g rfl id)) rfl (WL.av (oj := _) rfl rfl rfl GC.f (V.move (OV.p rfl)) rfl (WL.av (oj := _) rfl rfl rfl GC.f (V.neq (OV.g rfl id) (OV.g rfl id)) rfl (WL.val (V.bH (OV.p rfl) (OV.g rfl id)) rfl (WL.nil ?_))))))))))))))))
  refine WC.aQ rfl ((by simp; rw [hml])) ?_
  refine WC.skip (WC.sr (WL.mv rfl rfl (WL.mv rfl rfl ?_)))
  refine WL.call (vs := [_]) Tryz.call87 ⟨OV.p rfl, trivial⟩ (tJ hd (by omega)) rfl ?_
  rintro _ _ ⟨A1, c1, rfl, rfl⟩
  refine WL.ex (uU (by omega)) (fun ⟨g1, r1⟩ ⟨e1, hr1, hc1⟩ => ?_)
  dsimp only at e1 hr1 ⊢
  subst e1
  refine WL.mv rfl rfl ?_
  refine WL.call (vs := [_]) Tryz.call87 ⟨OV.p rfl, trivial⟩ (tJ hm.up (by omega)) rfl ?_
  rintro _ _ ⟨A2, c2, rfl, rfl⟩
  refine WL.ex (uU hq0) (fun ⟨g2, r2⟩ ⟨e2, hr2, hc2⟩ => ?_)
  dsimp only at e2 hr2 ⊢
  subst e2
  have hr1' : d.length ≤ c1 := by rw [← hr1, List.length_append, aH]; omega
  have hr2' : mo.length ≤ c2 := by rw [← hr2, List.length_append, aH]; omega
  refine WL.val (V.build (vs := [(0, _), (1, _), (2, _)]) ⟨OV.p rfl, OV.p rfl, OV.p rfl, trivial⟩ rfl (Dh _ _ _ _ _ _ _)) rfl ?_
  refine WL.box (cs := [_, _, _]) (OV.p rfl) rfl rfl (fun b32 => ?_)
  refine WL.sg rfl rfl (WL.nil (WC.seq (WC.sr (WL.mv rfl rfl ?_))))
  refine WL.val (V.jF (OV.p rfl) (OV.p rfl) (fun hc => by first | omega | (simp at hc; omega))) rfl ?_
  refine WL.sg rfl rfl (WL.nil (WC.block ?_))
  refine WC.loop (σ := Nat) (fun k => [(10, ptr b32 0), (8, .int .i64 (q : Int)), (11, .int .i64 ((13 * t + k : Nat) : Int))]) (fun k => Cells g2 5 (aA .u8 (eY mo (13 * t) k) ++ r2) :: Cells b32 199 [.int .i64 (t : Int), .slice (some ⟨g1, 0, none⟩) m c1, .slice (some ⟨g2, 0, none⟩) q c2] :: Cells g1 5 (aA .u8 d ++ r1) :: F) (fun k => 13 * t + k ≤ 8 * q) (fun k => 8 * q - k) 0 (by simpa using Um) (.cons rfl (.cons (look_eq rfl (by rw [hml])) (.cons (look_eq rfl (by simp)) (.nil _)))) (fun w h => h.p1) ?_
  rintro k hk
  refine WC.seq (WC.sr (WL.mv rfl rfl (WL.mv rfl rfl ?_)))
  refine WL.val (V.jF (OV.p rfl) (OV.p rfl) (fun hc => by first | omega | (simp at hc; omega))) rfl ?_
  refine WL.val (V.lss (OV.p rfl) (OV.p rfl)) rfl (WL.nil ?_)
  refine WC.cond rfl (fun hc1 => ?_) (fun hc1 => ?_)
  ·simp only [decide_eq_true_eq, decide_eq_false_iff_not] at hc1
   obtain ⟨o, ho⟩ : ∃ o, o = eY mo (13 * t) k := ⟨_, rfl⟩
   have hol : o.length = q := by rw [ho, iO, Bq]
   have hos : Small 256 o := by rw [ho]; exact jv OE k
   rw [← ho]
   obtain ⟨i, hi⟩ : ∃ i, i = 13 * t + k := ⟨_, rfl⟩
   rw [← hi]
   have hg1 : (aA .u8 o ++ r2)[0 + ((i : Int) / 8).toNat * 1]? = some (.int .u8 (o.getD (i / 8) 0 : Nat)) := by rw [show 0 + ((i : Int) / 8).toNat * 1 = i / 8 by omega]; exact ji _ _ _ (by omega)
   have hcl := Cz (hos.at_ (by decide) (i / 8)) (Nat.mod_lt i (show 0 < 8 by decide))
   refine WC.skip (WC.seq (WC.block ?_))
   refine WC.dR (Cells b32 199 [.int .i64 (t : Int), .slice (some ⟨g1, 0, none⟩) m c1, .slice (some ⟨g2, 0, none⟩) q c2] :: Cells g1 5 (aA .u8 d ++ r1) :: F) (by kernel_rfl) ?_
   refine WA.t 0 rfl (V.move (OV.p rfl)) (WA.t 1 rfl (V.nilCheck (OV.p rfl)) (WA.t 2 rfl (V.fieldAddr yO (OV.p rfl)) ?_))
   refine WA.t 3 rfl (V.load Tryz.isAgg43 (OV.p rfl) (fun _ => by repeat (first | exact Rd.here rfl | apply Rd.up))) ?_
   refine WA.t 4 rfl (V.move (OV.p rfl)) ?_
   refine WA.t 5 rfl (V.sV (OV.p rfl) (OV.p rfl) (fun hc => by first | omega | (simp at hc; omega))) ?_
   refine WA.t 6 rfl (V.bR fE (OV.p rfl) (OV.p rfl) (fun hc => by omega)) ?_
   refine WA.t 8 rfl (V.move (OV.p rfl)) ?_
   refine WA.t 9 rfl (V.aC (v' := .int .i64 ((i % 8 : Nat) : Int)) (V.o8 (OV.p rfl) (OV.p rfl) (fun _ => by omega)) (fun _ => by simp)) ?_
   refine WA.t 10 rfl (V.shl (OV.p rfl) (OV.p rfl) (by omega)) ?_
   refine WA.o 7 rfl ?_
   refine WL.val (V.load Tryz.isAgg5 (OV.p rfl) (fun hc => Rd.here hg1)) rfl ?_
   refine WL.nil ?_
   refine WA.t 11 rfl (V.aC (v' := .int .u8 ((zS (o.getD (i / 8) 0) (i % 8) : Nat) : Int)) (V.andNot (OV.p rfl) (OV.p rfl)) (fun _ => by rw [hcl.1])) ?_
   refine WA.t 12 rfl (V.bR fE (OV.p rfl) (OV.p rfl) (fun hc => by omega)) ?_
   refine WA.o 13 rfl ?_
   refine WL.store (cs := [_]) Tryz.sizeOf5 (OV.p rfl) (OV.p rfl) rfl rfl rfl (bA.at_ (by rw [List.length_append, aH]; omega)) ?_
   refine WL.nil (WA.fin (WC.region (WL.mv rfl rfl (WL.ad rfl rfl rfl ?_))))
   refine WL.sg rfl rfl (WL.nil ?_)
   refine ⟨rfl, ?_⟩
   refine ⟨k + 1, (by show 13 * t + (k + 1) ≤ 8 * q; omega), (by show 8 * q - (k + 1) < 8 * q - k; omega), .cons rfl (.cons rfl (.cons (look_eq rfl (by rw [hi]; simp; omega)) (.nil _))), fun w h => Sat.aV h ?_⟩
   rw [show 0 + ((i : Int) / 8).toNat * 1 = i / 8 by omega, jH _ _ _ (by omega), eY, ← ho, ← hi]
  ·simp only [decide_eq_true_eq, decide_eq_false_iff_not] at hc1
   refine WC.exit (WC.seq ?_)
   have hke : k = 8 * ay t - 13 * t := by omega
   have hmm : eY mo (13 * t) k = dM t mo := by unfold dM; rw [hke]
   rw [hmm]
   have SC : (dM t mo).length = q := by unfold dM; rw [iO, Bq]
   refine WC.region (WL.mv rfl rfl (WL.sg rfl rfl (WL.sg rfl rfl (WL.nil (WC.ret ?_)))))
   refine au.ret (H' := Wd.parts b32 ⟨t, d, dM t mo, g1, c1, g2, c2, r1, r2⟩ ++ F) (aO.fD rfl rfl rfl) (fun w h => ?_) ⟨b32, ⟨t, d, dM t mo, g1, c1, g2, c2, r1, r2⟩, ⟨ht, by show 1 ≤ d.length ∧ d.length ≤ 512; omega, by show (dM t mo).length = ay t; omega, BI, jv OE _⟩, rfl, rfl, rfl, ⟨hr1', by show (dM t mo).length ≤ c2; omega⟩, rfl, rfl⟩
   have h' := h.sel 3 [1, 2, 0] rfl
   dsimp only [Wd.parts, Wd.cells, List.cons_append, List.nil_append]
   rw [hl, SC]
   exact h'
end
end Go.Proofs.YtcmojpiokjhmhaaGreat
