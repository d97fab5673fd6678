import Derived.Test.YtcmojpiokjhmhaaGreatP5
namespace Go.Proofs.YtcmojpiokjhmhaaGreat
open Go.Sl Go.RowKit
set_option linter.unusedVariables false
set_option linter.unusedSimpArgs false
set_option maxRecDepth 20000
def aA (k : IntKind) (xs : List Nat) : List Value := xs.map fun x : Nat => Value.int k (x : Int)
theorem aH (k : IntKind) (xs : List Nat) : (aA k xs).length = xs.length := by simp [aA]
theorem nJ (k : IntKind) (xs : List Nat) {i : Nat} (h : i < xs.length) : (aA k xs)[i]? = some (.int k (xs.getD i 0 : Nat)) := by simp [aA, List.getD, h]
theorem jB (k : IntKind) (xs : List Nat) (i x : Nat) : (aA k xs).set i (.int k (x : Int)) = aA k (xs.set i x) := by simp [aA, List.map_set]
theorem qz (k : IntKind) (xs : List Nat) : ∀ u ∈ aA k xs, u.oneCell' = true := by simp [aA, Value.oneCell']
theorem dF (k : IntKind) (m x : Nat) : aA k (List.replicate m x) = List.replicate m (.int k (x : Int)) := by simp [aA]
theorem dI (k : IntKind) (xs ys : List Nat) : aA k (xs ++ ys) = aA k xs ++ aA k ys := by simp [aA]
theorem gG (k : IntKind) (xs : List Nat) (n : Nat) : (aA k xs).take n = aA k (xs.take n) := by simp [aA]
theorem ni (k : IntKind) (xs : List Nat) (n : Nat) : (aA k xs).drop n = aA k (xs.drop n) := by simp [aA]
def Small (b : Nat) (xs : List Nat) : Prop := ∀ x ∈ xs, x < b
theorem Small.at_ {b : Nat} {xs : List Nat} (h : Small b xs) (hb : 0 < b) (i : Nat) : xs.getD i 0 < b := by
  by_cases hi : i < xs.length
  · have := h xs[i] (List.getElem_mem hi)
    simpa [List.getD, hi] using this
  · simp [List.getD, List.getElem?_eq_none (Nat.le_of_not_lt hi), hb]
theorem Small.set {b : Nat} {xs : List Nat} (h : Small b xs) {i x : Nat} (hx : x < b) : Small b (xs.set i x) := fun y hy => by
  rcases List.mem_or_eq_of_mem_set hy with h1 | rfl
  · exact h y h1
  · exact hx
theorem Small.vZ {b n x : Nat} (hx : x < b) : Small b (List.replicate n x) := fun y hy => by rw [List.eq_of_mem_replicate hy]; exact hx
theorem Small.take {b n : Nat} {xs : List Nat} (h : Small b xs) : Small b (xs.take n) := fun y hy => h y (List.mem_of_mem_take hy)
theorem Small.append {b : Nat} {xs ys : List Nat} (h : Small b xs) (h' : Small b ys) : Small b (xs ++ ys) := fun y hy => (List.mem_append.1 hy).elim (h y) (h' y)
theorem _root_.Go.Sl.Seq.gU {K : World} {H : List ak} {A : Option Addr} {m : Nat} {k : IntKind} {xs : List Nat} (h : Seq K H A m 1 (aA k xs)) {j : Nat} (hj : j < m) : Rd K H (A.map (·.add (j * 1))) (.int k (xs.getD j 0 : Nat)) := by
  have hl : xs.length = m := by simpa [aA] using h.len
  have := h.rd j _ (nJ k xs (by omega))
  simpa using this
theorem _root_.Go.Sl.Seq.yG {K : World} {H : List ak} {b T m : Nat} {k : IntKind} {xs : List Nat} (hl : xs.length = m) : Seq K (Cells b T (aA k xs) :: H) (some ⟨b, 0, none⟩) m 1 (aA k xs) := Seq.all (by simp [aA, hl])
def aF (xs : List Nat) : Nat → Nat
  | 0 => 0
  | k + 1 => if xs.getD k 0 = 0 then aF xs k else k + 1
theorem eX (xs : List Nat) : ∀ k, aF xs k ≤ k
  | 0 => Nat.le_refl _
  | k + 1 => by
    have := eX xs k
    rw [aF]
    split <;> omega
def sF (out p : List Nat) (at_ Br : Nat) : Nat → List Nat
  | 0 => out
  | j + 1 => (sF out p at_ Br j).set (at_ + j) ((sF out p at_ Br j).getD (at_ + j) 0 ^^^ aN (p.getD j 0) Br)
theorem nO (out p : List Nat) (at_ Br : Nat) : ∀ j, (sF out p at_ Br j).length = out.length
  | 0 => rfl
  | j + 1 => by rw [sF, List.length_set, nO]
theorem qy {out p : List Nat} {at_ Br : Nat} (h : Small 8192 out) (hp : Small 8192 p) : ∀ j, Small 8192 (sF out p at_ Br j)
  | 0 => h
  | j + 1 => by
    have ih := qy (at_ := at_) (Br := Br) h hp j
    rw [sF]
    exact ih.set (dB (k := 13) (ih.at_ (by decide) _) (aR (hp.at_ (by decide) _)))
def uQ (ps qs : List Nat) : Nat → List Nat
  | 0 => List.replicate (ps.length + qs.length) 0
  | i + 1 => sF (uQ ps qs i) qs i (ps.getD i 0) qs.length
def fC (ps qs : List Nat) : List Nat := uQ ps qs ps.length
theorem kT (ps qs : List Nat) : ∀ i, (uQ ps qs i).length = ps.length + qs.length
  | 0 => List.length_replicate
  | i + 1 => by rw [uQ, nO, kT]
theorem ql {ps qs : List Nat} (hq : Small 8192 qs) : ∀ i, Small 8192 (uQ ps qs i)
  | 0 => Small.vZ (by decide)
  | i + 1 => qy (ql hq i) hq _
section
variable {K : World} {F : List ak}
theorem JY {A : Option Addr} {m cap : Nat} {xs : List Nat} (hs : Seq K F A m 1 (aA .i64 xs)) (hcap : m ≤ cap) (hm : m ≤ 1000000) : aL Tryz.prog 183 #[.slice A m cap] K F (.slice A (aF xs m) cap) := by
  refine Does.enter Tryz.func183 rfl Tryz.ntmps183 rfl ?_
  simp only [aI, Nat.reduceAdd]
  refine WC.sr (WL.sg rfl rfl (WL.nil (WC.seq (WC.block ?_))))
  refine WC.loop (σ := Nat) (fun j => [(0, .slice A j cap)]) (fun _ => F) (fun j => j ≤ m ∧ aF xs j = aF xs m) (fun j => j) m ⟨Nat.le_refl _, rfl⟩ (.cons rfl (.nil _)) (fun w h => h) ?_
  rintro j ⟨hj, hn⟩
  have hrd : 0 < j → Rd K F (A.map (·.add (((j : Int) - 1).toNat * 1))) (.int .i64 (xs.getD (j - 1) 0 : Nat)) := fun h => by
    rw [show ((j : Int) - 1).toNat = j - 1 by omega]; exact hs.gU (by omega)
  refine WC.seq (WC.sr (WL.mv rfl rfl (WL.val (V.len (t := 24) Tryz.runUnderlying24 (OV.p rfl)) rfl (WL.val (V.gtr (OV.p rfl) (OV.p rfl)) rfl (WL.mv rfl rfl (WL.av (oj := _) rfl rfl rfl GC.t (V.move (OV.p rfl)) rfl (WL.av (oj := _) rfl rfl rfl GC.t (V.move (OV.p rfl)) rfl (WL.av (oj := _) rfl rfl rfl GC.t (V.len (t := 24) Tryz.runUnderlying24 (OV.g rfl id)) rfl ?_))))))))
  refine WL.av (oj := _) rfl rfl rfl GC.t (V.tu (OV.g rfl id) (OV.p rfl) (fun hc => by first | omega | (simp at hc; omega))) rfl ?_
  refine WL.av (oj := _) rfl rfl rfl GC.t (V.dS (m := j) (cap := cap) bZ (OV.g rfl id) (OV.g rfl id) (fun hc => by simp at hc; omega) (fun hc => hrd (by simp at hc; omega))) rfl ?_
  refine WL.av (oj := _) rfl rfl rfl GC.t (V.load Tryz.isAgg3 (OV.g rfl id) (fun hc => hrd (by simp at hc; omega))) rfl ?_
  refine WL.av (oj := _) rfl rfl rfl GC.t (V.eql (OV.g rfl id) (OV.p rfl)) rfl (WL.val (V.aJ (OV.p rfl) (OV.g rfl id)) rfl (WL.nil ?_))
  refine WC.cond rfl (fun hc0 => ?_) (fun hc0 => ?_)
  ·simp only [Bool.and_eq_true, Bool.and_eq_false_iff, decide_eq_true_eq, decide_eq_false_iff_not] at hc0
   have h0 := hc0
   refine WC.skip (WC.block (WC.region (WL.mv rfl rfl (WL.mv rfl rfl (WL.val (V.len (t := 24) Tryz.runUnderlying24 (OV.p rfl)) rfl (WL.sb rfl rfl rfl ?_))))))
   refine WL.val (V.aC (v' := .slice A (j - 1) cap) (V.slice (l := 0) (h := j - 1) (u := cap) bZ (OV.p rfl) OO.none (OO.some (OV.p rfl) (fun _ => by omega)) OO.none (by simp) (Nat.zero_le _) (by omega) (Nat.le_refl _)) (fun _ => by rw [Jr]; rfl)) rfl ?_
   refine WL.sg rfl rfl (WL.nil ?_)
   refine ⟨rfl, ?_⟩
   refine ⟨j - 1, ⟨by show j - 1 ≤ m; omega, ?_⟩, (by show j - 1 < j; omega), .cons rfl (.nil _), fun w h => h⟩
   obtain ⟨i, rfl⟩ : ∃ i, j = i + 1 := ⟨j - 1, by omega⟩
   rw [← hn, aF, if_pos (by have := h0.2; simp at this ⊢; omega)]; rfl
  ·simp only [Bool.and_eq_true, Bool.and_eq_false_iff, decide_eq_true_eq, decide_eq_false_iff_not] at hc0
   have h0 := hc0
   refine WC.exit (WC.sr (WL.mv rfl rfl (WL.sg rfl rfl (WL.nil (WC.ret ?_)))))
   refine au.ret (H' := F) (aO.tmp rfl rfl) (fun w h => h) ⟨?_, rfl⟩
   have : aF xs m = j := by
     rw [← hn]
     cases j with
     | zero => rfl
     | succ i =>
       rw [aF, if_neg]
       intro hz
       rcases h0 with h1 | h1
       · omega
       · have h2 : ¬ ((xs.getD i 0 : Nat) : Int) = 0 := h1
         exact h2 (by rw [hz]; rfl)
   rw [this]
structure IZ where
  A : Option Addr
  m : Nat
  cap : Nat
  xs : List Nat
abbrev IZ.v (p : IZ) : Value := .slice p.A p.m p.cap
theorem Nq {b : Nat} {ls : List IZ} (hls : ∀ p ∈ ls, Seq K F p.A p.m 1 (aA .i64 p.xs) ∧ Small 8192 p.xs ∧ p.m ≤ 1000000) (hR : Seq K F (some ⟨b, 0, none⟩) ls.length 1 (ls.map IZ.v)) (hll : ls.length ≤ 1000) :
    aL Tryz.prog 178 #[.slice (some ⟨b, 0, none⟩) ls.length ls.length] K F (.bool true) := by
  refine Does.enter Tryz.func178 rfl Tryz.ntmps178 rfl ?_
  simp only [aI, Nat.reduceAdd]
  refine WC.sr (WL.sg rfl rfl (WL.nil (WC.seq (WC.sr (WL.mv rfl rfl (WL.val (V.len (t := 87) Tryz.runUnderlying87 (OV.p rfl)) rfl (WL.mv rfl rfl (WL.nil (WC.block ?_)))))))))
  refine WC.loop (σ := Nat) (fun i => [(9, .slice (some ⟨b, 0, none⟩) ls.length ls.length), (10, .int .i64 (ls.length : Int)), (11, .int .i64 (i : Int))]) (fun _ => F) (fun i => i ≤ ls.length) (fun i => ls.length - i) 0 (Nat.zero_le _) (.cons rfl (.cons rfl (.cons rfl (.nil _)))) (fun w h => h) ?_
  rintro i hi
  refine WC.sr (WL.val (V.lss (OV.p rfl) (OV.p rfl)) rfl (WL.nil (WC.seq ?_)))
  refine WC.cond rfl (fun hc0 => ?_) (fun hc0 => ?_)
  ·simp only [decide_eq_true_eq, decide_eq_false_iff_not] at hc0
   refine WC.skip (WC.seq (WC.block (WC.seq ?_)))
   obtain ⟨p, hp⟩ : ∃ p, ls[i]? = some p := ⟨_, List.getElem?_eq_getElem (by omega)⟩
   obtain ⟨hps, hpb, hpm⟩ := hls p (List.mem_of_getElem? hp)
   have hpl : p.xs.length = p.m := by simpa [aA] using hps.len
   have hrd : Rd K F (some ⟨b, 0 + (i : Int).toNat * 1, none⟩) p.v := by
     have := hR.rd i p.v (by rw [List.getElem?_map, hp]; rfl)
     rw [show 0 + (i : Int).toNat * 1 = 0 + i by omega]
     simpa [gL] using this
   refine WC.region ?_
   refine WL.val (V.bR AU (OV.p rfl) (OV.p rfl) (fun hc => by omega)) rfl ?_
   refine WL.val (V.load Tryz.isAgg24 (OV.p rfl) (fun hc => hrd)) rfl ?_
   refine WL.sg rfl rfl (WL.nil (WC.sr (WL.mv rfl rfl (WL.val (V.len (t := 24) Tryz.runUnderlying24 (OV.p rfl)) rfl (WL.mv rfl rfl (WL.nil (WC.block ?_)))))))
   refine WC.loop (σ := Nat) (fun j => [(9, .slice (some ⟨b, 0, none⟩) ls.length ls.length), (10, .int .i64 (ls.length : Int)), (11, .int .i64 (i : Int)), (15, p.v), (16, .int .i64 (p.m : Int)), (17, .int .i64 (j : Int))]) (fun _ => F) (fun j => j ≤ p.m) (fun j => p.m - j) 0 (Nat.zero_le _) (.cons rfl (.cons rfl (.cons rfl (.cons rfl (.cons rfl (.cons rfl (.nil _))))))) (fun w h => h) ?_
   rintro j hj
   refine WC.sr (WL.val (V.lss (OV.p rfl) (OV.p rfl)) rfl (WL.nil (WC.seq ?_)))
   refine WC.cond rfl (fun hc1 => ?_) (fun hc1 => ?_)
   ·simp only [decide_eq_true_eq, decide_eq_false_iff_not] at hc1
    refine WC.skip (WC.seq (WC.block (WC.seq ?_)))
    have qh : Rd K F (p.A.map (·.add ((j : Int).toNat * 1))) (.int .i64 (p.xs.getD j 0 : Nat)) := by
      rw [show (j : Int).toNat = j by omega]; exact hps.gU (by omega)
    refine WC.region ?_
    refine WL.val (V.dS bZ (OV.p rfl) (OV.p rfl) (fun hc => by omega) (fun hc => qh)) rfl ?_
    refine WL.val (V.load Tryz.isAgg3 (OV.p rfl) (fun hc => qh)) rfl ?_
    refine WL.sg rfl rfl (WL.nil (WC.sr (WL.mv rfl rfl ?_)))
    refine WL.call (vs := [_, _]) Tryz.call170 ⟨OV.p rfl, OV.p rfl, trivial⟩ (Dv (b := 0) (hpb.at_ (by decide) j) (by decide)) rfl ?_
    rintro _ H0 ⟨rfl, h0⟩
    subst H0
    refine WL.mv rfl rfl (WL.xt rfl rfl rfl (WL.xt rfl rfl rfl (WL.sg rfl rfl (WL.sg rfl rfl (WL.nil (WC.sr (WL.mv rfl rfl (WL.val (V.neq (OV.p rfl) (OV.p rfl)) rfl (WL.nil ?_)))))))))
    refine WC.aQ rfl (by first | rfl | (simp; done) | (simp; omega)) ?_
    refine WC.skip (WC.region (WL.ad rfl rfl rfl ?_))
    refine WL.mv rfl rfl (WL.nil ?_)
    refine ⟨rfl, ?_⟩
    exact ⟨j + 1, (by show j + 1 ≤ p.m; omega), (by show p.m - (j + 1) < p.m - j; omega), .cons rfl (.cons rfl (.cons rfl (.cons rfl (.cons rfl (.cons (look_eq rfl (by simp)) (.nil _)))))), fun w h => h⟩
   ·simp only [decide_eq_true_eq, decide_eq_false_iff_not] at hc1
    refine WC.exit (WC.region (WL.ad rfl rfl rfl ?_))
    refine WL.mv rfl rfl (WL.nil ?_)
    refine ⟨rfl, ?_⟩
    exact ⟨i + 1, (by show i + 1 ≤ ls.length; omega), (by show ls.length - (i + 1) < ls.length - i; omega), .cons rfl (.cons rfl (.cons (look_eq rfl (by simp)) (.nil _))), fun w h => h⟩
  ·simp only [decide_eq_true_eq, decide_eq_false_iff_not] at hc0
   refine WC.exit (WC.sr (WL.sg rfl rfl (WL.nil (WC.ret ?_))))
   exact au.ret (H' := F) (aO.tmp rfl rfl) (fun w h => h) ⟨rfl, rfl⟩
theorem Mv {g b5 N cap : Nat} {out : List Nat} {i x : Nat} (hN : out.length = N) (hi : i < N) (ho : Small 8192 out) (hx : x < 8192) (h5 : Rd K F (some ⟨b5, 0, none⟩) (.slice (some ⟨g, 0, none⟩) N cap)) (hcap : N ≤ 1000000) :
    Does Tryz.prog 182 #[.int .i64 (i : Int), .int .i64 (x : Int), ptr b5 0] K (Cells g 3 (aA .i64 out) :: F)
      (fun v H' => H' = Cells g 3 (aA .i64 (out.set i (out.getD i 0 ^^^ x))) :: F) := by
  have hgi : (aA .i64 out)[0 + (i : Int).toNat * 1]? = some (.int .i64 (out.getD i 0 : Nat)) := by rw [show 0 + (i : Int).toNat * 1 = i by omega]; exact nJ _ _ (by omega)
  have hb := ho.at_ (by decide) i
  refine Does.enter Tryz.func182 rfl Tryz.ntmps182 rfl ?_
  simp only [aI, Nat.reduceAdd]
  refine WC.region ?_
  refine WL.val (V.load Tryz.isAgg24 (OV.p rfl) (fun hc => h5.up)) rfl ?_
  refine WL.mv rfl rfl ?_
  refine WL.val (V.bR bZ (OV.p rfl) (OV.p rfl) (fun hc => by omega)) rfl ?_
  refine WL.val (V.load Tryz.isAgg3 (OV.p rfl) (fun hc => Rd.here hgi)) rfl ?_
  refine WL.mv rfl rfl ?_
  refine WL.val (V.aC (v' := .int .i64 ((out.getD i 0 ^^^ x : Nat) : Int)) (V.xor (OV.p rfl) (OV.p rfl)) (fun _ => by rw [jr (by omega) (by omega)])) rfl ?_
  refine WL.val (V.bR bZ (OV.p rfl) (OV.p rfl) (fun hc => by omega)) rfl ?_
  refine WL.store (cs := [_]) Tryz.sizeOf3 (OV.p rfl) (OV.p rfl) rfl rfl rfl (bA.at_ (by rw [aH]; omega)) ?_
  refine WL.nil ?_
  refine au.normal (H' := Cells g _ _ :: F) (aO.none rfl) (fun w h => Sat.aV h ?_) rfl
  rw [show 0 + (i : Int).toNat * 1 = i by omega, jB]
theorem Le {g b5 N cap : Nat} {out : List Nat} {A : Option Addr} {m cap' : Nat} {ps : List Nat} {at_ Br : Nat} (hN : out.length = N) (ho : Small 8192 out) (hs : Seq K F A m 1 (aA .i64 ps)) (hp : Small 8192 ps) (hat : at_ + m ≤ N) (hby : Br < 8192)
    (h5 : Rd K F (some ⟨b5, 0, none⟩) (.slice (some ⟨g, 0, none⟩) N cap)) (hcap : N ≤ 1000000) :
    Does Tryz.prog 181 #[.func (.func 182) #[] #[ptr b5 0], .slice A m cap', .int .i64 (at_ : Int), .int .i64 (Br : Int)] K (Cells g 3 (aA .i64 out) :: F)
      (fun v H' => H' = Cells g 3 (aA .i64 (sF out ps at_ Br m)) :: F) := by
  have hl : ps.length = m := by simpa [aA] using hs.len
  refine Does.enter Tryz.func181 rfl Tryz.ntmps181 rfl ?_
  simp only [aI, Nat.reduceAdd]
  refine WC.sr (WL.mv rfl rfl (WL.val (V.len (t := 24) Tryz.runUnderlying24 (OV.p rfl)) rfl (WL.mv rfl rfl (WL.nil (WC.block ?_)))))
  refine WC.loop (σ := Nat) (fun j => [(0, .func (.func 182) #[] #[ptr b5 0]), (2, .int .i64 (at_ : Int)), (3, .int .i64 (Br : Int)), (10, .slice A m cap'), (11, .int .i64 (m : Int)), (12, .int .i64 (j : Int))]) (fun j => Cells g 3 (aA .i64 (sF out ps at_ Br j)) :: F) (fun j => j ≤ m) (fun j => m - j) 0 (Nat.zero_le _) (.cons rfl (.cons rfl (.cons rfl (.cons rfl (.cons rfl (.cons rfl (.nil _))))))) (fun w h => h) ?_
  rintro j hj
  refine WC.sr (WL.val (V.lss (OV.p rfl) (OV.p rfl)) rfl (WL.nil (WC.seq ?_)))
  refine WC.cond rfl (fun hc0 => ?_) (fun hc0 => ?_)
  ·simp only [decide_eq_true_eq, decide_eq_false_iff_not] at hc0
   refine WC.skip (WC.seq (WC.block (WC.seq ?_)))
   have hjm : j < m := by omega
   have qh : Rd K (Cells g 3 (aA .i64 (sF out ps at_ Br j)) :: F) (A.map (·.add ((j : Int).toNat * 1))) (.int .i64 (ps.getD j 0 : Nat)) := by
     rw [show (j : Int).toNat = j by omega]; exact (hs.gU (by omega)).up
   have hsm := qy (at_ := at_) (Br := Br) ho hp j
   have P5 := hp.at_ (by decide) j
   refine WC.region (WL.mv rfl rfl ?_)
   refine WL.val (V.dS bZ (OV.p rfl) (OV.p rfl) (fun hc => by omega) (fun hc => qh)) rfl ?_
   refine WL.val (V.load Tryz.isAgg3 (OV.p rfl) (fun hc => qh)) rfl ?_
   refine WL.sg rfl rfl (WL.sg rfl rfl (WL.nil (WC.region (WL.mv rfl rfl (WL.mv rfl rfl (WL.mv rfl rfl ?_))))))
   refine WL.val (V.aC (v' := .int .i64 ((at_ + j : Nat) : Int)) (V.lI (OV.p rfl) (OV.p rfl) (fun _ => by omega)) (fun _ => by simp)) rfl ?_
   refine WL.mv rfl rfl (WL.mv rfl rfl (WL.call (vs := [_, _]) Tryz.call184 ⟨OV.p rfl, OV.p rfl, trivial⟩ (Ku P5 hby) rfl ?_))
   rintro _ H0 ⟨rfl, h0⟩
   subst H0
   refine WL.mg (first := []) (vs := [_, _]) (captured := [ptr b5 0]) Tryz.call182 (OV.p rfl) ⟨OV.p rfl, OV.p rfl, trivial⟩ (Mv (N := N) (cap := cap) (by rw [nO]; exact hN) (by omega) hsm (aR P5) h5 hcap) rfl ?_
   rintro v1 _ rfl
   refine WL.nil (WC.region (WL.ad rfl rfl rfl ?_))
   refine WL.mv rfl rfl (WL.nil ?_)
   refine ⟨rfl, ?_⟩
   exact ⟨j + 1, (by show j + 1 ≤ m; omega), (by show m - (j + 1) < m - j; omega), .cons rfl (.cons rfl (.cons rfl (.cons rfl (.cons rfl (.cons (look_eq rfl (by simp)) (.nil _)))))), fun w h => h⟩
  ·simp only [decide_eq_true_eq, decide_eq_false_iff_not] at hc0
   refine WC.exit ?_
   obtain rfl : j = m := by omega
   exact au.normal (H' := Cells g _ _ :: F) (aO.none rfl) (fun w h => h) rfl
end
section
variable {K : World} {F : List ak}
theorem JM {g b2 b3 b5 N cap q cap' m vL : Nat} {A B : Option Addr} {ps qs : List Nat} (hN : ps.length + qs.length = N) (hs : Seq K F A m 1 (aA .i64 ps)) (hq : Seq K F B q 1 (aA .i64 qs)) (Kq : Small 8192 ps) (hq8 : Small 8192 qs) (hcap : N ≤ 1000000)
    (h2 : Rd K F (some ⟨b2, 0, none⟩) (.slice A m vL)) (h3 : Rd K F (some ⟨b3, 0, none⟩) (.slice B q cap')) (h5 : Rd K F (some ⟨b5, 0, none⟩) (.slice (some ⟨g, 0, none⟩) N cap)) :
    Does Tryz.prog 180 #[.func (.func 182) #[] #[ptr b5 0], ptr b2 0, ptr b3 0] K (Cells g 3 (List.replicate N (.int .i64 0)) :: F)
      (fun v H' => H' = Cells g 3 (aA .i64 (fC ps qs)) :: F) := by
  have hl : ps.length = m := by simpa [aA] using hs.len
  have Bq : qs.length = q := by simpa [aA] using hq.len
  refine Does.enter Tryz.func180 rfl Tryz.ntmps180 rfl ?_
  simp only [aI, Nat.reduceAdd]
  refine WC.sr ?_
  refine WL.val (V.load Tryz.isAgg24 (OV.p rfl) (fun hc => h2.up)) rfl ?_
  refine WL.val (V.len (t := 24) Tryz.runUnderlying24 (OV.p rfl)) rfl (WL.mv rfl rfl (WL.nil (WC.block ?_)))
  refine WC.loop (σ := Nat) (fun j => [(0, .func (.func 182) #[] #[ptr b5 0]), (2, ptr b3 0), (6, .slice A m vL), (7, .int .i64 (m : Int)), (8, .int .i64 (j : Int))]) (fun j => Cells g 3 (aA .i64 (uQ ps qs j)) :: F) (fun j => j ≤ m) (fun j => m - j) 0 (Nat.zero_le _) (.cons rfl (.cons rfl (.cons rfl (.cons rfl (.cons rfl (.nil _)))))) (fun w h => Sat.aV h (by rw [uQ, hN, dF]; rfl)) ?_
  rintro j hj
  refine WC.sr (WL.val (V.lss (OV.p rfl) (OV.p rfl)) rfl (WL.nil (WC.seq ?_)))
  refine WC.cond rfl (fun hc0 => ?_) (fun hc0 => ?_)
  ·simp only [decide_eq_true_eq, decide_eq_false_iff_not] at hc0
   refine WC.skip (WC.seq (WC.block (WC.seq ?_)))
   have hjm : j < m := by omega
   have qh : Rd K (Cells g 3 (aA .i64 (uQ ps qs j)) :: F) (A.map (·.add ((j : Int).toNat * 1))) (.int .i64 (ps.getD j 0 : Nat)) := by
     rw [show (j : Int).toNat = j by omega]; exact (hs.gU (by omega)).up
   have hsm := ql (ps := ps) hq8 j
   refine WC.region (WL.mv rfl rfl ?_)
   refine WL.val (V.dS bZ (OV.p rfl) (OV.p rfl) (fun hc => by omega) (fun hc => qh)) rfl ?_
   refine WL.val (V.load Tryz.isAgg3 (OV.p rfl) (fun hc => qh)) rfl ?_
   refine WL.sg rfl rfl (WL.sg rfl rfl (WL.nil (WC.region (WL.mv rfl rfl ?_))))
   refine WL.val (V.load Tryz.isAgg24 (OV.p rfl) (fun hc => h3.up)) rfl ?_
   refine WL.mv rfl rfl (WL.mv rfl rfl ?_)
   refine WL.call (vs := [_, _, _, _]) Tryz.call181 ⟨OV.p rfl, OV.p rfl, OV.p rfl, OV.p rfl, trivial⟩ (Le (N := N) (cap := cap) (by rw [kT]; exact hN) hsm hq hq8 (by omega) (Kq.at_ (by decide) j) h5 hcap) rfl ?_
   rintro v1 _ rfl
   refine WL.nil (WC.region (WL.ad rfl rfl rfl ?_))
   refine WL.mv rfl rfl (WL.nil ?_)
   refine ⟨rfl, ?_⟩
   exact ⟨j + 1, (by show j + 1 ≤ m; omega), (by show m - (j + 1) < m - j; omega), .cons rfl (.cons rfl (.cons rfl (.cons rfl (.cons (look_eq rfl (by simp)) (.nil _))))), fun w h => Sat.aV h (by rw [uQ, Bq])⟩
  ·simp only [decide_eq_true_eq, decide_eq_false_iff_not] at hc0
   refine WC.exit ?_
   obtain rfl : j = m := by omega
   exact au.normal (H' := Cells g _ _ :: F) (aO.none rfl) (fun w h => Sat.aV h (by unfold fC; rw [hl])) rfl
theorem BJ {b2 b3 N q cap' m vL : Nat} {A B : Option Addr} {ps qs : List Nat} (hN : ps.length + qs.length = N) (hs : Seq K F A m 1 (aA .i64 ps)) (hq : Seq K F B q 1 (aA .i64 qs)) (Kq : Small 8192 ps) (hq8 : Small 8192 qs) (hcap : N ≤ 1000000)
    (h2 : Rd K F (some ⟨b2, 0, none⟩) (.slice A m vL)) (h3 : Rd K F (some ⟨b3, 0, none⟩) (.slice B q cap')) :
    Does Tryz.prog 179 #[.int .i64 (N : Int), .func (.func 180) #[] #[ptr b2 0, ptr b3 0]] K F
      (fun v H' => ∃ g, v = .slice (some ⟨g, 0, none⟩) (aF (fC ps qs) N) N ∧ H' = Cells g 3 (aA .i64 (fC ps qs)) :: F) := by
  have hml : (fC ps qs).length = N := by unfold fC; rw [kT, hN]
  refine Does.enter Tryz.func179 rfl Tryz.ntmps179 rfl ?_
  simp only [aI, Nat.reduceAdd]
  refine WC.sr (WL.sg rfl rfl (WL.nil (WC.sr (WL.mv rfl rfl ?_))))
  refine WL.oW (m := N) Tryz.underlying24 el3 (OV.p rfl) (OV.p rfl) rfl rfl (by omega) rfl rfl rfl (fun b7 => ?_)
  refine WL.alloc (cs := [(.slice none 0 0)]) Tryz.zeroValue24 rfl rfl (fun b5 => ?_)
  refine WL.store (cs := [_]) Tryz.sizeOf24 (OV.p rfl) (OV.p rfl) rfl rfl rfl (by repeat (first | exact bA.here (cs' := [_]) rfl rfl | apply bA.up)) ?_
  refine WL.nil (WC.sr (WL.mv rfl rfl (WL.val (V.makeFunc (us := []) (vs := [_]) trivial ⟨OV.p rfl, trivial⟩) rfl ?_)))
  refine WL.sub (Sub.refl _) (fun w h => h.p1) ?_
  refine WL.mg (first := []) (vs := [_]) (captured := [ptr b2 0, ptr b3 0]) Tryz.call180 (OV.p rfl) ⟨OV.p rfl, trivial⟩ (JM hN hs.up hq.up Kq hq8 hcap h2.up h3.up (Rd.here rfl)) rfl ?_
  rintro v1 _ rfl
  refine WL.nil (WC.sr ?_)
  refine WL.val (V.load Tryz.isAgg24 (OV.p rfl) (fun hc => (Rd.here rfl).up)) rfl ?_
  refine WL.call (vs := [_]) Tryz.call183 ⟨OV.p rfl, trivial⟩ (JY (xs := fC ps qs) (Seq.yG hml) (Nat.le_refl _) hcap) rfl ?_
  rintro _ H0 ⟨rfl, h0⟩
  subst H0
  refine WL.sg rfl rfl (WL.nil (WC.ret ?_))
  exact au.ret (H' := Cells b7 _ _ :: F) (aO.tmp rfl rfl) (fun w h => h.drop2) ⟨b7, rfl, rfl⟩
theorem KN {q cap' m vL : Nat} {A B : Option Addr} {ps qs : List Nat} (hs : Seq K F A m 1 (aA .i64 ps)) (hq : Seq K F B q 1 (aA .i64 qs)) (Kq : Small 8192 ps) (hq8 : Small 8192 qs) (hcap : ps.length + qs.length ≤ 1000000) :
    Does Tryz.prog 173 #[.slice A m vL, .slice B q cap'] K F
      (fun v H' => ∃ g, v = .tuple #[.slice (some ⟨g, 0, none⟩) (aF (fC ps qs) (ps.length + qs.length)) (ps.length + qs.length), .int .i64 0] ∧ H' = Cells g 3 (aA .i64 (fC ps qs)) :: F) := by
  have hl : ps.length = m := by simpa [aA] using hs.len
  have Bq : qs.length = q := by simpa [aA] using hq.len
  refine Does.enter Tryz.func173 rfl Tryz.ntmps173 rfl ?_
  simp only [aI, Nat.reduceAdd]
  refine WC.sr ?_
  refine WL.box (cs := [_]) (OV.p rfl) rfl rfl (fun b2 => ?_)
  refine WL.box (cs := [_]) (OV.p rfl) rfl rfl (fun b3 => ?_)
  refine WL.sg rfl rfl (WL.sg rfl rfl (WL.nil (WC.seq (WC.sr (WL.ld Tryz.isAgg24 rfl rfl ?_)))))
  refine WL.ld Tryz.isAgg24 rfl rfl ?_
  refine WL.buildSlice (E := 24) (cs := [_, _]) (vs := [(0, _), (1, _)]) ⟨OV.p rfl, OV.p rfl, trivial⟩ rfl (F7 _ _ _ _ _ _) rfl (fun b8 => ?_)
  refine WL.call (vs := [_]) Tryz.call178 ⟨OV.p rfl, trivial⟩ (Nq (ls := [⟨A, m, vL, ps⟩, ⟨B, q, cap', qs⟩]) (fun p hp => by
    rcases List.mem_cons.1 hp with rfl | hp
    · exact ⟨by repeat (first | exact hs | apply Seq.up), Kq, by show m ≤ 1000000; omega⟩
    · rw [List.mem_singleton] at hp; subst hp
      exact ⟨by repeat (first | exact hq | apply Seq.up), hq8, by show q ≤ 1000000; omega⟩) (Seq.all rfl) (by show 2 ≤ 1000; omega)) rfl ?_
  rintro _ H0 ⟨rfl, h0⟩
  subst H0
  refine WL.val (V.not (OV.p rfl)) rfl (WL.nil ?_)
  refine WC.aQ rfl (by first | rfl | (simp; done) | (simp; omega)) ?_
  refine WC.skip (WC.sr (WL.ld Tryz.isAgg24 rfl rfl ?_))
  refine WL.val (V.len (t := 24) Tryz.runUnderlying24 (OV.p rfl)) rfl (WL.ld Tryz.isAgg24 rfl rfl ?_)
  refine WL.val (V.len (t := 24) Tryz.runUnderlying24 (OV.p rfl)) rfl ?_
  refine WL.val (V.aC (v' := .int .i64 ((ps.length + qs.length : Nat) : Int)) (V.lI (OV.p rfl) (OV.p rfl) (fun _ => by omega)) (fun _ => by rw [hl, Bq]; simp)) rfl ?_
  refine WL.val (V.makeFunc (us := []) (vs := [_, _]) trivial ⟨OV.p rfl, OV.p rfl, trivial⟩) rfl ?_
  refine WL.call (vs := [_, _]) Tryz.call179 ⟨OV.p rfl, OV.p rfl, trivial⟩ (BJ (vL := vL) (cap' := cap') rfl (by repeat (first | exact hs | apply Seq.up)) (by repeat (first | exact hq | apply Seq.up)) Kq hq8 hcap (by repeat (first | exact Rd.here rfl | apply Rd.up)) (by repeat (first | exact Rd.here rfl | apply Rd.up))) rfl ?_
  rintro _ _ ⟨g, rfl, rfl⟩
  refine WL.sg rfl rfl (WL.sg rfl rfl (WL.nil (WC.ret ?_)))
  exact au.ret (H' := Cells g _ _ :: F) (aO.fD rfl rfl rfl) (fun w h => h.sel 4 [0] rfl) ⟨g, rfl, rfl⟩
def conj (x : Nat) : Nat → Nat
  | 0 => x
  | k + 1 => aN (conj x k) (conj x k)
theorem DJ {x : Nat} (h : x < 8192) : ∀ k, conj x k < 8192
  | 0 => h
  | k + 1 => aR (DJ h k)
theorem Jk {r : Option Nat} {σ : Type} {l b1 k : Nat} {i : Int} (hi : -9223372036854775808 ≤ i ∧ i ≤ 9223372036854775807) (hk : 0 < k) (hback : conj (bX i) k = bX i) (hno : ∀ j, 0 < j → j < k → conj (bX i) j ≠ bX i) (I : Nat → σ → Prop) (M : σ → List ak) (h1 : ∀ j s, I j s → Rd K (M s) (some ⟨b1, 0, none⟩) (.int .i64 i))
    (sW : ∀ j s, j < k → I j s → fB Tryz.prog K none l #[.int .i64 (conj (bX i) j : Nat)] (M s) (fun b H' => b = true ∧ ∃ s', I (j + 1) s' ∧ H' = M s')) (s0 : σ) (h0 : I 0 s0) :
    Does Tryz.prog 177 #[.func (.yield l) #[] #[], ptr b1 0] K (M s0) (fun v H' => ∃ s, I k s ∧ H' = M s) := by
  have hlt := fun j => DJ (x := bX i) (jJ i) j
  refine Does.MC Tryz.func177 rfl Tryz.ntmps177 rfl ?_
  simp only [aI, Nat.reduceAdd]
  refine WC.sr ?_
  refine WL.val (V.load Tryz.isAgg3 (OV.p rfl) (fun hc => h1 0 s0 h0)) rfl ?_
  refine WL.call (vs := [_]) Tryz.call155 ⟨OV.p rfl, trivial⟩ (GR i hi) rfl ?_
  rintro _ H0 ⟨rfl, h0⟩
  subst H0
  refine WL.sg rfl rfl (WL.nil (WC.sr (WL.mv rfl rfl (WL.sg rfl rfl (WL.nil (WC.block ?_))))))
  refine WC.loop (σ := Nat × σ) (fun x => [(0, .func (.yield l) #[] #[]), (3, .int .i64 (bX i : Nat)), (4, .int .i64 (conj (bX i) x.1 : Nat))]) (fun x => M x.2) (fun x => x.1 < k ∧ I x.1 x.2) (fun x => k - x.1) (0, s0) ⟨hk, h0⟩ (.cons rfl (.cons rfl (.cons rfl (.nil _)))) (fun w h => h) ?_
  rintro ⟨j, s⟩ ⟨hj, hI⟩
  dsimp only at hj hI ⊢
  refine WC.seq (WC.sr (WL.mv rfl rfl (WL.mv rfl rfl (WL.Oq (r := none) (l := l) (vs := [_]) (OV.p rfl) ⟨OV.p rfl, trivial⟩ (sW j s hj hI) rfl ?_))))
  rintro _ _ ⟨rfl, s', hI', rfl⟩
  refine WL.nil ?_
  refine WC.dV rfl (by first | rfl | (simp; done) | (simp; omega)) ?_
  refine WC.skip (WC.block (WC.sr (WL.mv rfl rfl (WL.mv rfl rfl (WL.call (vs := [_, _]) Tryz.call170 ⟨OV.p rfl, OV.p rfl, trivial⟩ (Dv (hlt j) (hlt j)) rfl ?_)))))
  rintro _ H0 ⟨rfl, h0⟩
  subst H0
  refine WL.mv rfl rfl (WL.xt rfl rfl rfl (WL.xt rfl rfl rfl (WL.sg rfl rfl (WL.nil (WC.sr (WL.mv rfl rfl (WL.mv rfl rfl (WL.val (V.eql (OV.p rfl) (OV.p rfl)) rfl (WL.nil ?_)))))))))
  refine WC.cond rfl (fun hc1 => ?_) (fun hc1 => ?_)
  ·simp only [decide_eq_true_eq, decide_eq_false_iff_not] at hc1
   have h2 : (conj (bX i) (j + 1) = bX i) ∨ ¬ (conj (bX i) (j + 1) = bX i) := Decidable.em _
   have h3 : conj (bX i) (j + 1) = bX i := by have := hc1; exact Int.ofNat.inj this
   have h4 : j + 1 = k := by
     rcases Nat.lt_or_ge (j + 1) k with h | h
     · exact absurd h3 (hno (j + 1) (by omega) h)
     · omega
   refine WC.ret ?_
   exact au.ret (H' := M s') (aO.none rfl) (fun w h => h) ⟨s', by rw [← h4]; exact hI', rfl⟩
  ·simp only [decide_eq_true_eq, decide_eq_false_iff_not] at hc1
   have h2 : (conj (bX i) (j + 1) = bX i) ∨ ¬ (conj (bX i) (j + 1) = bX i) := Decidable.em _
   have h3 : ¬ conj (bX i) (j + 1) = bX i := fun h => hc1 (congrArg Int.ofNat h)
   have h4 : j + 1 < k := by
     rcases Nat.lt_or_ge (j + 1) k with h | h
     · exact h
     · have : j + 1 = k := by omega
       rw [this] at h3; exact absurd hback h3
   refine WC.skip ?_
   refine ⟨rfl, ?_⟩
   exact ⟨(j + 1, s'), ⟨h4, hI'⟩, (by show k - (j + 1) < k - j; omega), .cons rfl (.cons rfl (.cons rfl (.nil _))), fun w h => h⟩
end
section
variable {K : World} {F : List ak}
theorem lC {A : Option Addr} {m cap : Nat} {xs : List Nat} (hs : Seq K F A m 1 (aA .u8 xs)) (hcap : m ≤ cap) (hm : m ≤ 1000000) : aL Tryz.prog 162 #[.slice A m cap] K F (.slice A (aF xs m) cap) := by
  refine Does.enter Tryz.func162 rfl Tryz.ntmps162 rfl ?_
  simp only [aI, Nat.reduceAdd]
  refine WC.sr (WL.sg rfl rfl (WL.nil (WC.seq (WC.block ?_))))
  refine WC.loop (σ := Nat) (fun j => [(0, .slice A j cap)]) (fun _ => F) (fun j => j ≤ m ∧ aF xs j = aF xs m) (fun j => j) m ⟨Nat.le_refl _, rfl⟩ (.cons rfl (.nil _)) (fun w h => h) ?_
  rintro j ⟨hj, hn⟩
  have hrd : 0 < j → Rd K F (A.map (·.add (((j : Int) - 1).toNat * 1))) (.int .u8 (xs.getD (j - 1) 0 : Nat)) := fun h => by
    rw [show ((j : Int) - 1).toNat = j - 1 by omega]; exact hs.gU (by omega)
  refine WC.seq (WC.sr (WL.mv rfl rfl (WL.val (V.len (t := 43) Tryz.runUnderlying43 (OV.p rfl)) rfl (WL.val (V.gtr (OV.p rfl) (OV.p rfl)) rfl (WL.mv rfl rfl (WL.av (oj := _) rfl rfl rfl GC.t (V.move (OV.p rfl)) rfl (WL.av (oj := _) rfl rfl rfl GC.t (V.move (OV.p rfl)) rfl (WL.av (oj := _) rfl rfl rfl GC.t (V.len (t := 43) Tryz.runUnderlying43 (OV.g rfl id)) rfl ?_))))))))
  refine WL.av (oj := _) rfl rfl rfl GC.t (V.tu (OV.g rfl id) (OV.p rfl) (fun hc => by first | omega | (simp at hc; omega))) rfl ?_
  refine WL.av (oj := _) rfl rfl rfl GC.t (V.dS fE (OV.g rfl id) (OV.g rfl id) (fun hc => by simp at hc; omega) (fun hc => hrd (by simp at hc; omega))) rfl ?_
  refine WL.av (oj := _) rfl rfl rfl GC.t (V.load Tryz.isAgg5 (OV.g rfl id) (fun hc => hrd (by simp at hc; omega))) rfl ?_
  refine WL.av (oj := _) rfl rfl rfl GC.t (V.eql (OV.g rfl id) (OV.p rfl)) rfl (WL.val (V.aJ (OV.p rfl) (OV.g rfl id)) rfl (WL.nil ?_))
  refine WC.cond rfl (fun hc0 => ?_) (fun hc0 => ?_)
  ·simp only [Bool.and_eq_true, Bool.and_eq_false_iff, decide_eq_true_eq, decide_eq_false_iff_not] at hc0
   have h0 := hc0
   refine WC.skip (WC.block (WC.region (WL.mv rfl rfl (WL.mv rfl rfl (WL.val (V.len (t := 43) Tryz.runUnderlying43 (OV.p rfl)) rfl (WL.sb rfl rfl rfl ?_))))))
   refine WL.val (V.aC (v' := .slice A (j - 1) cap) (V.slice (l := 0) (h := j - 1) (u := cap) fE (OV.p rfl) OO.none (OO.some (OV.p rfl) (fun _ => by omega)) OO.none (by simp) (Nat.zero_le _) (by omega) (Nat.le_refl _)) (fun _ => by rw [Jr]; rfl)) rfl ?_
   refine WL.sg rfl rfl (WL.nil ?_)
   refine ⟨rfl, ?_⟩
   refine ⟨j - 1, ⟨by show j - 1 ≤ m; omega, ?_⟩, (by show j - 1 < j; omega), .cons rfl (.nil _), fun w h => h⟩
   obtain ⟨i, rfl⟩ : ∃ i, j = i + 1 := ⟨j - 1, by omega⟩
   rw [← hn, aF, if_pos (by have := h0.2; simp at this ⊢; omega)]; rfl
  ·simp only [Bool.and_eq_true, Bool.and_eq_false_iff, decide_eq_true_eq, decide_eq_false_iff_not] at hc0
   have h0 := hc0
   refine WC.exit (WC.sr (WL.mv rfl rfl (WL.sg rfl rfl (WL.nil (WC.ret ?_)))))
   refine au.ret (H' := F) (aO.tmp rfl rfl) (fun w h => h) ⟨?_, rfl⟩
   have : aF xs m = j := by
     rw [← hn]
     cases j with
     | zero => rfl
     | succ i =>
       rw [aF, if_neg]
       intro hz
       rcases h0 with h1 | h1
       · omega
       · have h2 : ¬ ((xs.getD i 0 : Nat) : Int) = 0 := h1
         exact h2 (by rw [hz]; rfl)
   rw [this]
end
theorem vJ (v : Nat) : IntKind.u8.wrap (v : Int) = ((v % 256 : Nat) : Int) := by
  simp only [IntKind.wrap, IntKind.bits, IntKind.signed]
  simp
theorem OM {a j : Nat} (ha : a < 8192) : IntKind.u8.wrap (IntKind.i64.wrap ((a : Int) * 2 ^ (min ((j : Int) % 8).toNat IntKind.i64.bits))) = ((a * 2 ^ (j % 8) % 256 : Nat) : Int) := by
  have e1 : min ((j : Int) % 8).toNat IntKind.i64.bits = j % 8 := by show min _ 64 = _; omega
  have e2 : (a : Int) * 2 ^ (j % 8) = ((a * 2 ^ (j % 8) : Nat) : Int) := by simp
  have h1 : 2 ^ (j % 8) ≤ 2 ^ 7 := Nat.pow_le_pow_right (by decide) (by omega)
  have h2 : a * 2 ^ (j % 8) ≤ 8192 * 128 := Nat.mul_le_mul (by omega) h1
  rw [e1, e2, wrap_i64 (by omega), vJ]
def pk (i : Int) : Nat → List Nat
  | 0 => [1]
  | k + 1 => (fC (pk i k) [conj (bX i) k, 1]).take (aF (fC (pk i k) [conj (bX i) k, 1]) ((pk i k).length + 2))
def jy (p : List Nat) : Nat → List Nat
  | 0 => List.replicate (p.length / 8 + 1) 0
  | j + 1 => (jy p j).set (j / 8) ((jy p j).getD (j / 8) 0 ||| (p.getD j 0 * 2 ^ (j % 8)) % 256)
theorem mW (p : List Nat) : ∀ j, (jy p j).length = p.length / 8 + 1
  | 0 => List.length_replicate
  | j + 1 => by rw [jy, List.length_set, mW]
theorem vk (p : List Nat) : ∀ j, Small 256 (jy p j)
  | 0 => Small.vZ (by decide)
  | j + 1 => by
    have ih := vk p j
    rw [jy]
    exact ih.set (Nat.or_lt_two_pow (n := 8) (ih.at_ (by decide) _) (Nat.mod_lt _ (by decide)))
def oZ (p : List Nat) : List Nat := jy p p.length
def nG (i : Int) : List Nat := (oZ (pk i 13)).take (aF (oZ (pk i 13)) ((pk i 13).length / 8 + 1))
def y5 (i : Int) : Bool := decide (conj (bX i) 13 = bX i) && (List.range 13).all (fun j => j = 0 || decide (conj (bX i) j ≠ bX i)) && decide ((pk i 13).length ≤ 1000) && (List.range 14).all (fun j => decide ((pk i j).length ≤ 1000))
theorem Lc : [1, 3, 5, 7, 9, 11, 13, 15].all y5 = true := by kernel_rfl
theorem P7 {a b : Nat} (ha : a < 256) (hb : b < 256) : bitsOf .or .u8 (a : Int) (b : Int) = ((a ||| b : Nat) : Int) := by
  have h : a ||| b < 2 ^ 8 := Nat.or_lt_two_pow ha hb
  unfold bitsOf
  dsimp only
  rw [fq, fq, BitVec.toNat_or, BitVec.toNat_ofNat, BitVec.toNat_ofNat]
  have e1 : a % 2 ^ IntKind.u8.bits = a := Nat.mod_eq_of_lt (by show a < 2 ^ 8; omega)
  have e2 : b % 2 ^ IntKind.u8.bits = b := Nat.mod_eq_of_lt (by show b < 2 ^ 8; omega)
  rw [e1, e2]
  show IntKind.u8.wrap _ = _
  simp only [IntKind.wrap, IntKind.bits, IntKind.signed]
  simp
  omega
section
variable {K : World} {F : List ak}
theorem J9 (i : Int) : Does Tryz.prog 172 #[.int .i64 i] K F (fun v H' => ∃ b1, v = .func (.func 177) #[] #[ptr b1 0] ∧ H' = Cells b1 3 [.int .i64 i] :: F) := by
  refine Does.enter Tryz.func172 rfl Tryz.ntmps172 rfl ?_
  simp only [aI, Nat.reduceAdd]
  refine WC.sr ?_
  refine WL.box (cs := [_]) (OV.p rfl) rfl rfl (fun b1 => ?_)
  refine WL.sg rfl rfl (WL.nil (WC.sr (WL.val (V.makeFunc (us := []) (vs := [_]) trivial ⟨OV.p rfl, trivial⟩) rfl (WL.sg rfl rfl (WL.nil (WC.ret ?_))))))
  exact au.ret (H' := Cells b1 _ _ :: F) (aO.tmp rfl rfl) (fun w h => h) ⟨b1, rfl, rfl⟩
theorem BG {i : Int} (hi : -9223372036854775808 ≤ i ∧ i ≤ 9223372036854775807) (hc : y5 i = true) :
    Does Tryz.prog 161 #[.int .i64 i] K F (fun v H' => ∃ g cap, (nG i).length ≤ cap ∧ cap = (pk i 13).length / 8 + 1 ∧ v = .slice (some ⟨g, 0, none⟩) (nG i).length cap ∧ H' = Cells g 5 (aA .u8 (oZ (pk i 13))) :: F) := by
  simp only [y5, Bool.and_eq_true, decide_eq_true_eq, List.all_eq_true, List.mem_range, Bool.or_eq_true] at hc
  obtain ⟨⟨⟨hc1, hc2⟩, hc3⟩, hc4⟩ := hc
  have hlt := fun j => DJ (x := bX i) (jJ i) j
  have hps : ∀ j, Small 8192 (pk i j) := fun j => by
    cases j with
    | zero => intro x hx; simp [pk] at hx; omega
    | succ j => exact Small.take (ql (fun x hx => by simp at hx; rcases hx with rfl | rfl; exact hlt j; decide) _)
  refine Does.LU Tryz.func161 rfl Tryz.ntmps161 rfl ?_
  simp only [aI, Nat.reduceAdd]
  refine WC.sr (WL.sg rfl rfl (WL.nil (WC.sr ?_)))
  refine WL.buildSlice (E := 3) (cs := [_]) (vs := [(0, _)]) ⟨OV.p rfl, trivial⟩ rfl (bT _) rfl (fun b8 => ?_)
  refine WL.alloc (cs := [(.slice none 0 0)]) Tryz.zeroValue24 rfl rfl (fun b3 => ?_)
  refine WL.store (cs := [_]) Tryz.sizeOf24 (OV.p rfl) (OV.p rfl) rfl rfl rfl (by repeat (first | exact bA.here (cs' := [_]) rfl rfl | apply bA.up)) ?_
  refine WL.nil (WC.seq (WC.sr (WL.mv rfl rfl (WL.call (vs := [_]) Tryz.call172 ⟨OV.p rfl, trivial⟩ (J9 i) rfl ?_))))
  rintro _ _ ⟨b1, rfl, rfl⟩
  refine WL.nil (WC.block ?_)
  obtain ⟨M0, hM0⟩ : ∃ M0 : Nat × List Nat × Nat × Nat → List ak, M0 = fun s => Cells b3 24 [.slice (some ⟨s.1, 0, none⟩) s.2.2.1 s.2.2.2] :: Cells s.1 3 (aA .i64 s.2.1) :: Cells b1 3 [.int .i64 i] :: F := ⟨_, rfl⟩
  obtain ⟨I0, hI0⟩ : ∃ I0 : Nat → Nat × List Nat × Nat × Nat → Prop, I0 = fun j s => s.2.1.take s.2.2.1 = pk i j ∧ s.2.2.1 ≤ s.2.1.length ∧ s.2.2.1 ≤ s.2.2.2 := ⟨_, rfl⟩
  refine WC.range (gf := 177) (lb := [ptr b1 0]) (Done := fun H1 => ∃ s, I0 13 s ∧ H1 = M0 s) (X := fun _ _ => False) rfl Tryz.call177 (fun r l e1 e2 e3 hA => ?_) (fun D H1 hd => ?_) (fun D c H1 h => h.elim)
  suffices sW : ∀ j s, j < 13 → I0 j s → fB Tryz.prog K none l #[.int .i64 (conj (bX i) j : Nat)] (r.A l .ready none :: eO r.D :: M0 s) (fun b H' => b = true ∧ ∃ s', I0 (j + 1) s' ∧ H' = r.A l .ready none :: eO r.D :: M0 s') from by
    have Qw : Does Tryz.prog 177 #[.func (.yield l) #[] #[], ptr b1 0] K (r.A l .ready none :: eO r.D :: M0 (b8, [1], 1, 1)) (fun v H' => ∃ s, I0 13 s ∧ H' = r.A l .ready none :: eO r.D :: M0 s) :=
      Jk (r := none) hi (by decide) hc1 (fun j h1 h2 => by rcases hc2 j h2 with h | h; omega; exact h) I0 (fun s => r.A l .ready none :: eO r.D :: M0 s) (fun j s h => by rw [hM0]; exact (Rd.here rfl).up.up.up.up) sW (b8, [1], 1, 1) (by rw [hI0]; exact ⟨rfl, Nat.le_refl _, Nat.le_refl _⟩)
    exact (Qw.sat fun w h => by rw [hM0]; exact h.sel 5 [0, 1, 3, 4, 2] rfl).mono fun v H' ⟨s, hs, e⟩ => ⟨none, _, e, s, hs, rfl⟩
  rintro j ⟨g, full, m1, cp⟩ hj hI
  refine fB.mono (uX (n := 46) (args := [.int .i64 (conj (bX i) j : Nat)]) (post := fun jj H1 => jj = none ∧ ∃ s, I0 (j + 1) s ∧ H1 = eO r.D :: M0 s) (by rw [e1]; rfl) (by rw [e1]; simp) hA ?_) (fun b H' ⟨jj, H1, hb, ⟨hj, s, hs, e⟩, eH⟩ => by
    subst hj hb e eH
    exact ⟨rfl, s, hs, rfl⟩)
  rw [e1, e2]
  rw [hI0] at hI
  obtain ⟨hI1, hI2, R7⟩ := hI
  dsimp only at hI1 hI2 R7
  rw [hM0, hI0]
  dsimp only
  refine WC.sub (E := (11, _) :: _) (Sub.refl _) (fun w h => h) ?_
  have hpl : (pk i j).length = m1 := by rw [← hI1, List.length_take]; omega
  have RO := hc4 j (by omega)
  have hml : (fC (pk i j) [conj (bX i) j, 1]).length = m1 + 2 := by unfold fC; rw [kT, hpl]; rfl
  have hnl := eX (fC (pk i j) [conj (bX i) j, 1]) (m1 + 2)
  have Ja : ∀ {H : List ak}, Seq K (Cells g 3 (aA .i64 full) :: H) (some ⟨g, 0, none⟩) m1 1 (aA .i64 (pk i j)) := fun {H} => Seq.here (by rw [aH, hpl]; omega) (by rw [← hI1, ← gG, List.drop_zero]; exact List.take_prefix _ _)
  ·skip
   refine WC.region (WL.sg rfl rfl (WL.nil ?_))
   refine ⟨_, fun w h => h, ?_⟩
   rw [e3]
   refine WC.block (WC.region (WL.ld Tryz.isAgg24 rfl rfl ?_))
   refine WL.mv rfl rfl ?_
   refine WL.buildSlice (E := 3) (cs := [_, _]) (vs := [(0, _), (1, _)]) ⟨OV.p rfl, OV.p rfl, trivial⟩ rfl (qL _ _) rfl (fun b15 => ?_)
   refine WL.call (vs := [_, _]) Tryz.call173 ⟨OV.p rfl, OV.p rfl, trivial⟩ (KN (ps := pk i j) (qs := [conj (bX i) j, 1]) (by repeat (first | exact Ja | apply Seq.up)) (Seq.yG (k := .i64) (xs := [conj (bX i) j, 1]) rfl) (hps j) (fun x hx => by simp at hx; rcases hx with rfl | rfl; exact hlt j; decide) (by show (pk i j).length + 2 ≤ 1000000; omega)) rfl ?_
   rintro _ _ ⟨g2, rfl, rfl⟩
   refine WL.mv rfl rfl (WL.xt rfl rfl rfl (WL.xt rfl rfl rfl ?_))
   refine WL.store (cs := [_]) Tryz.sizeOf24 (OV.p rfl) (OV.p rfl) rfl rfl rfl (by repeat (first | exact bA.here rfl rfl | apply bA.up)) ?_
   refine WL.nil ?_
   refine ⟨_, fun w h => h.sel 7 [2, 3, 4, 0, 6] rfl, rfl, (g2, fC (pk i j) [conj (bX i) j, 1], aF (fC (pk i j) [conj (bX i) j, 1]) ((pk i j).length + 2), (pk i j).length + 2), ⟨rfl, ?_, ?_⟩, rfl⟩
   · show aF _ _ ≤ (fC _ _).length; rw [hml, hpl]; exact hnl
   · show aF _ _ ≤ (pk i j).length + 2; rw [hpl]; exact hnl
  ·skip
   obtain ⟨⟨g, full, m1, cp⟩, hI, rfl⟩ := hd
   rw [hI0] at hI
   obtain ⟨hI1, hI2, R7⟩ := hI
   dsimp only at hI1 hI2 R7
   rw [hM0]
   have hpl : (pk i 13).length = m1 := by rw [← hI1, List.length_take]; omega
   have Ja : ∀ {H : List ak}, Seq K (Cells g 3 (aA .i64 full) :: H) (some ⟨g, 0, none⟩) m1 1 (aA .i64 (pk i 13)) := fun {H} => Seq.here (by rw [aH, hpl]; omega) (by rw [← hI1, ← gG, List.drop_zero]; exact List.take_prefix _ _)
   refine WC.sub (E := _) (H' := eO D :: Cells b3 24 [.slice (some ⟨g, 0, none⟩) m1 cp] :: Cells g 3 (aA .i64 full) :: F) (Sub.refl _) (fun w h => h.sel 4 [0, 1, 2] rfl) ?_
   refine WC.sr (WL.ld Tryz.isAgg24 rfl rfl ?_)
   refine WL.val (V.len (t := 24) Tryz.runUnderlying24 (OV.p rfl)) rfl ?_
   refine WL.val (V.sV (OV.p rfl) (OV.p rfl) (fun hc => by first | omega | (simp at hc; omega))) rfl ?_
   refine WL.ad rfl rfl rfl ?_
   refine WL.oW (m := m1 / 8 + 1) Tryz.underlying43 yD (OV.p rfl) (OV.p rfl) (by omega) (by omega) (by omega) rfl rfl rfl (fun Q9 => ?_)
   refine WL.sg rfl rfl (WL.nil (WC.seq (WC.sr (WL.ld Tryz.isAgg24 rfl rfl ?_))))
   refine WL.val (V.len (t := 24) Tryz.runUnderlying24 (OV.p rfl)) rfl (WL.mv rfl rfl (WL.nil (WC.block ?_)))
   refine WC.loop (σ := Nat) (fun j => [(5, .slice (some ⟨Q9, 0, none⟩) (m1 / 8 + 1) (m1 / 8 + 1)), (24, .slice (some ⟨g, 0, none⟩) m1 cp), (25, .int .i64 (m1 : Int)), (26, .int .i64 (j : Int))]) (fun j => Cells Q9 5 (aA .u8 (jy (pk i 13) j)) :: eO D :: Cells g 3 (aA .i64 full) :: F) (fun j => j ≤ m1) (fun j => m1 - j) 0 (Nat.zero_le _) (.cons rfl (.cons rfl (.cons rfl (.cons rfl (.nil _))))) (fun w h => (h.sel 4 [0, 1, 3] rfl).aV (by rw [jy, hpl, dF]; rfl)) ?_
   rintro j hj
   refine WC.sr (WL.val (V.lss (OV.p rfl) (OV.p rfl)) rfl (WL.nil (WC.seq ?_)))
   refine WC.cond rfl (fun hc0 => ?_) (fun hc0 => ?_)
   ·simp only [decide_eq_true_eq, decide_eq_false_iff_not] at hc0
    refine WC.skip (WC.seq (WC.block (WC.seq ?_)))
    have hjm : j < m1 := by omega
    have qh : ∀ {X Y : ak}, Rd K (X :: Y :: Cells g 3 (aA .i64 full) :: F) ((some ⟨g, 0, none⟩ : Option Addr).map (·.add ((j : Int).toNat * 1))) (.int .i64 ((pk i 13).getD j 0 : Nat)) := fun {X Y} => by
      rw [show (j : Int).toNat = j by omega]; exact (Ja.gU (by omega)).up.up
    have P5 := (hps 13).at_ (by decide) j
    have hto := mW (pk i 13) j
    have hgo : (aA .u8 (jy (pk i 13) j))[0 + ((j : Int) / 8).toNat * 1]? = some (.int .u8 ((jy (pk i 13) j).getD (j / 8) 0 : Nat)) := by rw [show 0 + ((j : Int) / 8).toNat * 1 = j / 8 by omega]; exact nJ _ _ (by omega)
    refine WC.region (WL.mv rfl rfl ?_)
    refine WL.val (V.dS bZ (OV.p rfl) (OV.p rfl) (fun hc => by omega) (fun hc => qh)) rfl ?_
    refine WL.val (V.load Tryz.isAgg3 (OV.p rfl) (fun hc => qh)) rfl ?_
    refine WL.sg rfl rfl (WL.sg rfl rfl (WL.nil ?_))
    refine WC.dR (eO D :: Cells g 3 (aA .i64 full) :: F) (by kernel_rfl) ?_
    refine WA.t 0 rfl (V.move (OV.p rfl)) (WA.t 1 rfl (V.move (OV.p rfl)) ?_)
    refine WA.t 2 rfl (V.sV (OV.p rfl) (OV.p rfl) (fun hc => by first | omega | (simp at hc; omega))) ?_
    refine WA.t 3 rfl (V.bR fE (OV.p rfl) (OV.p rfl) (fun hc => by omega)) ?_
    refine WA.t 5 rfl (V.move (OV.p rfl)) (WA.t 6 rfl (V.move (OV.p rfl)) ?_)
    refine WA.t 7 rfl (V.o8 (OV.p rfl) (OV.p rfl) (fun hc => by first | omega | (simp at hc; omega))) ?_
    refine WA.t 8 rfl (V.shl (OV.p rfl) (OV.p rfl) (by omega)) ?_
    refine WA.t 9 rfl (V.aC (v' := .int .u8 (((pk i 13).getD j 0 * 2 ^ (j % 8) % 256 : Nat) : Int)) (V.kF Tryz.runUnderlying3 Tryz.runUnderlying5 (OV.p rfl)) (fun _ => by rw [OM P5])) ?_
    refine WA.o 4 rfl ?_
    refine WL.val (V.load Tryz.isAgg5 (OV.p rfl) (fun hc => Rd.here hgo)) rfl ?_
    refine WL.nil ?_
    refine WA.t 10 rfl (V.aC (v' := .int .u8 (((jy (pk i 13) j).getD (j / 8) 0 ||| ((pk i 13).getD j 0 * 2 ^ (j % 8)) % 256 : Nat) : Int)) (V.or (OV.p rfl) (OV.p rfl)) (fun _ => by rw [P7 ((vk _ j).at_ (by decide) _) (Nat.mod_lt _ (by decide))])) ?_
    refine WA.t 11 rfl (V.bR fE (OV.p rfl) (OV.p rfl) (fun hc => by omega)) ?_
    refine WA.o 12 rfl ?_
    refine WL.store (cs := [_]) Tryz.sizeOf5 (OV.p rfl) (OV.p rfl) rfl rfl rfl (bA.at_ (by rw [aH]; omega)) ?_
    refine WL.nil (WA.fin (WC.region (WL.ad rfl rfl rfl ?_)))
    refine WL.mv rfl rfl (WL.nil ?_)
    refine ⟨rfl, ?_⟩
    refine ⟨j + 1, (by show j + 1 ≤ m1; omega), (by show m1 - (j + 1) < m1 - j; omega), .cons rfl (.cons rfl (.cons rfl (.cons (look_eq rfl (by simp)) (.nil _)))), fun w h => Sat.aV h ?_⟩
    rw [show 0 + ((j : Int) / 8).toNat * 1 = j / 8 by omega, jB, jy]
   ·simp only [decide_eq_true_eq, decide_eq_false_iff_not] at hc0
    refine WC.exit (WC.seq ?_)
    obtain rfl : j = m1 := by omega
    have hpp : jy (pk i 13) j = oZ (pk i 13) := by unfold oZ; rw [hpl]
    rw [hpp]
    have QT : (oZ (pk i 13)).length = j / 8 + 1 := by unfold oZ; rw [mW, hpl]
    refine WC.region (WL.mv rfl rfl ?_)
    refine WL.call (vs := [_]) Tryz.call162 ⟨OV.p rfl, trivial⟩ (lC (xs := oZ (pk i 13)) (Seq.yG QT) (Nat.le_refl _) (by omega)) rfl ?_
    rintro _ H0 ⟨rfl, h0⟩
    subst H0
    refine WL.sg rfl rfl (WL.nil (WC.ret ?_))
    have hmb : (nG i).length = aF (oZ (pk i 13)) (j / 8 + 1) := by
      unfold nG
      have := eX (oZ (pk i 13)) (j / 8 + 1)
      rw [List.length_take, hpl, QT]; omega
    exact jo.Ph (Cells Q9 5 (aA .u8 (oZ (pk i 13))) :: F) (fun w h => h.sel 3 [1, 0] rfl) (aO.tmp rfl rfl) (fun w h => h) ⟨Q9, j / 8 + 1, by rw [hmb]; exact eX _ _, by rw [hpl], by rw [hmb], rfl⟩
end
end Go.Proofs.YtcmojpiokjhmhaaGreat
