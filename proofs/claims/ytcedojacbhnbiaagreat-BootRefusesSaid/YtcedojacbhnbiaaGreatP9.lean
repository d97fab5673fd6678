import Derived.Test.YtcedojacbhnbiaaGreatP8
namespace Go.Proofs.YtcedojacbhnbiaaGreat
open Go.Sl Go.RowKit
set_option linter.unusedVariables false
set_option linter.unusedSimpArgs false
set_option maxRecDepth 20000
def aB (k : IntKind) (xs : List Nat) : List Value := xs.map fun x : Nat => Value.int k (x : Int)
theorem aH (k : IntKind) (xs : List Nat) : (aB k xs).length = xs.length := by simp [aB]
theorem l8 (k : IntKind) (xs : List Nat) {i : Nat} (h : i < xs.length) : (aB k xs)[i]? = some (.int k (xs.getD i 0 : Nat)) := by simp [aB, List.getD, h]
theorem iZ (k : IntKind) (xs : List Nat) (i x : Nat) : (aB k xs).set i (.int k (x : Int)) = aB k (xs.set i x) := by simp [aB, List.map_set]
theorem o9 (k : IntKind) (xs : List Nat) : ∀ u ∈ aB k xs, u.oneCell' = true := by simp [aB, Value.oneCell']
theorem dh (k : IntKind) (m x : Nat) : aB k (List.replicate m x) = List.replicate m (.int k (x : Int)) := by simp [aB]
theorem dx (k : IntKind) (xs ys : List Nat) : aB k (xs ++ ys) = aB k xs ++ aB k ys := by simp [aB]
theorem fZ (k : IntKind) (xs : List Nat) (n : Nat) : (aB k xs).take n = aB k (xs.take n) := by simp [aB]
theorem mg (k : IntKind) (xs : List Nat) (n : Nat) : (aB k xs).drop n = aB k (xs.drop n) := by simp [aB]
def Small (b : Nat) (xs : List Nat) : Prop := ∀ x ∈ xs, x < b
theorem Small.at_ {b : Nat} {xs : List Nat} (h : Small b xs) (hb : 0 < b) (i : Nat) : xs.getD i 0 < b := by
  by_cases hi : i < xs.length
  · have := h xs[i] (List.getElem_mem hi)
    simpa [List.getD, hi] using this
  · simp [List.getD, List.getElem?_eq_none (Nat.le_of_not_lt hi), hb]
theorem Small.set {b : Nat} {xs : List Nat} (h : Small b xs) {i x : Nat} (hx : x < b) : Small b (xs.set i x) := fun y hy => by
  rcases List.mem_or_eq_of_mem_set hy with h1 | rfl
  · exact h y h1
  · exact hx
theorem Small.uQ {b n x : Nat} (hx : x < b) : Small b (List.replicate n x) := fun y hy => by rw [List.eq_of_mem_replicate hy]; exact hx
theorem Small.take {b n : Nat} {xs : List Nat} (h : Small b xs) : Small b (xs.take n) := fun y hy => h y (List.mem_of_mem_take hy)
theorem Small.append {b : Nat} {xs ys : List Nat} (h : Small b xs) (h' : Small b ys) : Small b (xs ++ ys) := fun y hy => (List.mem_append.1 hy).elim (h y) (h' y)
theorem _root_.Go.Sl.Seq.gK {K : World} {H : List au} {A : Option Addr} {m : Nat} {k : IntKind} {xs : List Nat} (h : Seq K H A m 1 (aB k xs)) {j : Nat} (hj : j < m) : Rd K H (A.map (·.add (j * 1))) (.int k (xs.getD j 0 : Nat)) := by
  have hl : xs.length = m := by simpa [aB] using h.len
  have := h.rd j _ (l8 k xs (by omega))
  simpa using this
theorem _root_.Go.Sl.Seq.wL {K : World} {H : List au} {b T m : Nat} {k : IntKind} {xs : List Nat} (hl : xs.length = m) : Seq K (Cells b T (aB k xs) :: H) (some ⟨b, 0, none⟩) m 1 (aB k xs) := Seq.all (by simp [aB, hl])
def aC (xs : List Nat) : Nat → Nat
  | 0 => 0
  | k + 1 => if xs.getD k 0 = 0 then aC xs k else k + 1
theorem dV (xs : List Nat) : ∀ k, aC xs k ≤ k
  | 0 => Nat.le_refl _
  | k + 1 => by
    have := dV xs k
    rw [aC]
    split <;> omega
def qO (out p : List Nat) (at_ zP : Nat) : Nat → List Nat
  | 0 => out
  | j + 1 => (qO out p at_ zP j).set (at_ + j) ((qO out p at_ zP j).getD (at_ + j) 0 ^^^ aK (p.getD j 0) zP)
theorem nQ (out p : List Nat) (at_ zP : Nat) : ∀ j, (qO out p at_ zP j).length = out.length
  | 0 => rfl
  | j + 1 => by rw [qO, List.length_set, nQ]
theorem oF {out p : List Nat} {at_ zP : Nat} (h : Small 8192 out) (hp : Small 8192 p) : ∀ j, Small 8192 (qO out p at_ zP j)
  | 0 => h
  | j + 1 => by
    have ih := oF (at_ := at_) (zP := zP) h hp j
    rw [qO]
    exact ih.set (cB (k := 13) (ih.at_ (by decide) _) (aP (hp.at_ (by decide) _)))
def uf (ps qs : List Nat) : Nat → List Nat
  | 0 => List.replicate (ps.length + qs.length) 0
  | i + 1 => qO (uf ps qs i) qs i (ps.getD i 0) qs.length
def eG (ps qs : List Nat) : List Nat := uf ps qs ps.length
theorem ko (ps qs : List Nat) : ∀ i, (uf ps qs i).length = ps.length + qs.length
  | 0 => List.length_replicate
  | i + 1 => by rw [uf, nQ, ko]
theorem oC {ps qs : List Nat} (hq : Small 8192 qs) : ∀ i, Small 8192 (uf ps qs i)
  | 0 => Small.uQ (by decide)
  | i + 1 => oF (oC hq i) hq _
section
variable {K : World} {F : List au}
theorem II {A : Option Addr} {m cap : Nat} {xs : List Nat} (hs : Seq K F A m 1 (aB .i64 xs)) (hcap : m ≤ cap) (hm : m ≤ 1000000) : aG Tryz.prog 354 #[.slice A m cap] K F (.slice A (aC xs m) cap) := by
  refine Does.enter Tryz.func354 rfl Tryz.ntmps354 rfl ?_
  simp only [aJ, Nat.reduceAdd]
  refine WC.sr (WL.sg rfl rfl (WL.nil (WC.seq (WC.block ?_))))
  refine WC.loop (σ := Nat) (fun j => [(0, .slice A j cap)]) (fun _ => F) (fun j => j ≤ m ∧ aC xs j = aC xs m) (fun j => j) m ⟨Nat.le_refl _, rfl⟩ (.cons rfl (.nil _)) (fun w h => h) ?_
  rintro j ⟨hj, hn⟩
  have hrd : 0 < j → Rd K F (A.map (·.add (((j : Int) - 1).toNat * 1))) (.int .i64 (xs.getD (j - 1) 0 : Nat)) := fun h => by
    rw [show ((j : Int) - 1).toNat = j - 1 by omega]; exact hs.gK (by omega)
  refine WC.seq (WC.sr (WL.mv rfl rfl (WL.val (V.len (t := 124) Tryz.runUnderlying124 (OV.p rfl)) rfl (WL.val (V.gtr (OV.p rfl) (OV.p rfl)) rfl (WL.mv rfl rfl (WL.ah (oj := _) rfl rfl rfl GC.t (V.move (OV.p rfl)) rfl (WL.ah (oj := _) rfl rfl rfl GC.t (V.move (OV.p rfl)) rfl (WL.ah (oj := _) rfl rfl rfl GC.t (V.len (t := 124) Tryz.runUnderlying124 (OV.g rfl id)) rfl ?_))))))))
  refine WL.ah (oj := _) rfl rfl rfl GC.t (V.wM (OV.g rfl id) (OV.p rfl) (fun hc => by first | omega | (simp at hc; omega))) rfl ?_
  refine WL.ah (oj := _) rfl rfl rfl GC.t (V.fu (m := j) (cap := cap) bO (OV.g rfl id) (OV.g rfl id) (fun hc => by simp at hc; omega) (fun hc => hrd (by simp at hc; omega))) rfl ?_
  refine WL.ah (oj := _) rfl rfl rfl GC.t (V.load Tryz.isAgg3 (OV.g rfl id) (fun hc => hrd (by simp at hc; omega))) rfl ?_
  refine WL.ah (oj := _) rfl rfl rfl GC.t (V.eql (OV.g rfl id) (OV.p rfl)) rfl (WL.val (V.aD (OV.p rfl) (OV.g rfl id)) rfl (WL.nil ?_))
  refine WC.cond rfl (fun hc0 => ?_) (fun hc0 => ?_)
  ·simp only [Bool.and_eq_true, Bool.and_eq_false_iff, decide_eq_true_eq, decide_eq_false_iff_not] at hc0
   have h0 := hc0
   refine WC.skip (WC.block (WC.region (WL.mv rfl rfl (WL.mv rfl rfl (WL.val (V.len (t := 124) Tryz.runUnderlying124 (OV.p rfl)) rfl (WL.sb rfl rfl rfl ?_))))))
   refine WL.val (V.aA (v' := .slice A (j - 1) cap) (V.slice (l := 0) (h := j - 1) (u := cap) bO (OV.p rfl) OO.none (OO.some (OV.p rfl) (fun _ => by omega)) OO.none (by simp) (Nat.zero_le _) (by omega) (Nat.le_refl _)) (fun _ => by rw [Ic]; rfl)) rfl ?_
   refine WL.sg rfl rfl (WL.nil ?_)
   refine ⟨rfl, ?_⟩
   refine ⟨j - 1, ⟨by show j - 1 ≤ m; omega, ?_⟩, (by show j - 1 < j; omega), .cons rfl (.nil _), fun w h => h⟩
   obtain ⟨i, rfl⟩ : ∃ i, j = i + 1 := ⟨j - 1, by omega⟩
   rw [← hn, aC, if_pos (by have := h0.2; simp at this ⊢; omega)]; rfl
  ·simp only [Bool.and_eq_true, Bool.and_eq_false_iff, decide_eq_true_eq, decide_eq_false_iff_not] at hc0
   have h0 := hc0
   refine WC.exit (WC.sr (WL.mv rfl rfl (WL.sg rfl rfl (WL.nil (WC.ret ?_)))))
   refine aj.ret (H' := F) (aL.tmp rfl rfl) (fun w h => h) ⟨?_, rfl⟩
   have : aC xs m = j := by
     rw [← hn]
     cases j with
     | zero => rfl
     | succ i =>
       rw [aC, if_neg]
       intro hz
       rcases h0 with h1 | h1
       · omega
       · have h2 : ¬ ((xs.getD i 0 : Nat) : Int) = 0 := h1
         exact h2 (by rw [hz]; rfl)
   rw [this]
structure G9 where
  A : Option Addr
  m : Nat
  cap : Nat
  xs : List Nat
abbrev G9.v (p : G9) : Value := .slice p.A p.m p.cap
theorem Mv {b : Nat} {ls : List G9} (hls : ∀ p ∈ ls, Seq K F p.A p.m 1 (aB .i64 p.xs) ∧ Small 8192 p.xs ∧ p.m ≤ 1000000) (hR : Seq K F (some ⟨b, 0, none⟩) ls.length 1 (ls.map G9.v)) (hll : ls.length ≤ 1000) :
    aG Tryz.prog 345 #[.slice (some ⟨b, 0, none⟩) ls.length ls.length] K F (.bool true) := by
  refine Does.enter Tryz.func345 rfl Tryz.ntmps345 rfl ?_
  simp only [aJ, Nat.reduceAdd]
  refine WC.sr (WL.sg rfl rfl (WL.nil (WC.seq (WC.sr (WL.mv rfl rfl (WL.val (V.len (t := 125) Tryz.runUnderlying125 (OV.p rfl)) rfl (WL.mv rfl rfl (WL.nil (WC.block ?_)))))))))
  refine WC.loop (σ := Nat) (fun i => [(9, .slice (some ⟨b, 0, none⟩) ls.length ls.length), (10, .int .i64 (ls.length : Int)), (11, .int .i64 (i : Int))]) (fun _ => F) (fun i => i ≤ ls.length) (fun i => ls.length - i) 0 (Nat.zero_le _) (.cons rfl (.cons rfl (.cons rfl (.nil _)))) (fun w h => h) ?_
  rintro i hi
  refine WC.sr (WL.val (V.lss (OV.p rfl) (OV.p rfl)) rfl (WL.nil (WC.seq ?_)))
  refine WC.cond rfl (fun hc0 => ?_) (fun hc0 => ?_)
  ·simp only [decide_eq_true_eq, decide_eq_false_iff_not] at hc0
   refine WC.skip (WC.seq (WC.block (WC.seq ?_)))
   obtain ⟨p, hp⟩ : ∃ p, ls[i]? = some p := ⟨_, List.getElem?_eq_getElem (by omega)⟩
   obtain ⟨hps, hpb, hpm⟩ := hls p (List.mem_of_getElem? hp)
   have hpl : p.xs.length = p.m := by simpa [aB] using hps.len
   have hrd : Rd K F (some ⟨b, 0 + (i : Int).toNat * 1, none⟩) p.v := by
     have := hR.rd i p.v (by rw [List.getElem?_map, hp]; rfl)
     rw [show 0 + (i : Int).toNat * 1 = 0 + i by omega]
     simpa [gZ] using this
   refine WC.region ?_
   refine WL.val (V.bP sQ (OV.p rfl) (OV.p rfl) (fun hc => by omega)) rfl ?_
   refine WL.val (V.load Tryz.isAgg124 (OV.p rfl) (fun hc => hrd)) rfl ?_
   refine WL.sg rfl rfl (WL.nil (WC.sr (WL.mv rfl rfl (WL.val (V.len (t := 124) Tryz.runUnderlying124 (OV.p rfl)) rfl (WL.mv rfl rfl (WL.nil (WC.block ?_)))))))
   refine WC.loop (σ := Nat) (fun j => [(9, .slice (some ⟨b, 0, none⟩) ls.length ls.length), (10, .int .i64 (ls.length : Int)), (11, .int .i64 (i : Int)), (15, p.v), (16, .int .i64 (p.m : Int)), (17, .int .i64 (j : Int))]) (fun _ => F) (fun j => j ≤ p.m) (fun j => p.m - j) 0 (Nat.zero_le _) (.cons rfl (.cons rfl (.cons rfl (.cons rfl (.cons rfl (.cons rfl (.nil _))))))) (fun w h => h) ?_
   rintro j hj
   refine WC.sr (WL.val (V.lss (OV.p rfl) (OV.p rfl)) rfl (WL.nil (WC.seq ?_)))
   refine WC.cond rfl (fun hc1 => ?_) (fun hc1 => ?_)
   ·simp only [decide_eq_true_eq, decide_eq_false_iff_not] at hc1
    refine WC.skip (WC.seq (WC.block (WC.seq ?_)))
    have nZ : Rd K F (p.A.map (·.add ((j : Int).toNat * 1))) (.int .i64 (p.xs.getD j 0 : Nat)) := by
      rw [show (j : Int).toNat = j by omega]; exact hps.gK (by omega)
    refine WC.region ?_
    refine WL.val (V.fu bO (OV.p rfl) (OV.p rfl) (fun hc => by omega) (fun hc => nZ)) rfl ?_
    refine WL.val (V.load Tryz.isAgg3 (OV.p rfl) (fun hc => nZ)) rfl ?_
    refine WL.sg rfl rfl (WL.nil (WC.sr (WL.mv rfl rfl ?_)))
    refine WL.call (vs := [_, _]) Tryz.call328 ⟨OV.p rfl, OV.p rfl, trivial⟩ (BS (b := 0) (hpb.at_ (by decide) j) (by decide)) rfl ?_
    rintro _ H0 ⟨rfl, h0⟩
    subst H0
    refine WL.mv rfl rfl (WL.xt rfl rfl rfl (WL.xt rfl rfl rfl (WL.sg rfl rfl (WL.sg rfl rfl (WL.nil (WC.sr (WL.mv rfl rfl (WL.val (V.neq (OV.p rfl) (OV.p rfl)) rfl (WL.nil ?_)))))))))
    refine WC.aM rfl (by first | rfl | (simp; done) | (simp; omega)) ?_
    refine WC.skip (WC.region (WL.ad rfl rfl rfl ?_))
    refine WL.mv rfl rfl (WL.nil ?_)
    refine ⟨rfl, ?_⟩
    exact ⟨j + 1, (by show j + 1 ≤ p.m; omega), (by show p.m - (j + 1) < p.m - j; omega), .cons rfl (.cons rfl (.cons rfl (.cons rfl (.cons rfl (.cons (look_eq rfl (by simp)) (.nil _)))))), fun w h => h⟩
   ·simp only [decide_eq_true_eq, decide_eq_false_iff_not] at hc1
    refine WC.exit (WC.region (WL.ad rfl rfl rfl ?_))
    refine WL.mv rfl rfl (WL.nil ?_)
    refine ⟨rfl, ?_⟩
    exact ⟨i + 1, (by show i + 1 ≤ ls.length; omega), (by show ls.length - (i + 1) < ls.length - i; omega), .cons rfl (.cons rfl (.cons (look_eq rfl (by simp)) (.nil _))), fun w h => h⟩
  ·simp only [decide_eq_true_eq, decide_eq_false_iff_not] at hc0
   refine WC.exit (WC.sr (WL.sg rfl rfl (WL.nil (WC.ret ?_))))
   exact aj.ret (H' := F) (aL.tmp rfl rfl) (fun w h => h) ⟨rfl, rfl⟩
theorem KT {g b5 N cap : Nat} {out : List Nat} {i x : Nat} (hN : out.length = N) (hi : i < N) (ho : Small 8192 out) (hx : x < 8192) (h5 : Rd K F (some ⟨b5, 0, none⟩) (.slice (some ⟨g, 0, none⟩) N cap)) (hcap : N ≤ 1000000) :
    Does Tryz.prog 353 #[.int .i64 (i : Int), .int .i64 (x : Int), ptr b5 0] K (Cells g 3 (aB .i64 out) :: F)
      (fun v H' => H' = Cells g 3 (aB .i64 (out.set i (out.getD i 0 ^^^ x))) :: F) := by
  have hgi : (aB .i64 out)[0 + (i : Int).toNat * 1]? = some (.int .i64 (out.getD i 0 : Nat)) := by rw [show 0 + (i : Int).toNat * 1 = i by omega]; exact l8 _ _ (by omega)
  have hb := ho.at_ (by decide) i
  refine Does.enter Tryz.func353 rfl Tryz.ntmps353 rfl ?_
  simp only [aJ, Nat.reduceAdd]
  refine WC.region ?_
  refine WL.val (V.load Tryz.isAgg124 (OV.p rfl) (fun hc => h5.up)) rfl ?_
  refine WL.mv rfl rfl ?_
  refine WL.val (V.bP bO (OV.p rfl) (OV.p rfl) (fun hc => by omega)) rfl ?_
  refine WL.val (V.load Tryz.isAgg3 (OV.p rfl) (fun hc => Rd.here hgi)) rfl ?_
  refine WL.mv rfl rfl ?_
  refine WL.val (V.aA (v' := .int .i64 ((out.getD i 0 ^^^ x : Nat) : Int)) (V.xor (OV.p rfl) (OV.p rfl)) (fun _ => by rw [iY (by omega) (by omega)])) rfl ?_
  refine WL.val (V.bP bO (OV.p rfl) (OV.p rfl) (fun hc => by omega)) rfl ?_
  refine WL.store (cs := [_]) Tryz.sizeOf3 (OV.p rfl) (OV.p rfl) rfl rfl rfl (aQ.at_ (by rw [aH]; omega)) ?_
  refine WL.nil ?_
  refine aj.normal (H' := Cells g _ _ :: F) (aL.none rfl) (fun w h => Sat.aV h ?_) rfl
  rw [show 0 + (i : Int).toNat * 1 = i by omega, iZ]
theorem JU {g b5 N cap : Nat} {out : List Nat} {A : Option Addr} {m cap' : Nat} {ps : List Nat} {at_ zP : Nat} (hN : out.length = N) (ho : Small 8192 out) (hs : Seq K F A m 1 (aB .i64 ps)) (hp : Small 8192 ps) (hat : at_ + m ≤ N) (hby : zP < 8192)
    (h5 : Rd K F (some ⟨b5, 0, none⟩) (.slice (some ⟨g, 0, none⟩) N cap)) (hcap : N ≤ 1000000) :
    Does Tryz.prog 348 #[.func (.func 353) #[] #[ptr b5 0], .slice A m cap', .int .i64 (at_ : Int), .int .i64 (zP : Int)] K (Cells g 3 (aB .i64 out) :: F)
      (fun v H' => H' = Cells g 3 (aB .i64 (qO out ps at_ zP m)) :: F) := by
  have hl : ps.length = m := by simpa [aB] using hs.len
  refine Does.enter Tryz.func348 rfl Tryz.ntmps348 rfl ?_
  simp only [aJ, Nat.reduceAdd]
  refine WC.sr (WL.mv rfl rfl (WL.val (V.len (t := 124) Tryz.runUnderlying124 (OV.p rfl)) rfl (WL.mv rfl rfl (WL.nil (WC.block ?_)))))
  refine WC.loop (σ := Nat) (fun j => [(0, .func (.func 353) #[] #[ptr b5 0]), (2, .int .i64 (at_ : Int)), (3, .int .i64 (zP : Int)), (10, .slice A m cap'), (11, .int .i64 (m : Int)), (12, .int .i64 (j : Int))]) (fun j => Cells g 3 (aB .i64 (qO out ps at_ zP j)) :: F) (fun j => j ≤ m) (fun j => m - j) 0 (Nat.zero_le _) (.cons rfl (.cons rfl (.cons rfl (.cons rfl (.cons rfl (.cons rfl (.nil _))))))) (fun w h => h) ?_
  rintro j hj
  refine WC.sr (WL.val (V.lss (OV.p rfl) (OV.p rfl)) rfl (WL.nil (WC.seq ?_)))
  refine WC.cond rfl (fun hc0 => ?_) (fun hc0 => ?_)
  ·simp only [decide_eq_true_eq, decide_eq_false_iff_not] at hc0
   refine WC.skip (WC.seq (WC.block (WC.seq ?_)))
   have hjm : j < m := by omega
   have nZ : Rd K (Cells g 3 (aB .i64 (qO out ps at_ zP j)) :: F) (A.map (·.add ((j : Int).toNat * 1))) (.int .i64 (ps.getD j 0 : Nat)) := by
     rw [show (j : Int).toNat = j by omega]; exact (hs.gK (by omega)).up
   have hsm := oF (at_ := at_) (zP := zP) ho hp j
   have Ob := hp.at_ (by decide) j
   refine WC.region (WL.mv rfl rfl ?_)
   refine WL.val (V.fu bO (OV.p rfl) (OV.p rfl) (fun hc => by omega) (fun hc => nZ)) rfl ?_
   refine WL.val (V.load Tryz.isAgg3 (OV.p rfl) (fun hc => nZ)) rfl ?_
   refine WL.sg rfl rfl (WL.sg rfl rfl (WL.nil (WC.region (WL.mv rfl rfl (WL.mv rfl rfl (WL.mv rfl rfl ?_))))))
   refine WL.val (V.aA (v' := .int .i64 ((at_ + j : Nat) : Int)) (V.jO (OV.p rfl) (OV.p rfl) (fun _ => by omega)) (fun _ => by simp)) rfl ?_
   refine WL.mv rfl rfl (WL.mv rfl rfl (WL.call (vs := [_, _]) Tryz.call355 ⟨OV.p rfl, OV.p rfl, trivial⟩ (JB Ob hby) rfl ?_))
   rintro _ H0 ⟨rfl, h0⟩
   subst H0
   refine WL.kV (first := []) (vs := [_, _]) (captured := [ptr b5 0]) Tryz.call353 (OV.p rfl) ⟨OV.p rfl, OV.p rfl, trivial⟩ (KT (N := N) (cap := cap) (by rw [nQ]; exact hN) (by omega) hsm (aP Ob) h5 hcap) rfl ?_
   rintro v1 _ rfl
   refine WL.nil (WC.region (WL.ad rfl rfl rfl ?_))
   refine WL.mv rfl rfl (WL.nil ?_)
   refine ⟨rfl, ?_⟩
   exact ⟨j + 1, (by show j + 1 ≤ m; omega), (by show m - (j + 1) < m - j; omega), .cons rfl (.cons rfl (.cons rfl (.cons rfl (.cons rfl (.cons (look_eq rfl (by simp)) (.nil _)))))), fun w h => h⟩
  ·simp only [decide_eq_true_eq, decide_eq_false_iff_not] at hc0
   refine WC.exit ?_
   obtain rfl : j = m := by omega
   exact aj.normal (H' := Cells g _ _ :: F) (aL.none rfl) (fun w h => h) rfl
end
section
variable {K : World} {F : List au}
theorem Hz {g b2 b3 b5 N cap q cap' m tH : Nat} {A B : Option Addr} {ps qs : List Nat} (hN : ps.length + qs.length = N) (hs : Seq K F A m 1 (aB .i64 ps)) (hq : Seq K F B q 1 (aB .i64 qs)) (Jq : Small 8192 ps) (hq8 : Small 8192 qs) (hcap : N ≤ 1000000)
    (h2 : Rd K F (some ⟨b2, 0, none⟩) (.slice A m tH)) (h3 : Rd K F (some ⟨b3, 0, none⟩) (.slice B q cap')) (h5 : Rd K F (some ⟨b5, 0, none⟩) (.slice (some ⟨g, 0, none⟩) N cap)) :
    Does Tryz.prog 347 #[.func (.func 353) #[] #[ptr b5 0], ptr b2 0, ptr b3 0] K (Cells g 3 (List.replicate N (.int .i64 0)) :: F)
      (fun v H' => H' = Cells g 3 (aB .i64 (eG ps qs)) :: F) := by
  have hl : ps.length = m := by simpa [aB] using hs.len
  have zN : qs.length = q := by simpa [aB] using hq.len
  refine Does.enter Tryz.func347 rfl Tryz.ntmps347 rfl ?_
  simp only [aJ, Nat.reduceAdd]
  refine WC.sr ?_
  refine WL.val (V.load Tryz.isAgg124 (OV.p rfl) (fun hc => h2.up)) rfl ?_
  refine WL.val (V.len (t := 124) Tryz.runUnderlying124 (OV.p rfl)) rfl (WL.mv rfl rfl (WL.nil (WC.block ?_)))
  refine WC.loop (σ := Nat) (fun j => [(0, .func (.func 353) #[] #[ptr b5 0]), (2, ptr b3 0), (6, .slice A m tH), (7, .int .i64 (m : Int)), (8, .int .i64 (j : Int))]) (fun j => Cells g 3 (aB .i64 (uf ps qs j)) :: F) (fun j => j ≤ m) (fun j => m - j) 0 (Nat.zero_le _) (.cons rfl (.cons rfl (.cons rfl (.cons rfl (.cons rfl (.nil _)))))) (fun w h => Sat.aV h (by rw [uf, hN, dh]; rfl)) ?_
  rintro j hj
  refine WC.sr (WL.val (V.lss (OV.p rfl) (OV.p rfl)) rfl (WL.nil (WC.seq ?_)))
  refine WC.cond rfl (fun hc0 => ?_) (fun hc0 => ?_)
  ·simp only [decide_eq_true_eq, decide_eq_false_iff_not] at hc0
   refine WC.skip (WC.seq (WC.block (WC.seq ?_)))
   have hjm : j < m := by omega
   have nZ : Rd K (Cells g 3 (aB .i64 (uf ps qs j)) :: F) (A.map (·.add ((j : Int).toNat * 1))) (.int .i64 (ps.getD j 0 : Nat)) := by
     rw [show (j : Int).toNat = j by omega]; exact (hs.gK (by omega)).up
   have hsm := oC (ps := ps) hq8 j
   refine WC.region (WL.mv rfl rfl ?_)
   refine WL.val (V.fu bO (OV.p rfl) (OV.p rfl) (fun hc => by omega) (fun hc => nZ)) rfl ?_
   refine WL.val (V.load Tryz.isAgg3 (OV.p rfl) (fun hc => nZ)) rfl ?_
   refine WL.sg rfl rfl (WL.sg rfl rfl (WL.nil (WC.region (WL.mv rfl rfl ?_))))
   refine WL.val (V.load Tryz.isAgg124 (OV.p rfl) (fun hc => h3.up)) rfl ?_
   refine WL.mv rfl rfl (WL.mv rfl rfl ?_)
   refine WL.call (vs := [_, _, _, _]) Tryz.call348 ⟨OV.p rfl, OV.p rfl, OV.p rfl, OV.p rfl, trivial⟩ (JU (N := N) (cap := cap) (by rw [ko]; exact hN) hsm hq hq8 (by omega) (Jq.at_ (by decide) j) h5 hcap) rfl ?_
   rintro v1 _ rfl
   refine WL.nil (WC.region (WL.ad rfl rfl rfl ?_))
   refine WL.mv rfl rfl (WL.nil ?_)
   refine ⟨rfl, ?_⟩
   exact ⟨j + 1, (by show j + 1 ≤ m; omega), (by show m - (j + 1) < m - j; omega), .cons rfl (.cons rfl (.cons rfl (.cons rfl (.cons (look_eq rfl (by simp)) (.nil _))))), fun w h => Sat.aV h (by rw [uf, zN])⟩
  ·simp only [decide_eq_true_eq, decide_eq_false_iff_not] at hc0
   refine WC.exit ?_
   obtain rfl : j = m := by omega
   exact aj.normal (H' := Cells g _ _ :: F) (aL.none rfl) (fun w h => Sat.aV h (by unfold eG; rw [hl])) rfl
theorem zS {b2 b3 N q cap' m tH : Nat} {A B : Option Addr} {ps qs : List Nat} (hN : ps.length + qs.length = N) (hs : Seq K F A m 1 (aB .i64 ps)) (hq : Seq K F B q 1 (aB .i64 qs)) (Jq : Small 8192 ps) (hq8 : Small 8192 qs) (hcap : N ≤ 1000000)
    (h2 : Rd K F (some ⟨b2, 0, none⟩) (.slice A m tH)) (h3 : Rd K F (some ⟨b3, 0, none⟩) (.slice B q cap')) :
    Does Tryz.prog 346 #[.int .i64 (N : Int), .func (.func 347) #[] #[ptr b2 0, ptr b3 0]] K F
      (fun v H' => ∃ g, v = .slice (some ⟨g, 0, none⟩) (aC (eG ps qs) N) N ∧ H' = Cells g 3 (aB .i64 (eG ps qs)) :: F) := by
  have hml : (eG ps qs).length = N := by unfold eG; rw [ko, hN]
  refine Does.enter Tryz.func346 rfl Tryz.ntmps346 rfl ?_
  simp only [aJ, Nat.reduceAdd]
  refine WC.sr (WL.sg rfl rfl (WL.nil (WC.sr (WL.mv rfl rfl ?_))))
  refine WL.l7 (m := N) Tryz.underlying124 el3 (OV.p rfl) (OV.p rfl) rfl rfl (by omega) rfl rfl rfl (fun b7 => ?_)
  refine WL.alloc (cs := [(.slice none 0 0)]) Tryz.zeroValue124 rfl rfl (fun b5 => ?_)
  refine WL.store (cs := [_]) Tryz.sizeOf124 (OV.p rfl) (OV.p rfl) rfl rfl rfl (by repeat (first | exact aQ.here (cs' := [_]) rfl rfl | apply aQ.up)) ?_
  refine WL.nil (WC.sr (WL.mv rfl rfl (WL.val (V.makeFunc (us := []) (vs := [_]) trivial ⟨OV.p rfl, trivial⟩) rfl ?_)))
  refine WL.sub (Sub.refl _) (fun w h => h.p1) ?_
  refine WL.kV (first := []) (vs := [_]) (captured := [ptr b2 0, ptr b3 0]) Tryz.call347 (OV.p rfl) ⟨OV.p rfl, trivial⟩ (Hz hN hs.up hq.up Jq hq8 hcap h2.up h3.up (Rd.here rfl)) rfl ?_
  rintro v1 _ rfl
  refine WL.nil (WC.sr ?_)
  refine WL.val (V.load Tryz.isAgg124 (OV.p rfl) (fun hc => (Rd.here rfl).up)) rfl ?_
  refine WL.call (vs := [_]) Tryz.call354 ⟨OV.p rfl, trivial⟩ (II (xs := eG ps qs) (Seq.wL hml) (Nat.le_refl _) hcap) rfl ?_
  rintro _ H0 ⟨rfl, h0⟩
  subst H0
  refine WL.sg rfl rfl (WL.nil (WC.ret ?_))
  exact aj.ret (H' := Cells b7 _ _ :: F) (aL.tmp rfl rfl) (fun w h => h.drop2) ⟨b7, rfl, rfl⟩
theorem JJ {q cap' m tH : Nat} {A B : Option Addr} {ps qs : List Nat} (hs : Seq K F A m 1 (aB .i64 ps)) (hq : Seq K F B q 1 (aB .i64 qs)) (Jq : Small 8192 ps) (hq8 : Small 8192 qs) (hcap : ps.length + qs.length ≤ 1000000) :
    Does Tryz.prog 336 #[.slice A m tH, .slice B q cap'] K F
      (fun v H' => ∃ g, v = .tuple #[.slice (some ⟨g, 0, none⟩) (aC (eG ps qs) (ps.length + qs.length)) (ps.length + qs.length), .int .i64 0] ∧ H' = Cells g 3 (aB .i64 (eG ps qs)) :: F) := by
  have hl : ps.length = m := by simpa [aB] using hs.len
  have zN : qs.length = q := by simpa [aB] using hq.len
  refine Does.enter Tryz.func336 rfl Tryz.ntmps336 rfl ?_
  simp only [aJ, Nat.reduceAdd]
  refine WC.sr ?_
  refine WL.box (cs := [_]) (OV.p rfl) rfl rfl (fun b2 => ?_)
  refine WL.box (cs := [_]) (OV.p rfl) rfl rfl (fun b3 => ?_)
  refine WL.sg rfl rfl (WL.sg rfl rfl (WL.nil (WC.seq (WC.sr (WL.ld Tryz.isAgg124 rfl rfl ?_)))))
  refine WL.ld Tryz.isAgg124 rfl rfl ?_
  refine WL.buildSlice (E := 124) (cs := [_, _]) (vs := [(0, _), (1, _)]) ⟨OV.p rfl, OV.p rfl, trivial⟩ rfl (Cu _ _ _ _ _ _) rfl (fun b8 => ?_)
  refine WL.call (vs := [_]) Tryz.call345 ⟨OV.p rfl, trivial⟩ (Mv (ls := [⟨A, m, tH, ps⟩, ⟨B, q, cap', qs⟩]) (fun p hp => by
    rcases List.mem_cons.1 hp with rfl | hp
    · exact ⟨by repeat (first | exact hs | apply Seq.up), Jq, by show m ≤ 1000000; omega⟩
    · rw [List.mem_singleton] at hp; subst hp
      exact ⟨by repeat (first | exact hq | apply Seq.up), hq8, by show q ≤ 1000000; omega⟩) (Seq.all rfl) (by show 2 ≤ 1000; omega)) rfl ?_
  rintro _ H0 ⟨rfl, h0⟩
  subst H0
  refine WL.val (V.not (OV.p rfl)) rfl (WL.nil ?_)
  refine WC.aM rfl (by first | rfl | (simp; done) | (simp; omega)) ?_
  refine WC.skip (WC.sr (WL.ld Tryz.isAgg124 rfl rfl ?_))
  refine WL.val (V.len (t := 124) Tryz.runUnderlying124 (OV.p rfl)) rfl (WL.ld Tryz.isAgg124 rfl rfl ?_)
  refine WL.val (V.len (t := 124) Tryz.runUnderlying124 (OV.p rfl)) rfl ?_
  refine WL.val (V.aA (v' := .int .i64 ((ps.length + qs.length : Nat) : Int)) (V.jO (OV.p rfl) (OV.p rfl) (fun _ => by omega)) (fun _ => by rw [hl, zN]; simp)) rfl ?_
  refine WL.val (V.makeFunc (us := []) (vs := [_, _]) trivial ⟨OV.p rfl, OV.p rfl, trivial⟩) rfl ?_
  refine WL.call (vs := [_, _]) Tryz.call346 ⟨OV.p rfl, OV.p rfl, trivial⟩ (zS (tH := tH) (cap' := cap') rfl (by repeat (first | exact hs | apply Seq.up)) (by repeat (first | exact hq | apply Seq.up)) Jq hq8 hcap (by repeat (first | exact Rd.here rfl | apply Rd.up)) (by repeat (first | exact Rd.here rfl | apply Rd.up))) rfl ?_
  rintro _ _ ⟨g, rfl, rfl⟩
  refine WL.sg rfl rfl (WL.sg rfl rfl (WL.nil (WC.ret ?_)))
  exact aj.ret (H' := Cells g _ _ :: F) (aL.dJ rfl rfl rfl) (fun w h => h.sel 4 [0] rfl) ⟨g, rfl, rfl⟩
def conj (x : Nat) : Nat → Nat
  | 0 => x
  | k + 1 => aK (conj x k) (conj x k)
theorem Cg {x : Nat} (h : x < 8192) : ∀ k, conj x k < 8192
  | 0 => h
  | k + 1 => aP (Cg h k)
theorem Ie {r : Option Nat} {σ : Type} {l b1 k : Nat} {i : Int} (hi : -9223372036854775808 ≤ i ∧ i ≤ 9223372036854775807) (hk : 0 < k) (hback : conj (bT i) k = bT i) (hno : ∀ j, 0 < j → j < k → conj (bT i) j ≠ bT i) (I : Nat → σ → Prop) (M : σ → List au) (h1 : ∀ j s, I j s → Rd K (M s) (some ⟨b1, 0, none⟩) (.int .i64 i))
    (rO : ∀ j s, j < k → I j s → eF Tryz.prog K none l #[.int .i64 (conj (bT i) j : Nat)] (M s) (fun b H' => b = true ∧ ∃ s', I (j + 1) s' ∧ H' = M s')) (s0 : σ) (h0 : I 0 s0) :
    Does Tryz.prog 344 #[.func (.yield l) #[] #[], ptr b1 0] K (M s0) (fun v H' => ∃ s, I k s ∧ H' = M s) := by
  have hlt := fun j => Cg (x := bT i) (jv i) j
  refine Does.KU Tryz.func344 rfl Tryz.ntmps344 rfl ?_
  simp only [aJ, Nat.reduceAdd]
  refine WC.sr ?_
  refine WL.val (V.load Tryz.isAgg3 (OV.p rfl) (fun hc => h1 0 s0 h0)) rfl ?_
  refine WL.call (vs := [_]) Tryz.call287 ⟨OV.p rfl, trivial⟩ (Gg i hi) rfl ?_
  rintro _ H0 ⟨rfl, h0⟩
  subst H0
  refine WL.sg rfl rfl (WL.nil (WC.sr (WL.mv rfl rfl (WL.sg rfl rfl (WL.nil (WC.block ?_))))))
  refine WC.loop (σ := Nat × σ) (fun x => [(0, .func (.yield l) #[] #[]), (3, .int .i64 (bT i : Nat)), (4, .int .i64 (conj (bT i) x.1 : Nat))]) (fun x => M x.2) (fun x => x.1 < k ∧ I x.1 x.2) (fun x => k - x.1) (0, s0) ⟨hk, h0⟩ (.cons rfl (.cons rfl (.cons rfl (.nil _)))) (fun w h => h) ?_
  rintro ⟨j, s⟩ ⟨hj, hI⟩
  dsimp only at hj hI ⊢
  refine WC.seq (WC.sr (WL.mv rfl rfl (WL.mv rfl rfl (WL.MS (r := none) (l := l) (vs := [_]) (OV.p rfl) ⟨OV.p rfl, trivial⟩ (rO j s hj hI) rfl ?_))))
  rintro _ _ ⟨rfl, s', hI', rfl⟩
  refine WL.nil ?_
  refine WC.bU rfl (by first | rfl | (simp; done) | (simp; omega)) ?_
  refine WC.skip (WC.block (WC.sr (WL.mv rfl rfl (WL.mv rfl rfl (WL.call (vs := [_, _]) Tryz.call328 ⟨OV.p rfl, OV.p rfl, trivial⟩ (BS (hlt j) (hlt j)) rfl ?_)))))
  rintro _ H0 ⟨rfl, h0⟩
  subst H0
  refine WL.mv rfl rfl (WL.xt rfl rfl rfl (WL.xt rfl rfl rfl (WL.sg rfl rfl (WL.nil (WC.sr (WL.mv rfl rfl (WL.mv rfl rfl (WL.val (V.eql (OV.p rfl) (OV.p rfl)) rfl (WL.nil ?_)))))))))
  refine WC.cond rfl (fun hc1 => ?_) (fun hc1 => ?_)
  ·simp only [decide_eq_true_eq, decide_eq_false_iff_not] at hc1
   have h2 : (conj (bT i) (j + 1) = bT i) ∨ ¬ (conj (bT i) (j + 1) = bT i) := Decidable.em _
   have h3 : conj (bT i) (j + 1) = bT i := by have := hc1; exact Int.ofNat.inj this
   have h4 : j + 1 = k := by
     rcases Nat.lt_or_ge (j + 1) k with h | h
     · exact absurd h3 (hno (j + 1) (by omega) h)
     · omega
   refine WC.ret ?_
   exact aj.ret (H' := M s') (aL.none rfl) (fun w h => h) ⟨s', by rw [← h4]; exact hI', rfl⟩
  ·simp only [decide_eq_true_eq, decide_eq_false_iff_not] at hc1
   have h2 : (conj (bT i) (j + 1) = bT i) ∨ ¬ (conj (bT i) (j + 1) = bT i) := Decidable.em _
   have h3 : ¬ conj (bT i) (j + 1) = bT i := fun h => hc1 (congrArg Int.ofNat h)
   have h4 : j + 1 < k := by
     rcases Nat.lt_or_ge (j + 1) k with h | h
     · exact h
     · have : j + 1 = k := by omega
       rw [this] at h3; exact absurd hback h3
   refine WC.skip ?_
   refine ⟨rfl, ?_⟩
   exact ⟨(j + 1, s'), ⟨h4, hI'⟩, (by show k - (j + 1) < k - j; omega), .cons rfl (.cons rfl (.cons rfl (.nil _))), fun w h => h⟩
end
section
variable {K : World} {F : List au}
theorem kE {A : Option Addr} {m cap : Nat} {xs : List Nat} (hs : Seq K F A m 1 (aB .u8 xs)) (hcap : m ≤ cap) (hm : m ≤ 1000000) : aG Tryz.prog 320 #[.slice A m cap] K F (.slice A (aC xs m) cap) := by
  refine Does.enter Tryz.func320 rfl Tryz.ntmps320 rfl ?_
  simp only [aJ, Nat.reduceAdd]
  refine WC.sr (WL.sg rfl rfl (WL.nil (WC.seq (WC.block ?_))))
  refine WC.loop (σ := Nat) (fun j => [(0, .slice A j cap)]) (fun _ => F) (fun j => j ≤ m ∧ aC xs j = aC xs m) (fun j => j) m ⟨Nat.le_refl _, rfl⟩ (.cons rfl (.nil _)) (fun w h => h) ?_
  rintro j ⟨hj, hn⟩
  have hrd : 0 < j → Rd K F (A.map (·.add (((j : Int) - 1).toNat * 1))) (.int .u8 (xs.getD (j - 1) 0 : Nat)) := fun h => by
    rw [show ((j : Int) - 1).toNat = j - 1 by omega]; exact hs.gK (by omega)
  refine WC.seq (WC.sr (WL.mv rfl rfl (WL.val (V.len (t := 34) Tryz.runUnderlying34 (OV.p rfl)) rfl (WL.val (V.gtr (OV.p rfl) (OV.p rfl)) rfl (WL.mv rfl rfl (WL.ah (oj := _) rfl rfl rfl GC.t (V.move (OV.p rfl)) rfl (WL.ah (oj := _) rfl rfl rfl GC.t (V.move (OV.p rfl)) rfl (WL.ah (oj := _) rfl rfl rfl GC.t (V.len (t := 34) Tryz.runUnderlying34 (OV.g rfl id)) rfl ?_))))))))
  refine WL.ah (oj := _) rfl rfl rfl GC.t (V.wM (OV.g rfl id) (OV.p rfl) (fun hc => by first | omega | (simp at hc; omega))) rfl ?_
  refine WL.ah (oj := _) rfl rfl rfl GC.t (V.fu dB (OV.g rfl id) (OV.g rfl id) (fun hc => by simp at hc; omega) (fun hc => hrd (by simp at hc; omega))) rfl ?_
  refine WL.ah (oj := _) rfl rfl rfl GC.t (V.load Tryz.isAgg5 (OV.g rfl id) (fun hc => hrd (by simp at hc; omega))) rfl ?_
  refine WL.ah (oj := _) rfl rfl rfl GC.t (V.eql (OV.g rfl id) (OV.p rfl)) rfl (WL.val (V.aD (OV.p rfl) (OV.g rfl id)) rfl (WL.nil ?_))
  refine WC.cond rfl (fun hc0 => ?_) (fun hc0 => ?_)
  ·simp only [Bool.and_eq_true, Bool.and_eq_false_iff, decide_eq_true_eq, decide_eq_false_iff_not] at hc0
   have h0 := hc0
   refine WC.skip (WC.block (WC.region (WL.mv rfl rfl (WL.mv rfl rfl (WL.val (V.len (t := 34) Tryz.runUnderlying34 (OV.p rfl)) rfl (WL.sb rfl rfl rfl ?_))))))
   refine WL.val (V.aA (v' := .slice A (j - 1) cap) (V.slice (l := 0) (h := j - 1) (u := cap) dB (OV.p rfl) OO.none (OO.some (OV.p rfl) (fun _ => by omega)) OO.none (by simp) (Nat.zero_le _) (by omega) (Nat.le_refl _)) (fun _ => by rw [Ic]; rfl)) rfl ?_
   refine WL.sg rfl rfl (WL.nil ?_)
   refine ⟨rfl, ?_⟩
   refine ⟨j - 1, ⟨by show j - 1 ≤ m; omega, ?_⟩, (by show j - 1 < j; omega), .cons rfl (.nil _), fun w h => h⟩
   obtain ⟨i, rfl⟩ : ∃ i, j = i + 1 := ⟨j - 1, by omega⟩
   rw [← hn, aC, if_pos (by have := h0.2; simp at this ⊢; omega)]; rfl
  ·simp only [Bool.and_eq_true, Bool.and_eq_false_iff, decide_eq_true_eq, decide_eq_false_iff_not] at hc0
   have h0 := hc0
   refine WC.exit (WC.sr (WL.mv rfl rfl (WL.sg rfl rfl (WL.nil (WC.ret ?_)))))
   refine aj.ret (H' := F) (aL.tmp rfl rfl) (fun w h => h) ⟨?_, rfl⟩
   have : aC xs m = j := by
     rw [← hn]
     cases j with
     | zero => rfl
     | succ i =>
       rw [aC, if_neg]
       intro hz
       rcases h0 with h1 | h1
       · omega
       · have h2 : ¬ ((xs.getD i 0 : Nat) : Int) = 0 := h1
         exact h2 (by rw [hz]; rfl)
   rw [this]
end
theorem sP (v : Nat) : IntKind.u8.wrap (v : Int) = ((v % 256 : Nat) : Int) := by
  simp only [IntKind.wrap, IntKind.bits, IntKind.signed]
  simp
theorem NH {a j : Nat} (ha : a < 8192) : IntKind.u8.wrap (IntKind.i64.wrap ((a : Int) * 2 ^ (min ((j : Int) % 8).toNat IntKind.i64.bits))) = ((a * 2 ^ (j % 8) % 256 : Nat) : Int) := by
  have e1 : min ((j : Int) % 8).toNat IntKind.i64.bits = j % 8 := by show min _ 64 = _; omega
  have e2 : (a : Int) * 2 ^ (j % 8) = ((a * 2 ^ (j % 8) : Nat) : Int) := by simp
  have h1 : 2 ^ (j % 8) ≤ 2 ^ 7 := Nat.pow_le_pow_right (by decide) (by omega)
  have h2 : a * 2 ^ (j % 8) ≤ 8192 * 128 := Nat.mul_le_mul (by omega) h1
  rw [e1, e2, wrap_i64 (by omega), sP]
def pk (i : Int) : Nat → List Nat
  | 0 => [1]
  | k + 1 => (eG (pk i k) [conj (bT i) k, 1]).take (aC (eG (pk i k) [conj (bT i) k, 1]) ((pk i k).length + 2))
def iW (p : List Nat) : Nat → List Nat
  | 0 => List.replicate (p.length / 8 + 1) 0
  | j + 1 => (iW p j).set (j / 8) ((iW p j).getD (j / 8) 0 ||| (p.getD j 0 * 2 ^ (j % 8)) % 256)
theorem lY (p : List Nat) : ∀ j, (iW p j).length = p.length / 8 + 1
  | 0 => List.length_replicate
  | j + 1 => by rw [iW, List.length_set, lY]
theorem sS (p : List Nat) : ∀ j, Small 256 (iW p j)
  | 0 => Small.uQ (by decide)
  | j + 1 => by
    have ih := sS p j
    rw [iW]
    exact ih.set (Nat.or_lt_two_pow (n := 8) (ih.at_ (by decide) _) (Nat.mod_lt _ (by decide)))
def nT (p : List Nat) : List Nat := iW p p.length
def mG (i : Int) : List Nat := (nT (pk i 13)).take (aC (nT (pk i 13)) ((pk i 13).length / 8 + 1))
def wV (i : Int) : Bool := decide (conj (bT i) 13 = bT i) && (List.range 13).all (fun j => j = 0 || decide (conj (bT i) j ≠ bT i)) && decide ((pk i 13).length ≤ 1000) && (List.range 14).all (fun j => decide ((pk i j).length ≤ 1000))
theorem JY : [1, 3, 5, 7, 9, 11, 13, 15].all wV = true := by kernel_rfl
theorem Oo {a b : Nat} (ha : a < 256) (hb : b < 256) : bitsOf .or .u8 (a : Int) (b : Int) = ((a ||| b : Nat) : Int) := by
  have h : a ||| b < 2 ^ 8 := Nat.or_lt_two_pow ha hb
  unfold bitsOf
  dsimp only
  rw [eu, eu, BitVec.toNat_or, BitVec.toNat_ofNat, BitVec.toNat_ofNat]
  have e1 : a % 2 ^ IntKind.u8.bits = a := Nat.mod_eq_of_lt (by show a < 2 ^ 8; omega)
  have e2 : b % 2 ^ IntKind.u8.bits = b := Nat.mod_eq_of_lt (by show b < 2 ^ 8; omega)
  rw [e1, e2]
  show IntKind.u8.wrap _ = _
  simp only [IntKind.wrap, IntKind.bits, IntKind.signed]
  simp
  omega
section
variable {K : World} {F : List au}
theorem IY (i : Int) : Does Tryz.prog 335 #[.int .i64 i] K F (fun v H' => ∃ b1, v = .func (.func 344) #[] #[ptr b1 0] ∧ H' = Cells b1 3 [.int .i64 i] :: F) := by
  refine Does.enter Tryz.func335 rfl Tryz.ntmps335 rfl ?_
  simp only [aJ, Nat.reduceAdd]
  refine WC.sr ?_
  refine WL.box (cs := [_]) (OV.p rfl) rfl rfl (fun b1 => ?_)
  refine WL.sg rfl rfl (WL.nil (WC.sr (WL.val (V.makeFunc (us := []) (vs := [_]) trivial ⟨OV.p rfl, trivial⟩) rfl (WL.sg rfl rfl (WL.nil (WC.ret ?_))))))
  exact aj.ret (H' := Cells b1 _ _ :: F) (aL.tmp rfl rfl) (fun w h => h) ⟨b1, rfl, rfl⟩
theorem Ab {i : Int} (hi : -9223372036854775808 ≤ i ∧ i ≤ 9223372036854775807) (hc : wV i = true) :
    Does Tryz.prog 319 #[.int .i64 i] K F (fun v H' => ∃ g cap, (mG i).length ≤ cap ∧ cap = (pk i 13).length / 8 + 1 ∧ v = .slice (some ⟨g, 0, none⟩) (mG i).length cap ∧ H' = Cells g 5 (aB .u8 (nT (pk i 13))) :: F) := by
  simp only [wV, Bool.and_eq_true, decide_eq_true_eq, List.all_eq_true, List.mem_range, Bool.or_eq_true] at hc
  obtain ⟨⟨⟨hc1, hc2⟩, hc3⟩, hc4⟩ := hc
  have hlt := fun j => Cg (x := bT i) (jv i) j
  have hps : ∀ j, Small 8192 (pk i j) := fun j => by
    cases j with
    | zero => intro x hx; simp [pk] at hx; omega
    | succ j => exact Small.take (oC (fun x hx => by simp at hx; rcases hx with rfl | rfl; exact hlt j; decide) _)
  refine Does.KQ Tryz.func319 rfl Tryz.ntmps319 rfl ?_
  simp only [aJ, Nat.reduceAdd]
  refine WC.sr (WL.sg rfl rfl (WL.nil (WC.sr ?_)))
  refine WL.buildSlice (E := 3) (cs := [_]) (vs := [(0, _)]) ⟨OV.p rfl, trivial⟩ rfl (cZ _) rfl (fun b8 => ?_)
  refine WL.alloc (cs := [(.slice none 0 0)]) Tryz.zeroValue124 rfl rfl (fun b3 => ?_)
  refine WL.store (cs := [_]) Tryz.sizeOf124 (OV.p rfl) (OV.p rfl) rfl rfl rfl (by repeat (first | exact aQ.here (cs' := [_]) rfl rfl | apply aQ.up)) ?_
  refine WL.nil (WC.seq (WC.sr (WL.mv rfl rfl (WL.call (vs := [_]) Tryz.call335 ⟨OV.p rfl, trivial⟩ (IY i) rfl ?_))))
  rintro _ _ ⟨b1, rfl, rfl⟩
  refine WL.nil (WC.block ?_)
  obtain ⟨M0, hM0⟩ : ∃ M0 : Nat × List Nat × Nat × Nat → List au, M0 = fun s => Cells b3 124 [.slice (some ⟨s.1, 0, none⟩) s.2.2.1 s.2.2.2] :: Cells s.1 3 (aB .i64 s.2.1) :: Cells b1 3 [.int .i64 i] :: F := ⟨_, rfl⟩
  obtain ⟨I0, hI0⟩ : ∃ I0 : Nat → Nat × List Nat × Nat × Nat → Prop, I0 = fun j s => s.2.1.take s.2.2.1 = pk i j ∧ s.2.2.1 ≤ s.2.1.length ∧ s.2.2.1 ≤ s.2.2.2 := ⟨_, rfl⟩
  refine WC.range (gf := 344) (lb := [ptr b1 0]) (Done := fun H1 => ∃ s, I0 13 s ∧ H1 = M0 s) (X := fun _ _ => False) rfl Tryz.call344 (fun r l e1 e2 e3 hA => ?_) (fun D H1 hd => ?_) (fun D c H1 h => h.elim)
  suffices rO : ∀ j s, j < 13 → I0 j s → eF Tryz.prog K none l #[.int .i64 (conj (bT i) j : Nat)] (r.A l .ready none :: dU r.D :: M0 s) (fun b H' => b = true ∧ ∃ s', I0 (j + 1) s' ∧ H' = r.A l .ready none :: dU r.D :: M0 s') from by
    have OE : Does Tryz.prog 344 #[.func (.yield l) #[] #[], ptr b1 0] K (r.A l .ready none :: dU r.D :: M0 (b8, [1], 1, 1)) (fun v H' => ∃ s, I0 13 s ∧ H' = r.A l .ready none :: dU r.D :: M0 s) :=
      Ie (r := none) hi (by decide) hc1 (fun j h1 h2 => by rcases hc2 j h2 with h | h; omega; exact h) I0 (fun s => r.A l .ready none :: dU r.D :: M0 s) (fun j s h => by rw [hM0]; exact (Rd.here rfl).up.up.up.up) rO (b8, [1], 1, 1) (by rw [hI0]; exact ⟨rfl, Nat.le_refl _, Nat.le_refl _⟩)
    exact (OE.sat fun w h => by rw [hM0]; exact h.sel 5 [0, 1, 3, 4, 2] rfl).mono fun v H' ⟨s, hs, e⟩ => ⟨none, _, e, s, hs, rfl⟩
  rintro j ⟨g, full, m1, cp⟩ hj hI
  refine eF.mono (ug (n := 46) (args := [.int .i64 (conj (bT i) j : Nat)]) (post := fun jj H1 => jj = none ∧ ∃ s, I0 (j + 1) s ∧ H1 = dU r.D :: M0 s) (by rw [e1]; rfl) (by rw [e1]; simp) hA ?_) (fun b H' ⟨jj, H1, hb, ⟨hj, s, hs, e⟩, eH⟩ => by
    subst hj hb e eH
    exact ⟨rfl, s, hs, rfl⟩)
  rw [e1, e2]
  rw [hI0] at hI
  obtain ⟨hI1, hI2, Py⟩ := hI
  dsimp only at hI1 hI2 Py
  rw [hM0, hI0]
  dsimp only
  refine WC.sub (E := (11, _) :: _) (Sub.refl _) (fun w h => h) ?_
  have hpl : (pk i j).length = m1 := by rw [← hI1, List.length_take]; omega
  have Qa := hc4 j (by omega)
  have hml : (eG (pk i j) [conj (bT i) j, 1]).length = m1 + 2 := by unfold eG; rw [ko, hpl]; rfl
  have hnl := dV (eG (pk i j) [conj (bT i) j, 1]) (m1 + 2)
  have Lp : ∀ {H : List au}, Seq K (Cells g 3 (aB .i64 full) :: H) (some ⟨g, 0, none⟩) m1 1 (aB .i64 (pk i j)) := fun {H} => Seq.here (by rw [aH, hpl]; omega) (by rw [← hI1, ← fZ, List.drop_zero]; exact List.take_prefix _ _)
  ·skip
   refine WC.region (WL.sg rfl rfl (WL.nil ?_))
   refine ⟨_, fun w h => h, ?_⟩
   rw [e3]
   refine WC.block (WC.region (WL.ld Tryz.isAgg124 rfl rfl ?_))
   refine WL.mv rfl rfl ?_
   refine WL.buildSlice (E := 3) (cs := [_, _]) (vs := [(0, _), (1, _)]) ⟨OV.p rfl, OV.p rfl, trivial⟩ rfl (ng _ _) rfl (fun b15 => ?_)
   refine WL.call (vs := [_, _]) Tryz.call336 ⟨OV.p rfl, OV.p rfl, trivial⟩ (JJ (ps := pk i j) (qs := [conj (bT i) j, 1]) (by repeat (first | exact Lp | apply Seq.up)) (Seq.wL (k := .i64) (xs := [conj (bT i) j, 1]) rfl) (hps j) (fun x hx => by simp at hx; rcases hx with rfl | rfl; exact hlt j; decide) (by show (pk i j).length + 2 ≤ 1000000; omega)) rfl ?_
   rintro _ _ ⟨g2, rfl, rfl⟩
   refine WL.mv rfl rfl (WL.xt rfl rfl rfl (WL.xt rfl rfl rfl ?_))
   refine WL.store (cs := [_]) Tryz.sizeOf124 (OV.p rfl) (OV.p rfl) rfl rfl rfl (by repeat (first | exact aQ.here rfl rfl | apply aQ.up)) ?_
   refine WL.nil ?_
   refine ⟨_, fun w h => h.sel 7 [2, 3, 4, 0, 6] rfl, rfl, (g2, eG (pk i j) [conj (bT i) j, 1], aC (eG (pk i j) [conj (bT i) j, 1]) ((pk i j).length + 2), (pk i j).length + 2), ⟨rfl, ?_, ?_⟩, rfl⟩
   · show aC _ _ ≤ (eG _ _).length; rw [hml, hpl]; exact hnl
   · show aC _ _ ≤ (pk i j).length + 2; rw [hpl]; exact hnl
  ·skip
   obtain ⟨⟨g, full, m1, cp⟩, hI, rfl⟩ := hd
   rw [hI0] at hI
   obtain ⟨hI1, hI2, Py⟩ := hI
   dsimp only at hI1 hI2 Py
   rw [hM0]
   have hpl : (pk i 13).length = m1 := by rw [← hI1, List.length_take]; omega
   have Lp : ∀ {H : List au}, Seq K (Cells g 3 (aB .i64 full) :: H) (some ⟨g, 0, none⟩) m1 1 (aB .i64 (pk i 13)) := fun {H} => Seq.here (by rw [aH, hpl]; omega) (by rw [← hI1, ← fZ, List.drop_zero]; exact List.take_prefix _ _)
   refine WC.sub (E := _) (H' := dU D :: Cells b3 124 [.slice (some ⟨g, 0, none⟩) m1 cp] :: Cells g 3 (aB .i64 full) :: F) (Sub.refl _) (fun w h => h.sel 4 [0, 1, 2] rfl) ?_
   refine WC.sr (WL.ld Tryz.isAgg124 rfl rfl ?_)
   refine WL.val (V.len (t := 124) Tryz.runUnderlying124 (OV.p rfl)) rfl ?_
   refine WL.val (V.rR (OV.p rfl) (OV.p rfl) (fun hc => by first | omega | (simp at hc; omega))) rfl ?_
   refine WL.ad rfl rfl rfl ?_
   refine WL.l7 (m := m1 / 8 + 1) Tryz.underlying34 vP (OV.p rfl) (OV.p rfl) (by omega) (by omega) (by omega) rfl rfl rfl (fun Pp => ?_)
   refine WL.sg rfl rfl (WL.nil (WC.seq (WC.sr (WL.ld Tryz.isAgg124 rfl rfl ?_))))
   refine WL.val (V.len (t := 124) Tryz.runUnderlying124 (OV.p rfl)) rfl (WL.mv rfl rfl (WL.nil (WC.block ?_)))
   refine WC.loop (σ := Nat) (fun j => [(5, .slice (some ⟨Pp, 0, none⟩) (m1 / 8 + 1) (m1 / 8 + 1)), (24, .slice (some ⟨g, 0, none⟩) m1 cp), (25, .int .i64 (m1 : Int)), (26, .int .i64 (j : Int))]) (fun j => Cells Pp 5 (aB .u8 (iW (pk i 13) j)) :: dU D :: Cells g 3 (aB .i64 full) :: F) (fun j => j ≤ m1) (fun j => m1 - j) 0 (Nat.zero_le _) (.cons rfl (.cons rfl (.cons rfl (.cons rfl (.nil _))))) (fun w h => (h.sel 4 [0, 1, 3] rfl).aV (by rw [iW, hpl, dh]; rfl)) ?_
   rintro j hj
   refine WC.sr (WL.val (V.lss (OV.p rfl) (OV.p rfl)) rfl (WL.nil (WC.seq ?_)))
   refine WC.cond rfl (fun hc0 => ?_) (fun hc0 => ?_)
   ·simp only [decide_eq_true_eq, decide_eq_false_iff_not] at hc0
    refine WC.skip (WC.seq (WC.block (WC.seq ?_)))
    have hjm : j < m1 := by omega
    have nZ : ∀ {X Y : au}, Rd K (X :: Y :: Cells g 3 (aB .i64 full) :: F) ((some ⟨g, 0, none⟩ : Option Addr).map (·.add ((j : Int).toNat * 1))) (.int .i64 ((pk i 13).getD j 0 : Nat)) := fun {X Y} => by
      rw [show (j : Int).toNat = j by omega]; exact (Lp.gK (by omega)).up.up
    have Ob := (hps 13).at_ (by decide) j
    have hto := lY (pk i 13) j
    have hgo : (aB .u8 (iW (pk i 13) j))[0 + ((j : Int) / 8).toNat * 1]? = some (.int .u8 ((iW (pk i 13) j).getD (j / 8) 0 : Nat)) := by rw [show 0 + ((j : Int) / 8).toNat * 1 = j / 8 by omega]; exact l8 _ _ (by omega)
    refine WC.region (WL.mv rfl rfl ?_)
    refine WL.val (V.fu bO (OV.p rfl) (OV.p rfl) (fun hc => by omega) (fun hc => nZ)) rfl ?_
    refine WL.val (V.load Tryz.isAgg3 (OV.p rfl) (fun hc => nZ)) rfl ?_
    refine WL.sg rfl rfl (WL.sg rfl rfl (WL.nil ?_))
    refine WC.dY (dU D :: Cells g 3 (aB .i64 full) :: F) (by kernel_rfl) ?_
    refine WA.t 0 rfl (V.move (OV.p rfl)) (WA.t 1 rfl (V.move (OV.p rfl)) ?_)
    refine WA.t 2 rfl (V.rR (OV.p rfl) (OV.p rfl) (fun hc => by first | omega | (simp at hc; omega))) ?_
    refine WA.t 3 rfl (V.bP dB (OV.p rfl) (OV.p rfl) (fun hc => by omega)) ?_
    refine WA.t 5 rfl (V.move (OV.p rfl)) (WA.t 6 rfl (V.move (OV.p rfl)) ?_)
    refine WA.t 7 rfl (V.qH (OV.p rfl) (OV.p rfl) (fun hc => by first | omega | (simp at hc; omega))) ?_
    refine WA.t 8 rfl (V.shl (OV.p rfl) (OV.p rfl) (by omega)) ?_
    refine WA.t 9 rfl (V.aA (v' := .int .u8 (((pk i 13).getD j 0 * 2 ^ (j % 8) % 256 : Nat) : Int)) (V.iM Tryz.runUnderlying3 Tryz.runUnderlying5 (OV.p rfl)) (fun _ => by rw [NH Ob])) ?_
    refine WA.o 4 rfl ?_
    refine WL.val (V.load Tryz.isAgg5 (OV.p rfl) (fun hc => Rd.here hgo)) rfl ?_
    refine WL.nil ?_
    refine WA.t 10 rfl (V.aA (v' := .int .u8 (((iW (pk i 13) j).getD (j / 8) 0 ||| ((pk i 13).getD j 0 * 2 ^ (j % 8)) % 256 : Nat) : Int)) (V.or (OV.p rfl) (OV.p rfl)) (fun _ => by rw [Oo ((sS _ j).at_ (by decide) _) (Nat.mod_lt _ (by decide))])) ?_
    refine WA.t 11 rfl (V.bP dB (OV.p rfl) (OV.p rfl) (fun hc => by omega)) ?_
    refine WA.o 12 rfl ?_
    refine WL.store (cs := [_]) Tryz.sizeOf5 (OV.p rfl) (OV.p rfl) rfl rfl rfl (aQ.at_ (by rw [aH]; omega)) ?_
    refine WL.nil (WA.fin (WC.region (WL.ad rfl rfl rfl ?_)))
    refine WL.mv rfl rfl (WL.nil ?_)
    refine ⟨rfl, ?_⟩
    refine ⟨j + 1, (by show j + 1 ≤ m1; omega), (by show m1 - (j + 1) < m1 - j; omega), .cons rfl (.cons rfl (.cons rfl (.cons (look_eq rfl (by simp)) (.nil _)))), fun w h => Sat.aV h ?_⟩
    rw [show 0 + ((j : Int) / 8).toNat * 1 = j / 8 by omega, iZ, iW]
   ·simp only [decide_eq_true_eq, decide_eq_false_iff_not] at hc0
    refine WC.exit (WC.seq ?_)
    obtain rfl : j = m1 := by omega
    have hpp : iW (pk i 13) j = nT (pk i 13) := by unfold nT; rw [hpl]
    rw [hpp]
    have O1 : (nT (pk i 13)).length = j / 8 + 1 := by unfold nT; rw [lY, hpl]
    refine WC.region (WL.mv rfl rfl ?_)
    refine WL.call (vs := [_]) Tryz.call320 ⟨OV.p rfl, trivial⟩ (kE (xs := nT (pk i 13)) (Seq.wL O1) (Nat.le_refl _) (by omega)) rfl ?_
    rintro _ H0 ⟨rfl, h0⟩
    subst H0
    refine WL.sg rfl rfl (WL.nil (WC.ret ?_))
    have hmb : (mG i).length = aC (nT (pk i 13)) (j / 8 + 1) := by
      unfold mG
      have := dV (nT (pk i 13)) (j / 8 + 1)
      rw [List.length_take, hpl, O1]; omega
    exact je.N7 (Cells Pp 5 (aB .u8 (nT (pk i 13))) :: F) (fun w h => h.sel 3 [1, 0] rfl) (aL.tmp rfl rfl) (fun w h => h) ⟨Pp, j / 8 + 1, by rw [hmb]; exact dV _ _, by rw [hpl], by rw [hmb], rfl⟩
end
end Go.Proofs.YtcedojacbhnbiaaGreat
