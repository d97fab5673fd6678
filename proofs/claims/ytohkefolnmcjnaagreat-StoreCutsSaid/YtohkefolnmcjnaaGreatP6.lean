import Derived.Test.YtohkefolnmcjnaaGreatP5
namespace Go.Proofs.YtohkefolnmcjnaaGreat
open Go.Sl Go.RowKit
set_option linter.unusedVariables false
set_option linter.unusedSimpArgs false
set_option maxRecDepth 20000
def nats (k : IntKind) (xs : List Nat) : List Value := xs.map fun x : Nat => Value.int k (x : Int)
theorem nats_length (k : IntKind) (xs : List Nat) : (nats k xs).length = xs.length := by simp [nats]
theorem nats_get (k : IntKind) (xs : List Nat) {i : Nat} (h : i < xs.length) : (nats k xs)[i]? = some (.int k (xs.getD i 0 : Nat)) := by simp [nats, List.getD, h]
theorem nats_set (k : IntKind) (xs : List Nat) (i x : Nat) : (nats k xs).set i (.int k (x : Int)) = nats k (xs.set i x) := by simp [nats, List.map_set]
theorem nats_one (k : IntKind) (xs : List Nat) : ∀ u ∈ nats k xs, u.oneCell' = true := by simp [nats, Value.oneCell']
theorem nats_replicate (k : IntKind) (m x : Nat) : nats k (List.replicate m x) = List.replicate m (.int k (x : Int)) := by simp [nats]
theorem nats_append (k : IntKind) (xs ys : List Nat) : nats k (xs ++ ys) = nats k xs ++ nats k ys := by simp [nats]
theorem nats_take (k : IntKind) (xs : List Nat) (n : Nat) : (nats k xs).take n = nats k (xs.take n) := by simp [nats]
theorem nats_drop (k : IntKind) (xs : List Nat) (n : Nat) : (nats k xs).drop n = nats k (xs.drop n) := by simp [nats]
def Small (b : Nat) (xs : List Nat) : Prop := ∀ x ∈ xs, x < b
theorem Small.at_ {b : Nat} {xs : List Nat} (h : Small b xs) (hb : 0 < b) (i : Nat) : xs.getD i 0 < b := by
  by_cases hi : i < xs.length
  · have := h xs[i] (List.getElem_mem hi)
    simpa [List.getD, hi] using this
  · simp [List.getD, List.getElem?_eq_none (Nat.le_of_not_lt hi), hb]
theorem Small.set {b : Nat} {xs : List Nat} (h : Small b xs) {i x : Nat} (hx : x < b) : Small b (xs.set i x) := fun y hy => by
  rcases List.mem_or_eq_of_mem_set hy with h1 | rfl
  · exact h y h1
  · exact hx
theorem Small.repl {b n x : Nat} (hx : x < b) : Small b (List.replicate n x) := fun y hy => by rw [List.eq_of_mem_replicate hy]; exact hx
theorem Small.take {b n : Nat} {xs : List Nat} (h : Small b xs) : Small b (xs.take n) := fun y hy => h y (List.mem_of_mem_take hy)
theorem Small.append {b : Nat} {xs ys : List Nat} (h : Small b xs) (h' : Small b ys) : Small b (xs ++ ys) := fun y hy => (List.mem_append.1 hy).elim (h y) (h' y)
theorem _root_.Go.Sl.Seq.nat_rd {K : World} {H : List Assn} {A : Option Addr} {m : Nat} {k : IntKind} {xs : List Nat} (h : Seq K H A m 1 (nats k xs)) {j : Nat} (hj : j < m) : Rd K H (A.map (·.add (j * 1))) (.int k (xs.getD j 0 : Nat)) := by
  have hl : xs.length = m := by simpa [nats] using h.len
  have := h.rd j _ (nats_get k xs (by omega))
  simpa using this
theorem _root_.Go.Sl.Seq.allN {K : World} {H : List Assn} {b T m : Nat} {k : IntKind} {xs : List Nat} (hl : xs.length = m) : Seq K (Cells b T (nats k xs) :: H) (some ⟨b, 0, none⟩) m 1 (nats k xs) := Seq.all (by simp [nats, hl])
def normLen (xs : List Nat) : Nat → Nat
  | 0 => 0
  | k + 1 => if xs.getD k 0 = 0 then normLen xs k else k + 1
theorem normLen_le (xs : List Nat) : ∀ k, normLen xs k ≤ k
  | 0 => Nat.le_refl _
  | k + 1 => by
    have := normLen_le xs k
    rw [normLen]
    split <;> omega
def layTo (out p : List Nat) (at_ by_ : Nat) : Nat → List Nat
  | 0 => out
  | j + 1 => (layTo out p at_ by_ j).set (at_ + j) ((layTo out p at_ by_ j).getD (at_ + j) 0 ^^^ gmul (p.getD j 0) by_)
theorem layTo_length (out p : List Nat) (at_ by_ : Nat) : ∀ j, (layTo out p at_ by_ j).length = out.length
  | 0 => rfl
  | j + 1 => by rw [layTo, List.length_set, layTo_length]
theorem layTo_small {out p : List Nat} {at_ by_ : Nat} (h : Small 8192 out) (hp : Small 8192 p) : ∀ j, Small 8192 (layTo out p at_ by_ j)
  | 0 => h
  | j + 1 => by
    have ih := layTo_small (at_ := at_) (by_ := by_) h hp j
    rw [layTo]
    exact ih.set (xor_lt (k := 13) (ih.at_ (by decide) _) (gmul_lt (hp.at_ (by decide) _)))
def mulTo (ps qs : List Nat) : Nat → List Nat
  | 0 => List.replicate (ps.length + qs.length) 0
  | i + 1 => layTo (mulTo ps qs i) qs i (ps.getD i 0) qs.length
def mulFull (ps qs : List Nat) : List Nat := mulTo ps qs ps.length
theorem mulTo_length (ps qs : List Nat) : ∀ i, (mulTo ps qs i).length = ps.length + qs.length
  | 0 => List.length_replicate
  | i + 1 => by rw [mulTo, layTo_length, mulTo_length]
theorem mulTo_small {ps qs : List Nat} (hq : Small 8192 qs) : ∀ i, Small 8192 (mulTo ps qs i)
  | 0 => Small.repl (by decide)
  | i + 1 => layTo_small (mulTo_small hq i) hq _
section
variable {K : World} {F : List Assn}
theorem poly_norm {A : Option Addr} {m cap : Nat} {xs : List Nat} (hs : Seq K F A m 1 (nats .i64 xs)) (hcap : m ≤ cap) (hm : m ≤ 1000000) : Tells Tryz.prog 219 #[.slice A m cap] K F (.slice A (normLen xs m) cap) := by
  refine Does.enter Tryz.func219 rfl Tryz.ntmps219 rfl ?_
  simp only [env0, Nat.reduceAdd]
  refine WC.sr ?_
  refine WL.sg rfl rfl ?_
  refine WL.nil ?_
  refine WC.seq ?_
  refine WC.block ?_
  refine WC.loop (σ := Nat) (fun j => [(0, .slice A j cap)]) (fun _ => F) (fun j => j ≤ m ∧ normLen xs j = normLen xs m) (fun j => j) m ⟨Nat.le_refl _, rfl⟩ (.cons rfl (.nil _)) (fun w h => h) ?_
  rintro j ⟨hj, hn⟩
  have hrd : 0 < j → Rd K F (A.map (·.add (((j : Int) - 1).toNat * 1))) (.int .i64 (xs.getD (j - 1) 0 : Nat)) := fun h => by
    rw [show ((j : Int) - 1).toNat = j - 1 by omega]; exact hs.nat_rd (by omega)
  refine WC.seq ?_
  refine WC.sr ?_
  refine WL.mv rfl rfl ?_
  refine WL.val (V.len (t := 42) Tryz.runUnderlying42 (OV.p rfl)) rfl ?_
  refine WL.val (V.gtr (OV.p rfl) (OV.p rfl)) rfl ?_
  refine WL.mv rfl rfl ?_
  refine WL.valG (oj := _) rfl rfl rfl GC.t (V.move (OV.p rfl)) rfl ?_
  refine WL.valG (oj := _) rfl rfl rfl GC.t (V.move (OV.p rfl)) rfl ?_
  refine WL.valG (oj := _) rfl rfl rfl GC.t (V.len (t := 42) Tryz.runUnderlying42 (OV.g rfl id)) rfl ?_
  refine WL.valG (oj := _) rfl rfl rfl GC.t (V.subI (OV.g rfl id) (OV.p rfl) (fun hc => by first | omega | (simp at hc; omega))) rfl ?_
  refine WL.valG (oj := _) rfl rfl rfl GC.t (V.idxS (m := j) (cap := cap) st42 (OV.g rfl id) (OV.g rfl id) (fun hc => by simp at hc; omega) (fun hc => hrd (by simp at hc; omega))) rfl ?_
  refine WL.valG (oj := _) rfl rfl rfl GC.t (V.load Tryz.isAgg3 (OV.g rfl id) (fun hc => hrd (by simp at hc; omega))) rfl ?_
  refine WL.valG (oj := _) rfl rfl rfl GC.t (V.eql (OV.g rfl id) (OV.p rfl)) rfl ?_
  refine WL.val (V.pickAnd (OV.p rfl) (OV.g rfl id)) rfl ?_
  refine WL.nil ?_
  refine WC.cond rfl (fun hc0 => ?_) (fun hc0 => ?_)
  ·simp only [Bool.and_eq_true, Bool.and_eq_false_iff, decide_eq_true_eq, decide_eq_false_iff_not] at hc0
   have h0 := hc0
   refine WC.skip ?_
   refine WC.block ?_
   refine WC.region ?_
   refine WL.mv rfl rfl ?_
   refine WL.mv rfl rfl ?_
   refine WL.val (V.len (t := 42) Tryz.runUnderlying42 (OV.p rfl)) rfl ?_
   refine WL.sb rfl rfl rfl ?_
   refine WL.val (V.val_eq (v' := .slice A (j - 1) cap) (V.slice (l := 0) (h := j - 1) (u := cap) st42 (OV.p rfl) OO.none (OO.some (OV.p rfl) (fun _ => by omega)) OO.none (by simp) (Nat.zero_le _) (by omega) (Nat.le_refl _)) (fun _ => by rw [sub0]; rfl)) rfl ?_
   refine WL.sg rfl rfl ?_
   refine WL.nil ?_
   refine ⟨rfl, ?_⟩
   refine ⟨j - 1, ⟨by show j - 1 ≤ m; omega, ?_⟩, (by show j - 1 < j; omega), .cons rfl (.nil _), fun w h => h⟩
   obtain ⟨i, rfl⟩ : ∃ i, j = i + 1 := ⟨j - 1, by omega⟩
   rw [← hn, normLen, if_pos (by have := h0.2; simp at this ⊢; omega)]; rfl
  ·simp only [Bool.and_eq_true, Bool.and_eq_false_iff, decide_eq_true_eq, decide_eq_false_iff_not] at hc0
   have h0 := hc0
   refine WC.exit ?_
   refine WC.sr ?_
   refine WL.mv rfl rfl ?_
   refine WL.sg rfl rfl ?_
   refine WL.nil ?_
   refine WC.ret ?_
   refine BodyQ.ret (H' := F) (Res.tmp rfl rfl) (fun w h => h) ⟨?_, rfl⟩
   have : normLen xs m = j := by
     rw [← hn]
     cases j with
     | zero => rfl
     | succ i =>
       rw [normLen, if_neg]
       intro hz
       rcases h0 with h1 | h1
       · omega
       · have h2 : ¬ ((xs.getD i 0 : Nat) : Int) = 0 := h1
         exact h2 (by rw [hz]; rfl)
   rw [this]
structure PList where
  A : Option Addr
  m : Nat
  cap : Nat
  xs : List Nat
abbrev PList.v (p : PList) : Value := .slice p.A p.m p.cap
theorem poly_is {b : Nat} {ls : List PList} (hls : ∀ p ∈ ls, Seq K F p.A p.m 1 (nats .i64 p.xs) ∧ Small 8192 p.xs ∧ p.m ≤ 1000000) (hR : Seq K F (some ⟨b, 0, none⟩) ls.length 1 (ls.map PList.v)) (hll : ls.length ≤ 1000) :
    Tells Tryz.prog 213 #[.slice (some ⟨b, 0, none⟩) ls.length ls.length] K F (.bool true) := by
  refine Does.enter Tryz.func213 rfl Tryz.ntmps213 rfl ?_
  simp only [env0, Nat.reduceAdd]
  refine WC.sr ?_
  refine WL.sg rfl rfl ?_
  refine WL.nil ?_
  refine WC.seq ?_
  refine WC.sr ?_
  refine WL.mv rfl rfl ?_
  refine WL.val (V.len (t := 124) Tryz.runUnderlying124 (OV.p rfl)) rfl ?_
  refine WL.mv rfl rfl ?_
  refine WL.nil ?_
  refine WC.block ?_
  refine WC.loop (σ := Nat) (fun i => [(9, .slice (some ⟨b, 0, none⟩) ls.length ls.length), (10, .int .i64 (ls.length : Int)), (11, .int .i64 (i : Int))]) (fun _ => F) (fun i => i ≤ ls.length) (fun i => ls.length - i) 0 (Nat.zero_le _) (.cons rfl (.cons rfl (.cons rfl (.nil _)))) (fun w h => h) ?_
  rintro i hi
  refine WC.sr ?_
  refine WL.val (V.lss (OV.p rfl) (OV.p rfl)) rfl ?_
  refine WL.nil ?_
  refine WC.seq ?_
  refine WC.cond rfl (fun hc0 => ?_) (fun hc0 => ?_)
  ·simp only [decide_eq_true_eq, decide_eq_false_iff_not] at hc0
   refine WC.skip ?_
   refine WC.seq ?_
   refine WC.block ?_
   refine WC.seq ?_
   obtain ⟨p, hp⟩ : ∃ p, ls[i]? = some p := ⟨_, List.getElem?_eq_getElem (by omega)⟩
   obtain ⟨hps, hpb, hpm⟩ := hls p (List.mem_of_getElem? hp)
   have hpl : p.xs.length = p.m := by simpa [nats] using hps.len
   have hrd : Rd K F (some ⟨b, 0 + (i : Int).toNat * 1, none⟩) p.v := by
     have := hR.rd i p.v (by rw [List.getElem?_map, hp]; rfl)
     rw [show 0 + (i : Int).toNat * 1 = 0 + i by omega]
     simpa [add_mk] using this
   refine WC.region ?_
   refine WL.val (V.idxB st124 (OV.p rfl) (OV.p rfl) (fun hc => by omega)) rfl ?_
   refine WL.val (V.load Tryz.isAgg42 (OV.p rfl) (fun hc => hrd)) rfl ?_
   refine WL.sg rfl rfl ?_
   refine WL.nil ?_
   refine WC.sr ?_
   refine WL.mv rfl rfl ?_
   refine WL.val (V.len (t := 42) Tryz.runUnderlying42 (OV.p rfl)) rfl ?_
   refine WL.mv rfl rfl ?_
   refine WL.nil ?_
   refine WC.block ?_
   refine WC.loop (σ := Nat) (fun j => [(9, .slice (some ⟨b, 0, none⟩) ls.length ls.length), (10, .int .i64 (ls.length : Int)), (11, .int .i64 (i : Int)), (15, p.v), (16, .int .i64 (p.m : Int)), (17, .int .i64 (j : Int))]) (fun _ => F) (fun j => j ≤ p.m) (fun j => p.m - j) 0 (Nat.zero_le _) (.cons rfl (.cons rfl (.cons rfl (.cons rfl (.cons rfl (.cons rfl (.nil _))))))) (fun w h => h) ?_
   rintro j hj
   refine WC.sr ?_
   refine WL.val (V.lss (OV.p rfl) (OV.p rfl)) rfl ?_
   refine WL.nil ?_
   refine WC.seq ?_
   refine WC.cond rfl (fun hc1 => ?_) (fun hc1 => ?_)
   ·simp only [decide_eq_true_eq, decide_eq_false_iff_not] at hc1
    refine WC.skip ?_
    refine WC.seq ?_
    refine WC.block ?_
    refine WC.seq ?_
    have hrd2 : Rd K F (p.A.map (·.add ((j : Int).toNat * 1))) (.int .i64 (p.xs.getD j 0 : Nat)) := by
      rw [show (j : Int).toNat = j by omega]; exact hps.nat_rd (by omega)
    refine WC.region ?_
    refine WL.val (V.idxS st42 (OV.p rfl) (OV.p rfl) (fun hc => by omega) (fun hc => hrd2)) rfl ?_
    refine WL.val (V.load Tryz.isAgg3 (OV.p rfl) (fun hc => hrd2)) rfl ?_
    refine WL.sg rfl rfl ?_
    refine WL.nil ?_
    refine WC.sr ?_
    refine WL.mv rfl rfl ?_
    refine WL.call (vs := [_, _]) Tryz.call196 ⟨OV.p rfl, OV.p rfl, trivial⟩ (gf_Mul (b := 0) (hpb.at_ (by decide) j) (by decide)) rfl ?_
    rintro _ H0 ⟨rfl, h0⟩
    subst H0
    refine WL.mv rfl rfl ?_
    refine WL.xt rfl rfl rfl ?_
    refine WL.xt rfl rfl rfl ?_
    refine WL.sg rfl rfl ?_
    refine WL.sg rfl rfl ?_
    refine WL.nil ?_
    refine WC.sr ?_
    refine WL.mv rfl rfl ?_
    refine WL.val (V.neq (OV.p rfl) (OV.p rfl)) rfl ?_
    refine WL.nil ?_
    refine WC.condF' rfl (by first | rfl | (simp; done) | (simp; omega)) ?_
    refine WC.skip ?_
    refine WC.region ?_
    refine WL.ad rfl rfl rfl ?_
    refine WL.mv rfl rfl ?_
    refine WL.nil ?_
    refine ⟨rfl, ?_⟩
    exact ⟨j + 1, (by show j + 1 ≤ p.m; omega), (by show p.m - (j + 1) < p.m - j; omega), .cons rfl (.cons rfl (.cons rfl (.cons rfl (.cons rfl (.cons (look_eq rfl (by simp)) (.nil _)))))), fun w h => h⟩
   ·simp only [decide_eq_true_eq, decide_eq_false_iff_not] at hc1
    refine WC.exit ?_
    refine WC.region ?_
    refine WL.ad rfl rfl rfl ?_
    refine WL.mv rfl rfl ?_
    refine WL.nil ?_
    refine ⟨rfl, ?_⟩
    exact ⟨i + 1, (by show i + 1 ≤ ls.length; omega), (by show ls.length - (i + 1) < ls.length - i; omega), .cons rfl (.cons rfl (.cons (look_eq rfl (by simp)) (.nil _))), fun w h => h⟩
  ·simp only [decide_eq_true_eq, decide_eq_false_iff_not] at hc0
   refine WC.exit ?_
   refine WC.sr ?_
   refine WL.sg rfl rfl ?_
   refine WL.nil ?_
   refine WC.ret ?_
   exact BodyQ.ret (H' := F) (Res.tmp rfl rfl) (fun w h => h) ⟨rfl, rfl⟩
theorem poly_put {g b5 N cap : Nat} {out : List Nat} {i x : Nat} (hN : out.length = N) (hi : i < N) (ho : Small 8192 out) (hx : x < 8192) (h5 : Rd K F (some ⟨b5, 0, none⟩) (.slice (some ⟨g, 0, none⟩) N cap)) (hcap : N ≤ 1000000) :
    Does Tryz.prog 218 #[.int .i64 (i : Int), .int .i64 (x : Int), ptr b5 0] K (Cells g 3 (nats .i64 out) :: F)
      (fun v H' => H' = Cells g 3 (nats .i64 (out.set i (out.getD i 0 ^^^ x))) :: F) := by
  have hgi : (nats .i64 out)[0 + (i : Int).toNat * 1]? = some (.int .i64 (out.getD i 0 : Nat)) := by rw [show 0 + (i : Int).toNat * 1 = i by omega]; exact nats_get _ _ (by omega)
  have hb := ho.at_ (by decide) i
  refine Does.enter Tryz.func218 rfl Tryz.ntmps218 rfl ?_
  simp only [env0, Nat.reduceAdd]
  refine WC.region ?_
  refine WL.val (V.load Tryz.isAgg42 (OV.p rfl) (fun hc => h5.up)) rfl ?_
  refine WL.mv rfl rfl ?_
  refine WL.val (V.idxB st42 (OV.p rfl) (OV.p rfl) (fun hc => by omega)) rfl ?_
  refine WL.val (V.load Tryz.isAgg3 (OV.p rfl) (fun hc => Rd.here hgi)) rfl ?_
  refine WL.mv rfl rfl ?_
  refine WL.val (V.val_eq (v' := .int .i64 ((out.getD i 0 ^^^ x : Nat) : Int)) (V.xor (OV.p rfl) (OV.p rfl)) (fun _ => by rw [bits_xor (by omega) (by omega)])) rfl ?_
  refine WL.val (V.idxB st42 (OV.p rfl) (OV.p rfl) (fun hc => by omega)) rfl ?_
  refine WL.store (cs := [_]) Tryz.sizeOf3 (OV.p rfl) (OV.p rfl) rfl rfl rfl (Upd.at_ (by rw [nats_length]; omega)) ?_
  refine WL.nil ?_
  refine BodyQ.normal (H' := Cells g _ _ :: F) (Res.none rfl) (fun w h => Sat.cells_eq h ?_) rfl
  rw [show 0 + (i : Int).toNat * 1 = i by omega, nats_set]
theorem poly_lay {g b5 N cap : Nat} {out : List Nat} {A : Option Addr} {m cap' : Nat} {ps : List Nat} {at_ by_ : Nat} (hN : out.length = N) (ho : Small 8192 out) (hs : Seq K F A m 1 (nats .i64 ps)) (hp : Small 8192 ps) (hat : at_ + m ≤ N) (hby : by_ < 8192)
    (h5 : Rd K F (some ⟨b5, 0, none⟩) (.slice (some ⟨g, 0, none⟩) N cap)) (hcap : N ≤ 1000000) :
    Does Tryz.prog 216 #[.func (.func 218) #[] #[ptr b5 0], .slice A m cap', .int .i64 (at_ : Int), .int .i64 (by_ : Int)] K (Cells g 3 (nats .i64 out) :: F)
      (fun v H' => H' = Cells g 3 (nats .i64 (layTo out ps at_ by_ m)) :: F) := by
  have hl : ps.length = m := by simpa [nats] using hs.len
  refine Does.enter Tryz.func216 rfl Tryz.ntmps216 rfl ?_
  simp only [env0, Nat.reduceAdd]
  refine WC.sr ?_
  refine WL.mv rfl rfl ?_
  refine WL.val (V.len (t := 42) Tryz.runUnderlying42 (OV.p rfl)) rfl ?_
  refine WL.mv rfl rfl ?_
  refine WL.nil ?_
  refine WC.block ?_
  refine WC.loop (σ := Nat) (fun j => [(0, .func (.func 218) #[] #[ptr b5 0]), (2, .int .i64 (at_ : Int)), (3, .int .i64 (by_ : Int)), (10, .slice A m cap'), (11, .int .i64 (m : Int)), (12, .int .i64 (j : Int))]) (fun j => Cells g 3 (nats .i64 (layTo out ps at_ by_ j)) :: F) (fun j => j ≤ m) (fun j => m - j) 0 (Nat.zero_le _) (.cons rfl (.cons rfl (.cons rfl (.cons rfl (.cons rfl (.cons rfl (.nil _))))))) (fun w h => h) ?_
  rintro j hj
  refine WC.sr ?_
  refine WL.val (V.lss (OV.p rfl) (OV.p rfl)) rfl ?_
  refine WL.nil ?_
  refine WC.seq ?_
  refine WC.cond rfl (fun hc0 => ?_) (fun hc0 => ?_)
  ·simp only [decide_eq_true_eq, decide_eq_false_iff_not] at hc0
   refine WC.skip ?_
   refine WC.seq ?_
   refine WC.block ?_
   refine WC.seq ?_
   have hjm : j < m := by omega
   have hrd2 : Rd K (Cells g 3 (nats .i64 (layTo out ps at_ by_ j)) :: F) (A.map (·.add ((j : Int).toNat * 1))) (.int .i64 (ps.getD j 0 : Nat)) := by
     rw [show (j : Int).toNat = j by omega]; exact (hs.nat_rd (by omega)).up
   have hsm := layTo_small (at_ := at_) (by_ := by_) ho hp j
   have hpj := hp.at_ (by decide) j
   refine WC.region ?_
   refine WL.mv rfl rfl ?_
   refine WL.val (V.idxS st42 (OV.p rfl) (OV.p rfl) (fun hc => by omega) (fun hc => hrd2)) rfl ?_
   refine WL.val (V.load Tryz.isAgg3 (OV.p rfl) (fun hc => hrd2)) rfl ?_
   refine WL.sg rfl rfl ?_
   refine WL.sg rfl rfl ?_
   refine WL.nil ?_
   refine WC.region ?_
   refine WL.mv rfl rfl ?_
   refine WL.mv rfl rfl ?_
   refine WL.mv rfl rfl ?_
   refine WL.val (V.val_eq (v' := .int .i64 ((at_ + j : Nat) : Int)) (V.addI (OV.p rfl) (OV.p rfl) (fun _ => by omega)) (fun _ => by simp)) rfl ?_
   refine WL.mv rfl rfl ?_
   refine WL.mv rfl rfl ?_
   refine WL.call (vs := [_, _]) Tryz.call220 ⟨OV.p rfl, OV.p rfl, trivial⟩ (poly_mul hpj hby) rfl ?_
   rintro _ H0 ⟨rfl, h0⟩
   subst H0
   refine WL.callV (first := []) (vs := [_, _]) (captured := [ptr b5 0]) Tryz.call218 (OV.p rfl) ⟨OV.p rfl, OV.p rfl, trivial⟩ (poly_put (N := N) (cap := cap) (by rw [layTo_length]; exact hN) (by omega) hsm (gmul_lt hpj) h5 hcap) rfl ?_
   rintro v1 _ rfl
   refine WL.nil ?_
   refine WC.region ?_
   refine WL.ad rfl rfl rfl ?_
   refine WL.mv rfl rfl ?_
   refine WL.nil ?_
   refine ⟨rfl, ?_⟩
   exact ⟨j + 1, (by show j + 1 ≤ m; omega), (by show m - (j + 1) < m - j; omega), .cons rfl (.cons rfl (.cons rfl (.cons rfl (.cons rfl (.cons (look_eq rfl (by simp)) (.nil _)))))), fun w h => h⟩
  ·simp only [decide_eq_true_eq, decide_eq_false_iff_not] at hc0
   refine WC.exit ?_
   obtain rfl : j = m := by omega
   exact BodyQ.normal (H' := Cells g _ _ :: F) (Res.none rfl) (fun w h => h) rfl
end
end Go.Proofs.YtohkefolnmcjnaaGreat
namespace Go.Proofs.YtohkefolnmcjnaaGreat
open Go.Sl Go.RowKit
set_option linter.unusedVariables false
set_option linter.unusedSimpArgs false
set_option maxRecDepth 20000
section
variable {K : World} {F : List Assn}
theorem poly_fill {g b2 b3 b5 N cap q cap' m capp : Nat} {A B : Option Addr} {ps qs : List Nat} (hN : ps.length + qs.length = N) (hs : Seq K F A m 1 (nats .i64 ps)) (hq : Seq K F B q 1 (nats .i64 qs)) (hp8 : Small 8192 ps) (hq8 : Small 8192 qs) (hcap : N ≤ 1000000)
    (h2 : Rd K F (some ⟨b2, 0, none⟩) (.slice A m capp)) (h3 : Rd K F (some ⟨b3, 0, none⟩) (.slice B q cap')) (h5 : Rd K F (some ⟨b5, 0, none⟩) (.slice (some ⟨g, 0, none⟩) N cap)) :
    Does Tryz.prog 215 #[.func (.func 218) #[] #[ptr b5 0], ptr b2 0, ptr b3 0] K (Cells g 3 (List.replicate N (.int .i64 0)) :: F)
      (fun v H' => H' = Cells g 3 (nats .i64 (mulFull ps qs)) :: F) := by
  have hl : ps.length = m := by simpa [nats] using hs.len
  have hql : qs.length = q := by simpa [nats] using hq.len
  refine Does.enter Tryz.func215 rfl Tryz.ntmps215 rfl ?_
  simp only [env0, Nat.reduceAdd]
  refine WC.sr ?_
  refine WL.val (V.load Tryz.isAgg42 (OV.p rfl) (fun hc => h2.up)) rfl ?_
  refine WL.val (V.len (t := 42) Tryz.runUnderlying42 (OV.p rfl)) rfl ?_
  refine WL.mv rfl rfl ?_
  refine WL.nil ?_
  refine WC.block ?_
  refine WC.loop (σ := Nat) (fun j => [(0, .func (.func 218) #[] #[ptr b5 0]), (2, ptr b3 0), (6, .slice A m capp), (7, .int .i64 (m : Int)), (8, .int .i64 (j : Int))]) (fun j => Cells g 3 (nats .i64 (mulTo ps qs j)) :: F) (fun j => j ≤ m) (fun j => m - j) 0 (Nat.zero_le _) (.cons rfl (.cons rfl (.cons rfl (.cons rfl (.cons rfl (.nil _)))))) (fun w h => Sat.cells_eq h (by rw [mulTo, hN, nats_replicate]; rfl)) ?_
  rintro j hj
  refine WC.sr ?_
  refine WL.val (V.lss (OV.p rfl) (OV.p rfl)) rfl ?_
  refine WL.nil ?_
  refine WC.seq ?_
  refine WC.cond rfl (fun hc0 => ?_) (fun hc0 => ?_)
  ·simp only [decide_eq_true_eq, decide_eq_false_iff_not] at hc0
   refine WC.skip ?_
   refine WC.seq ?_
   refine WC.block ?_
   refine WC.seq ?_
   have hjm : j < m := by omega
   have hrd2 : Rd K (Cells g 3 (nats .i64 (mulTo ps qs j)) :: F) (A.map (·.add ((j : Int).toNat * 1))) (.int .i64 (ps.getD j 0 : Nat)) := by
     rw [show (j : Int).toNat = j by omega]; exact (hs.nat_rd (by omega)).up
   have hsm := mulTo_small (ps := ps) hq8 j
   refine WC.region ?_
   refine WL.mv rfl rfl ?_
   refine WL.val (V.idxS st42 (OV.p rfl) (OV.p rfl) (fun hc => by omega) (fun hc => hrd2)) rfl ?_
   refine WL.val (V.load Tryz.isAgg3 (OV.p rfl) (fun hc => hrd2)) rfl ?_
   refine WL.sg rfl rfl ?_
   refine WL.sg rfl rfl ?_
   refine WL.nil ?_
   refine WC.region ?_
   refine WL.mv rfl rfl ?_
   refine WL.val (V.load Tryz.isAgg42 (OV.p rfl) (fun hc => h3.up)) rfl ?_
   refine WL.mv rfl rfl ?_
   refine WL.mv rfl rfl ?_
   refine WL.call (vs := [_, _, _, _]) Tryz.call216 ⟨OV.p rfl, OV.p rfl, OV.p rfl, OV.p rfl, trivial⟩ (poly_lay (N := N) (cap := cap) (by rw [mulTo_length]; exact hN) hsm hq hq8 (by omega) (hp8.at_ (by decide) j) h5 hcap) rfl ?_
   rintro v1 _ rfl
   refine WL.nil ?_
   refine WC.region ?_
   refine WL.ad rfl rfl rfl ?_
   refine WL.mv rfl rfl ?_
   refine WL.nil ?_
   refine ⟨rfl, ?_⟩
   exact ⟨j + 1, (by show j + 1 ≤ m; omega), (by show m - (j + 1) < m - j; omega), .cons rfl (.cons rfl (.cons rfl (.cons rfl (.cons (look_eq rfl (by simp)) (.nil _))))), fun w h => Sat.cells_eq h (by rw [mulTo, hql])⟩
  ·simp only [decide_eq_true_eq, decide_eq_false_iff_not] at hc0
   refine WC.exit ?_
   obtain rfl : j = m := by omega
   exact BodyQ.normal (H' := Cells g _ _ :: F) (Res.none rfl) (fun w h => Sat.cells_eq h (by unfold mulFull; rw [hl])) rfl
theorem poly_buildMul {b2 b3 N q cap' m capp : Nat} {A B : Option Addr} {ps qs : List Nat} (hN : ps.length + qs.length = N) (hs : Seq K F A m 1 (nats .i64 ps)) (hq : Seq K F B q 1 (nats .i64 qs)) (hp8 : Small 8192 ps) (hq8 : Small 8192 qs) (hcap : N ≤ 1000000)
    (h2 : Rd K F (some ⟨b2, 0, none⟩) (.slice A m capp)) (h3 : Rd K F (some ⟨b3, 0, none⟩) (.slice B q cap')) :
    Does Tryz.prog 214 #[.int .i64 (N : Int), .func (.func 215) #[] #[ptr b2 0, ptr b3 0]] K F
      (fun v H' => ∃ g, v = .slice (some ⟨g, 0, none⟩) (normLen (mulFull ps qs) N) N ∧ H' = Cells g 3 (nats .i64 (mulFull ps qs)) :: F) := by
  have hml : (mulFull ps qs).length = N := by unfold mulFull; rw [mulTo_length, hN]
  refine Does.enter Tryz.func214 rfl Tryz.ntmps214 rfl ?_
  simp only [env0, Nat.reduceAdd]
  refine WC.sr ?_
  refine WL.sg rfl rfl ?_
  refine WL.nil ?_
  refine WC.sr ?_
  refine WL.mv rfl rfl ?_
  refine WL.make1 (m := N) Tryz.underlying42 el3 (OV.p rfl) (OV.p rfl) rfl rfl (by omega) rfl rfl rfl (fun b7 => ?_)
  refine WL.alloc (cs := [(.slice none 0 0)]) Tryz.zeroValue42 rfl rfl (fun b5 => ?_)
  refine WL.store (cs := [_]) Tryz.sizeOf42 (OV.p rfl) (OV.p rfl) rfl rfl rfl (by repeat (first | exact Upd.here (cs' := [_]) rfl rfl | apply Upd.up)) ?_
  refine WL.nil ?_
  refine WC.sr ?_
  refine WL.mv rfl rfl ?_
  refine WL.val (V.makeFunc (us := []) (vs := [_]) trivial ⟨OV.p rfl, trivial⟩) rfl ?_
  refine WL.sub (Sub.refl _) (fun w h => h.p1) ?_
  refine WL.callV (first := []) (vs := [_]) (captured := [ptr b2 0, ptr b3 0]) Tryz.call215 (OV.p rfl) ⟨OV.p rfl, trivial⟩ (poly_fill hN hs.up hq.up hp8 hq8 hcap h2.up h3.up (Rd.here rfl)) rfl ?_
  rintro v1 _ rfl
  refine WL.nil ?_
  refine WC.sr ?_
  refine WL.val (V.load Tryz.isAgg42 (OV.p rfl) (fun hc => (Rd.here rfl).up)) rfl ?_
  refine WL.call (vs := [_]) Tryz.call219 ⟨OV.p rfl, trivial⟩ (poly_norm (xs := mulFull ps qs) (Seq.allN hml) (Nat.le_refl _) hcap) rfl ?_
  rintro _ H0 ⟨rfl, h0⟩
  subst H0
  refine WL.sg rfl rfl ?_
  refine WL.nil ?_
  refine WC.ret ?_
  exact BodyQ.ret (H' := Cells b7 _ _ :: F) (Res.tmp rfl rfl) (fun w h => h.drop2) ⟨b7, rfl, rfl⟩
theorem poly_Mul {q cap' m capp : Nat} {A B : Option Addr} {ps qs : List Nat} (hs : Seq K F A m 1 (nats .i64 ps)) (hq : Seq K F B q 1 (nats .i64 qs)) (hp8 : Small 8192 ps) (hq8 : Small 8192 qs) (hcap : ps.length + qs.length ≤ 1000000) :
    Does Tryz.prog 205 #[.slice A m capp, .slice B q cap'] K F
      (fun v H' => ∃ g, v = .tuple #[.slice (some ⟨g, 0, none⟩) (normLen (mulFull ps qs) (ps.length + qs.length)) (ps.length + qs.length), .int .i64 0] ∧ H' = Cells g 3 (nats .i64 (mulFull ps qs)) :: F) := by
  have hl : ps.length = m := by simpa [nats] using hs.len
  have hql : qs.length = q := by simpa [nats] using hq.len
  refine Does.enter Tryz.func205 rfl Tryz.ntmps205 rfl ?_
  simp only [env0, Nat.reduceAdd]
  refine WC.sr ?_
  refine WL.box (cs := [_]) (OV.p rfl) rfl rfl (fun b2 => ?_)
  refine WL.box (cs := [_]) (OV.p rfl) rfl rfl (fun b3 => ?_)
  refine WL.sg rfl rfl ?_
  refine WL.sg rfl rfl ?_
  refine WL.nil ?_
  refine WC.seq ?_
  refine WC.sr ?_
  refine WL.ld Tryz.isAgg42 rfl rfl ?_
  refine WL.ld Tryz.isAgg42 rfl rfl ?_
  refine WL.buildSlice (E := 42) (cs := [_, _]) (vs := [(0, _), (1, _)]) ⟨OV.p rfl, OV.p rfl, trivial⟩ rfl (bsl124_2_0_1 _ _ _ _ _ _) rfl (fun b8 => ?_)
  refine WL.call (vs := [_]) Tryz.call213 ⟨OV.p rfl, trivial⟩ (poly_is (ls := [⟨A, m, capp, ps⟩, ⟨B, q, cap', qs⟩]) (fun p hp => by
    rcases List.mem_cons.1 hp with rfl | hp
    · exact ⟨by repeat (first | exact hs | apply Seq.up), hp8, by show m ≤ 1000000; omega⟩
    · rw [List.mem_singleton] at hp; subst hp
      exact ⟨by repeat (first | exact hq | apply Seq.up), hq8, by show q ≤ 1000000; omega⟩) (Seq.all rfl) (by show 2 ≤ 1000; omega)) rfl ?_
  rintro _ H0 ⟨rfl, h0⟩
  subst H0
  refine WL.val (V.not (OV.p rfl)) rfl ?_
  refine WL.nil ?_
  refine WC.condF' rfl (by first | rfl | (simp; done) | (simp; omega)) ?_
  refine WC.skip ?_
  refine WC.sr ?_
  refine WL.ld Tryz.isAgg42 rfl rfl ?_
  refine WL.val (V.len (t := 42) Tryz.runUnderlying42 (OV.p rfl)) rfl ?_
  refine WL.ld Tryz.isAgg42 rfl rfl ?_
  refine WL.val (V.len (t := 42) Tryz.runUnderlying42 (OV.p rfl)) rfl ?_
  refine WL.val (V.val_eq (v' := .int .i64 ((ps.length + qs.length : Nat) : Int)) (V.addI (OV.p rfl) (OV.p rfl) (fun _ => by omega)) (fun _ => by rw [hl, hql]; simp)) rfl ?_
  refine WL.val (V.makeFunc (us := []) (vs := [_, _]) trivial ⟨OV.p rfl, OV.p rfl, trivial⟩) rfl ?_
  refine WL.call (vs := [_, _]) Tryz.call214 ⟨OV.p rfl, OV.p rfl, trivial⟩ (poly_buildMul (capp := capp) (cap' := cap') rfl (by repeat (first | exact hs | apply Seq.up)) (by repeat (first | exact hq | apply Seq.up)) hp8 hq8 hcap (by repeat (first | exact Rd.here rfl | apply Rd.up)) (by repeat (first | exact Rd.here rfl | apply Rd.up))) rfl ?_
  rintro _ _ ⟨g, rfl, rfl⟩
  refine WL.sg rfl rfl ?_
  refine WL.sg rfl rfl ?_
  refine WL.nil ?_
  refine WC.ret ?_
  exact BodyQ.ret (H' := Cells g _ _ :: F) (Res.tmp2 rfl rfl rfl) (fun w h => h.sel 4 [0] rfl) ⟨g, rfl, rfl⟩
def conj (x : Nat) : Nat → Nat
  | 0 => x
  | k + 1 => gmul (conj x k) (conj x k)
theorem conj_lt {x : Nat} (h : x < 8192) : ∀ k, conj x k < 8192
  | 0 => h
  | k + 1 => gmul_lt (conj_lt h k)
theorem conj_does {r : Option Nat} {σ : Type} {l b1 k : Nat} {i : Int} (hi : -9223372036854775808 ≤ i ∧ i ≤ 9223372036854775807) (hk : 0 < k) (hback : conj (gexp i) k = gexp i) (hno : ∀ j, 0 < j → j < k → conj (gexp i) j ≠ gexp i) (I : Nat → σ → Prop) (M : σ → List Assn) (h1 : ∀ j s, I j s → Rd K (M s) (some ⟨b1, 0, none⟩) (.int .i64 i))
    (hround : ∀ j s, j < k → I j s → YieldsTo Tryz.prog K none l #[.int .i64 (conj (gexp i) j : Nat)] (M s) (fun b H' => b = true ∧ ∃ s', I (j + 1) s' ∧ H' = M s')) (s0 : σ) (h0 : I 0 s0) :
    Does Tryz.prog 212 #[.func (.yield l) #[] #[], ptr b1 0] K (M s0) (fun v H' => ∃ s, I k s ∧ H' = M s) := by
  have hlt := fun j => conj_lt (x := gexp i) (gexp_lt i) j
  refine Does.enterY Tryz.func212 rfl Tryz.ntmps212 rfl ?_
  simp only [env0, Nat.reduceAdd]
  refine WC.sr ?_
  refine WL.val (V.load Tryz.isAgg3 (OV.p rfl) (fun hc => h1 0 s0 h0)) rfl ?_
  refine WL.call (vs := [_]) Tryz.call168 ⟨OV.p rfl, trivial⟩ (gf_Exp i hi) rfl ?_
  rintro _ H0 ⟨rfl, h0⟩
  subst H0
  refine WL.sg rfl rfl ?_
  refine WL.nil ?_
  refine WC.sr ?_
  refine WL.mv rfl rfl ?_
  refine WL.sg rfl rfl ?_
  refine WL.nil ?_
  refine WC.block ?_
  refine WC.loop (σ := Nat × σ) (fun x => [(0, .func (.yield l) #[] #[]), (3, .int .i64 (gexp i : Nat)), (4, .int .i64 (conj (gexp i) x.1 : Nat))]) (fun x => M x.2) (fun x => x.1 < k ∧ I x.1 x.2) (fun x => k - x.1) (0, s0) ⟨hk, h0⟩ (.cons rfl (.cons rfl (.cons rfl (.nil _)))) (fun w h => h) ?_
  rintro ⟨j, s⟩ ⟨hj, hI⟩
  dsimp only at hj hI ⊢
  refine WC.seq ?_
  refine WC.sr ?_
  refine WL.mv rfl rfl ?_
  refine WL.mv rfl rfl ?_
  refine WL.callY (r := none) (l := l) (vs := [_]) (OV.p rfl) ⟨OV.p rfl, trivial⟩ (hround j s hj hI) rfl ?_
  rintro _ _ ⟨rfl, s', hI', rfl⟩
  refine WL.nil ?_
  refine WC.condT' rfl (by first | rfl | (simp; done) | (simp; omega)) ?_
  refine WC.skip ?_
  refine WC.block ?_
  refine WC.sr ?_
  refine WL.mv rfl rfl ?_
  refine WL.mv rfl rfl ?_
  refine WL.call (vs := [_, _]) Tryz.call196 ⟨OV.p rfl, OV.p rfl, trivial⟩ (gf_Mul (hlt j) (hlt j)) rfl ?_
  rintro _ H0 ⟨rfl, h0⟩
  subst H0
  refine WL.mv rfl rfl ?_
  refine WL.xt rfl rfl rfl ?_
  refine WL.xt rfl rfl rfl ?_
  refine WL.sg rfl rfl ?_
  refine WL.nil ?_
  refine WC.sr ?_
  refine WL.mv rfl rfl ?_
  refine WL.mv rfl rfl ?_
  refine WL.val (V.eql (OV.p rfl) (OV.p rfl)) rfl ?_
  refine WL.nil ?_
  refine WC.cond rfl (fun hc1 => ?_) (fun hc1 => ?_)
  ·simp only [decide_eq_true_eq, decide_eq_false_iff_not] at hc1
   have h2 : (conj (gexp i) (j + 1) = gexp i) ∨ ¬ (conj (gexp i) (j + 1) = gexp i) := Decidable.em _
   have h3 : conj (gexp i) (j + 1) = gexp i := by have := hc1; exact Int.ofNat.inj this
   have h4 : j + 1 = k := by
     rcases Nat.lt_or_ge (j + 1) k with h | h
     · exact absurd h3 (hno (j + 1) (by omega) h)
     · omega
   refine WC.ret ?_
   exact BodyQ.ret (H' := M s') (Res.none rfl) (fun w h => h) ⟨s', by rw [← h4]; exact hI', rfl⟩
  ·simp only [decide_eq_true_eq, decide_eq_false_iff_not] at hc1
   have h2 : (conj (gexp i) (j + 1) = gexp i) ∨ ¬ (conj (gexp i) (j + 1) = gexp i) := Decidable.em _
   have h3 : ¬ conj (gexp i) (j + 1) = gexp i := fun h => hc1 (congrArg Int.ofNat h)
   have h4 : j + 1 < k := by
     rcases Nat.lt_or_ge (j + 1) k with h | h
     · exact h
     · have : j + 1 = k := by omega
       rw [this] at h3; exact absurd hback h3
   refine WC.skip ?_
   refine ⟨rfl, ?_⟩
   exact ⟨(j + 1, s'), ⟨h4, hI'⟩, (by show k - (j + 1) < k - j; omega), .cons rfl (.cons rfl (.cons rfl (.nil _))), fun w h => h⟩
end
end Go.Proofs.YtohkefolnmcjnaaGreat
namespace Go.Proofs.YtohkefolnmcjnaaGreat
open Go.Sl Go.RowKit
set_option linter.unusedVariables false
set_option linter.unusedSimpArgs false
set_option maxRecDepth 20000
section
variable {K : World} {F : List Assn}
theorem bpoly_norm {A : Option Addr} {m cap : Nat} {xs : List Nat} (hs : Seq K F A m 1 (nats .u8 xs)) (hcap : m ≤ cap) (hm : m ≤ 1000000) : Tells Tryz.prog 183 #[.slice A m cap] K F (.slice A (normLen xs m) cap) := by
  refine Does.enter Tryz.func183 rfl Tryz.ntmps183 rfl ?_
  simp only [env0, Nat.reduceAdd]
  refine WC.sr ?_
  refine WL.sg rfl rfl ?_
  refine WL.nil ?_
  refine WC.seq ?_
  refine WC.block ?_
  refine WC.loop (σ := Nat) (fun j => [(0, .slice A j cap)]) (fun _ => F) (fun j => j ≤ m ∧ normLen xs j = normLen xs m) (fun j => j) m ⟨Nat.le_refl _, rfl⟩ (.cons rfl (.nil _)) (fun w h => h) ?_
  rintro j ⟨hj, hn⟩
  have hrd : 0 < j → Rd K F (A.map (·.add (((j : Int) - 1).toNat * 1))) (.int .u8 (xs.getD (j - 1) 0 : Nat)) := fun h => by
    rw [show ((j : Int) - 1).toNat = j - 1 by omega]; exact hs.nat_rd (by omega)
  refine WC.seq ?_
  refine WC.sr ?_
  refine WL.mv rfl rfl ?_
  refine WL.val (V.len (t := 38) Tryz.runUnderlying38 (OV.p rfl)) rfl ?_
  refine WL.val (V.gtr (OV.p rfl) (OV.p rfl)) rfl ?_
  refine WL.mv rfl rfl ?_
  refine WL.valG (oj := _) rfl rfl rfl GC.t (V.move (OV.p rfl)) rfl ?_
  refine WL.valG (oj := _) rfl rfl rfl GC.t (V.move (OV.p rfl)) rfl ?_
  refine WL.valG (oj := _) rfl rfl rfl GC.t (V.len (t := 38) Tryz.runUnderlying38 (OV.g rfl id)) rfl ?_
  refine WL.valG (oj := _) rfl rfl rfl GC.t (V.subI (OV.g rfl id) (OV.p rfl) (fun hc => by first | omega | (simp at hc; omega))) rfl ?_
  refine WL.valG (oj := _) rfl rfl rfl GC.t (V.idxS st38 (OV.g rfl id) (OV.g rfl id) (fun hc => by simp at hc; omega) (fun hc => hrd (by simp at hc; omega))) rfl ?_
  refine WL.valG (oj := _) rfl rfl rfl GC.t (V.load Tryz.isAgg5 (OV.g rfl id) (fun hc => hrd (by simp at hc; omega))) rfl ?_
  refine WL.valG (oj := _) rfl rfl rfl GC.t (V.eql (OV.g rfl id) (OV.p rfl)) rfl ?_
  refine WL.val (V.pickAnd (OV.p rfl) (OV.g rfl id)) rfl ?_
  refine WL.nil ?_
  refine WC.cond rfl (fun hc0 => ?_) (fun hc0 => ?_)
  ·simp only [Bool.and_eq_true, Bool.and_eq_false_iff, decide_eq_true_eq, decide_eq_false_iff_not] at hc0
   have h0 := hc0
   refine WC.skip ?_
   refine WC.block ?_
   refine WC.region ?_
   refine WL.mv rfl rfl ?_
   refine WL.mv rfl rfl ?_
   refine WL.val (V.len (t := 38) Tryz.runUnderlying38 (OV.p rfl)) rfl ?_
   refine WL.sb rfl rfl rfl ?_
   refine WL.val (V.val_eq (v' := .slice A (j - 1) cap) (V.slice (l := 0) (h := j - 1) (u := cap) st38 (OV.p rfl) OO.none (OO.some (OV.p rfl) (fun _ => by omega)) OO.none (by simp) (Nat.zero_le _) (by omega) (Nat.le_refl _)) (fun _ => by rw [sub0]; rfl)) rfl ?_
   refine WL.sg rfl rfl ?_
   refine WL.nil ?_
   refine ⟨rfl, ?_⟩
   refine ⟨j - 1, ⟨by show j - 1 ≤ m; omega, ?_⟩, (by show j - 1 < j; omega), .cons rfl (.nil _), fun w h => h⟩
   obtain ⟨i, rfl⟩ : ∃ i, j = i + 1 := ⟨j - 1, by omega⟩
   rw [← hn, normLen, if_pos (by have := h0.2; simp at this ⊢; omega)]; rfl
  ·simp only [Bool.and_eq_true, Bool.and_eq_false_iff, decide_eq_true_eq, decide_eq_false_iff_not] at hc0
   have h0 := hc0
   refine WC.exit ?_
   refine WC.sr ?_
   refine WL.mv rfl rfl ?_
   refine WL.sg rfl rfl ?_
   refine WL.nil ?_
   refine WC.ret ?_
   refine BodyQ.ret (H' := F) (Res.tmp rfl rfl) (fun w h => h) ⟨?_, rfl⟩
   have : normLen xs m = j := by
     rw [← hn]
     cases j with
     | zero => rfl
     | succ i =>
       rw [normLen, if_neg]
       intro hz
       rcases h0 with h1 | h1
       · omega
       · have h2 : ¬ ((xs.getD i 0 : Nat) : Int) = 0 := h1
         exact h2 (by rw [hz]; rfl)
   rw [this]
end
theorem u8_wrap (v : Nat) : IntKind.u8.wrap (v : Int) = ((v % 256 : Nat) : Int) := by
  simp only [IntKind.wrap, IntKind.bits, IntKind.signed]
  simp
theorem shl_u8 {a j : Nat} (ha : a < 8192) : IntKind.u8.wrap (IntKind.i64.wrap ((a : Int) * 2 ^ (min ((j : Int) % 8).toNat IntKind.i64.bits))) = ((a * 2 ^ (j % 8) % 256 : Nat) : Int) := by
  have e1 : min ((j : Int) % 8).toNat IntKind.i64.bits = j % 8 := by show min _ 64 = _; omega
  have e2 : (a : Int) * 2 ^ (j % 8) = ((a * 2 ^ (j % 8) : Nat) : Int) := by simp
  have h1 : 2 ^ (j % 8) ≤ 2 ^ 7 := Nat.pow_le_pow_right (by decide) (by omega)
  have h2 : a * 2 ^ (j % 8) ≤ 8192 * 128 := Nat.mul_le_mul (by omega) h1
  rw [e1, e2, wrap_i64 (by omega), u8_wrap]
def pk (i : Int) : Nat → List Nat
  | 0 => [1]
  | k + 1 => (mulFull (pk i k) [conj (gexp i) k, 1]).take (normLen (mulFull (pk i k) [conj (gexp i) k, 1]) ((pk i k).length + 2))
def packTo (p : List Nat) : Nat → List Nat
  | 0 => List.replicate (p.length / 8 + 1) 0
  | j + 1 => (packTo p j).set (j / 8) ((packTo p j).getD (j / 8) 0 ||| (p.getD j 0 * 2 ^ (j % 8)) % 256)
theorem packTo_length (p : List Nat) : ∀ j, (packTo p j).length = p.length / 8 + 1
  | 0 => List.length_replicate
  | j + 1 => by rw [packTo, List.length_set, packTo_length]
theorem packTo_small (p : List Nat) : ∀ j, Small 256 (packTo p j)
  | 0 => Small.repl (by decide)
  | j + 1 => by
    have ih := packTo_small p j
    rw [packTo]
    exact ih.set (Nat.or_lt_two_pow (n := 8) (ih.at_ (by decide) _) (Nat.mod_lt _ (by decide)))
def packP (p : List Nat) : List Nat := packTo p p.length
def minB (i : Int) : List Nat := (packP (pk i 13)).take (normLen (packP (pk i 13)) ((pk i 13).length / 8 + 1))
def cycleOk (i : Int) : Bool := decide (conj (gexp i) 13 = gexp i) && (List.range 13).all (fun j => j = 0 || decide (conj (gexp i) j ≠ gexp i)) && decide ((pk i 13).length ≤ 1000) && (List.range 14).all (fun j => decide ((pk i j).length ≤ 1000))
theorem cycle_ok : [1, 3, 5, 7, 9, 11, 13, 15].all cycleOk = true := by kernel_rfl
theorem or_u8 {a b : Nat} (ha : a < 256) (hb : b < 256) : bitsOf .or .u8 (a : Int) (b : Int) = ((a ||| b : Nat) : Int) := by
  have h : a ||| b < 2 ^ 8 := Nat.or_lt_two_pow ha hb
  unfold bitsOf
  dsimp only
  rw [ofInt_nat, ofInt_nat, BitVec.toNat_or, BitVec.toNat_ofNat, BitVec.toNat_ofNat]
  have e1 : a % 2 ^ IntKind.u8.bits = a := Nat.mod_eq_of_lt (by show a < 2 ^ 8; omega)
  have e2 : b % 2 ^ IntKind.u8.bits = b := Nat.mod_eq_of_lt (by show b < 2 ^ 8; omega)
  rw [e1, e2]
  show IntKind.u8.wrap _ = _
  simp only [IntKind.wrap, IntKind.bits, IntKind.signed]
  simp
  omega
section
variable {K : World} {F : List Assn}
theorem conj_make (i : Int) : Does Tryz.prog 204 #[.int .i64 i] K F (fun v H' => ∃ b1, v = .func (.func 212) #[] #[ptr b1 0] ∧ H' = Cells b1 3 [.int .i64 i] :: F) := by
  refine Does.enter Tryz.func204 rfl Tryz.ntmps204 rfl ?_
  simp only [env0, Nat.reduceAdd]
  refine WC.sr ?_
  refine WL.box (cs := [_]) (OV.p rfl) rfl rfl (fun b1 => ?_)
  refine WL.sg rfl rfl ?_
  refine WL.nil ?_
  refine WC.sr ?_
  refine WL.val (V.makeFunc (us := []) (vs := [_]) trivial ⟨OV.p rfl, trivial⟩) rfl ?_
  refine WL.sg rfl rfl ?_
  refine WL.nil ?_
  refine WC.ret ?_
  exact BodyQ.ret (H' := Cells b1 _ _ :: F) (Res.tmp rfl rfl) (fun w h => h) ⟨b1, rfl, rfl⟩
theorem bpoly_Minimal {i : Int} (hi : -9223372036854775808 ≤ i ∧ i ≤ 9223372036854775807) (hc : cycleOk i = true) :
    Does Tryz.prog 182 #[.int .i64 i] K F (fun v H' => ∃ g cap, (minB i).length ≤ cap ∧ cap = (pk i 13).length / 8 + 1 ∧ v = .slice (some ⟨g, 0, none⟩) (minB i).length cap ∧ H' = Cells g 5 (nats .u8 (packP (pk i 13))) :: F) := by
  simp only [cycleOk, Bool.and_eq_true, decide_eq_true_eq, List.all_eq_true, List.mem_range, Bool.or_eq_true] at hc
  obtain ⟨⟨⟨hc1, hc2⟩, hc3⟩, hc4⟩ := hc
  have hlt := fun j => conj_lt (x := gexp i) (gexp_lt i) j
  have hps : ∀ j, Small 8192 (pk i j) := fun j => by
    cases j with
    | zero => intro x hx; simp [pk] at hx; omega
    | succ j => exact Small.take (mulTo_small (fun x hx => by simp at hx; rcases hx with rfl | rfl; exact hlt j; decide) _)
  refine Does.enterM Tryz.func182 rfl Tryz.ntmps182 rfl ?_
  simp only [env0, Nat.reduceAdd]
  refine WC.sr ?_
  refine WL.sg rfl rfl ?_
  refine WL.nil ?_
  refine WC.sr ?_
  refine WL.buildSlice (E := 3) (cs := [_]) (vs := [(0, _)]) ⟨OV.p rfl, trivial⟩ rfl (bsl42_1_0 _) rfl (fun b8 => ?_)
  refine WL.alloc (cs := [(.slice none 0 0)]) Tryz.zeroValue42 rfl rfl (fun b3 => ?_)
  refine WL.store (cs := [_]) Tryz.sizeOf42 (OV.p rfl) (OV.p rfl) rfl rfl rfl (by repeat (first | exact Upd.here (cs' := [_]) rfl rfl | apply Upd.up)) ?_
  refine WL.nil ?_
  refine WC.seq ?_
  refine WC.sr ?_
  refine WL.mv rfl rfl ?_
  refine WL.call (vs := [_]) Tryz.call204 ⟨OV.p rfl, trivial⟩ (conj_make i) rfl ?_
  rintro _ _ ⟨b1, rfl, rfl⟩
  refine WL.nil ?_
  refine WC.block ?_
  obtain ⟨M0, hM0⟩ : ∃ M0 : Nat × List Nat × Nat × Nat → List Assn, M0 = fun s => Cells b3 42 [.slice (some ⟨s.1, 0, none⟩) s.2.2.1 s.2.2.2] :: Cells s.1 3 (nats .i64 s.2.1) :: Cells b1 3 [.int .i64 i] :: F := ⟨_, rfl⟩
  obtain ⟨I0, hI0⟩ : ∃ I0 : Nat → Nat × List Nat × Nat × Nat → Prop, I0 = fun j s => s.2.1.take s.2.2.1 = pk i j ∧ s.2.2.1 ≤ s.2.1.length ∧ s.2.2.1 ≤ s.2.2.2 := ⟨_, rfl⟩
  refine WC.range (gf := 212) (lb := [ptr b1 0]) (Done := fun H1 => ∃ s, I0 13 s ∧ H1 = M0 s) (X := fun _ _ => False) rfl Tryz.call212 (fun r l e1 e2 e3 hA => ?_) (fun D H1 hd => ?_) (fun D c H1 h => h.elim)
  suffices hround : ∀ j s, j < 13 → I0 j s → YieldsTo Tryz.prog K none l #[.int .i64 (conj (gexp i) j : Nat)] (r.A l .ready none :: DefA r.D :: M0 s) (fun b H' => b = true ∧ ∃ s', I0 (j + 1) s' ∧ H' = r.A l .ready none :: DefA r.D :: M0 s') from by
    have hconj : Does Tryz.prog 212 #[.func (.yield l) #[] #[], ptr b1 0] K (r.A l .ready none :: DefA r.D :: M0 (b8, [1], 1, 1)) (fun v H' => ∃ s, I0 13 s ∧ H' = r.A l .ready none :: DefA r.D :: M0 s) :=
      conj_does (r := none) hi (by decide) hc1 (fun j h1 h2 => by rcases hc2 j h2 with h | h; omega; exact h) I0 (fun s => r.A l .ready none :: DefA r.D :: M0 s) (fun j s h => by rw [hM0]; exact (Rd.here rfl).up.up.up.up) hround (b8, [1], 1, 1) (by rw [hI0]; exact ⟨rfl, Nat.le_refl _, Nat.le_refl _⟩)
    exact (hconj.sat fun w h => by rw [hM0]; exact h.sel 5 [0, 1, 3, 4, 2] rfl).mono fun v H' ⟨s, hs, e⟩ => ⟨none, _, e, s, hs, rfl⟩
  rintro j ⟨g, full, m1, cp⟩ hj hI
  refine YieldsTo.mono (yields_round (n := 46) (args := [.int .i64 (conj (gexp i) j : Nat)]) (post := fun jj H1 => jj = none ∧ ∃ s, I0 (j + 1) s ∧ H1 = DefA r.D :: M0 s) (by rw [e1]; rfl) (by rw [e1]; simp) hA ?_) (fun b H' ⟨jj, H1, hb, ⟨hj, s, hs, e⟩, eH⟩ => by
    subst hj hb e eH
    exact ⟨rfl, s, hs, rfl⟩)
  rw [e1, e2]
  rw [hI0] at hI
  obtain ⟨hI1, hI2, hI3⟩ := hI
  dsimp only at hI1 hI2 hI3
  rw [hM0, hI0]
  dsimp only
  refine WC.sub (E := (11, _) :: _) (Sub.refl _) (fun w h => h) ?_
  have hpl : (pk i j).length = m1 := by rw [← hI1, List.length_take]; omega
  have hp1000 := hc4 j (by omega)
  have hml : (mulFull (pk i j) [conj (gexp i) j, 1]).length = m1 + 2 := by unfold mulFull; rw [mulTo_length, hpl]; rfl
  have hnl := normLen_le (mulFull (pk i j) [conj (gexp i) j, 1]) (m1 + 2)
  have hsq : ∀ {H : List Assn}, Seq K (Cells g 3 (nats .i64 full) :: H) (some ⟨g, 0, none⟩) m1 1 (nats .i64 (pk i j)) := fun {H} => Seq.here (by rw [nats_length, hpl]; omega) (by rw [← hI1, ← nats_take, List.drop_zero]; exact List.take_prefix _ _)
  ·skip
   refine WC.region ?_
   refine WL.sg rfl rfl ?_
   refine WL.nil ?_
   refine ⟨_, fun w h => h, ?_⟩
   rw [e3]
   refine WC.block ?_
   refine WC.region ?_
   refine WL.ld Tryz.isAgg42 rfl rfl ?_
   refine WL.mv rfl rfl ?_
   refine WL.buildSlice (E := 3) (cs := [_, _]) (vs := [(0, _), (1, _)]) ⟨OV.p rfl, OV.p rfl, trivial⟩ rfl (bsl42_2_0_1 _ _) rfl (fun b15 => ?_)
   refine WL.call (vs := [_, _]) Tryz.call205 ⟨OV.p rfl, OV.p rfl, trivial⟩ (poly_Mul (ps := pk i j) (qs := [conj (gexp i) j, 1]) (by repeat (first | exact hsq | apply Seq.up)) (Seq.allN (k := .i64) (xs := [conj (gexp i) j, 1]) rfl) (hps j) (fun x hx => by simp at hx; rcases hx with rfl | rfl; exact hlt j; decide) (by show (pk i j).length + 2 ≤ 1000000; omega)) rfl ?_
   rintro _ _ ⟨g2, rfl, rfl⟩
   refine WL.mv rfl rfl ?_
   refine WL.xt rfl rfl rfl ?_
   refine WL.xt rfl rfl rfl ?_
   refine WL.store (cs := [_]) Tryz.sizeOf42 (OV.p rfl) (OV.p rfl) rfl rfl rfl (by repeat (first | exact Upd.here rfl rfl | apply Upd.up)) ?_
   refine WL.nil ?_
   refine ⟨_, fun w h => h.sel 7 [2, 3, 4, 0, 6] rfl, rfl, (g2, mulFull (pk i j) [conj (gexp i) j, 1], normLen (mulFull (pk i j) [conj (gexp i) j, 1]) ((pk i j).length + 2), (pk i j).length + 2), ⟨rfl, ?_, ?_⟩, rfl⟩
   · show normLen _ _ ≤ (mulFull _ _).length; rw [hml, hpl]; exact hnl
   · show normLen _ _ ≤ (pk i j).length + 2; rw [hpl]; exact hnl
  ·skip
   obtain ⟨⟨g, full, m1, cp⟩, hI, rfl⟩ := hd
   rw [hI0] at hI
   obtain ⟨hI1, hI2, hI3⟩ := hI
   dsimp only at hI1 hI2 hI3
   rw [hM0]
   have hpl : (pk i 13).length = m1 := by rw [← hI1, List.length_take]; omega
   have hsq : ∀ {H : List Assn}, Seq K (Cells g 3 (nats .i64 full) :: H) (some ⟨g, 0, none⟩) m1 1 (nats .i64 (pk i 13)) := fun {H} => Seq.here (by rw [nats_length, hpl]; omega) (by rw [← hI1, ← nats_take, List.drop_zero]; exact List.take_prefix _ _)
   refine WC.sub (E := _) (H' := DefA D :: Cells b3 42 [.slice (some ⟨g, 0, none⟩) m1 cp] :: Cells g 3 (nats .i64 full) :: F) (Sub.refl _) (fun w h => h.sel 4 [0, 1, 2] rfl) ?_
   refine WC.sr ?_
   refine WL.ld Tryz.isAgg42 rfl rfl ?_
   refine WL.val (V.len (t := 42) Tryz.runUnderlying42 (OV.p rfl)) rfl ?_
   refine WL.val (V.quoI (OV.p rfl) (OV.p rfl) (fun hc => by first | omega | (simp at hc; omega))) rfl ?_
   refine WL.ad rfl rfl rfl ?_
   refine WL.make1 (m := m1 / 8 + 1) Tryz.underlying38 el5 (OV.p rfl) (OV.p rfl) (by omega) (by omega) (by omega) rfl rfl rfl (fun b23 => ?_)
   refine WL.sg rfl rfl ?_
   refine WL.nil ?_
   refine WC.seq ?_
   refine WC.sr ?_
   refine WL.ld Tryz.isAgg42 rfl rfl ?_
   refine WL.val (V.len (t := 42) Tryz.runUnderlying42 (OV.p rfl)) rfl ?_
   refine WL.mv rfl rfl ?_
   refine WL.nil ?_
   refine WC.block ?_
   refine WC.loop (σ := Nat) (fun j => [(5, .slice (some ⟨b23, 0, none⟩) (m1 / 8 + 1) (m1 / 8 + 1)), (24, .slice (some ⟨g, 0, none⟩) m1 cp), (25, .int .i64 (m1 : Int)), (26, .int .i64 (j : Int))]) (fun j => Cells b23 5 (nats .u8 (packTo (pk i 13) j)) :: DefA D :: Cells g 3 (nats .i64 full) :: F) (fun j => j ≤ m1) (fun j => m1 - j) 0 (Nat.zero_le _) (.cons rfl (.cons rfl (.cons rfl (.cons rfl (.nil _))))) (fun w h => (h.sel 4 [0, 1, 3] rfl).cells_eq (by rw [packTo, hpl, nats_replicate]; rfl)) ?_
   rintro j hj
   refine WC.sr ?_
   refine WL.val (V.lss (OV.p rfl) (OV.p rfl)) rfl ?_
   refine WL.nil ?_
   refine WC.seq ?_
   refine WC.cond rfl (fun hc0 => ?_) (fun hc0 => ?_)
   ·simp only [decide_eq_true_eq, decide_eq_false_iff_not] at hc0
    refine WC.skip ?_
    refine WC.seq ?_
    refine WC.block ?_
    refine WC.seq ?_
    have hjm : j < m1 := by omega
    have hrd2 : ∀ {X Y : Assn}, Rd K (X :: Y :: Cells g 3 (nats .i64 full) :: F) ((some ⟨g, 0, none⟩ : Option Addr).map (·.add ((j : Int).toNat * 1))) (.int .i64 ((pk i 13).getD j 0 : Nat)) := fun {X Y} => by
      rw [show (j : Int).toNat = j by omega]; exact (hsq.nat_rd (by omega)).up.up
    have hpj := (hps 13).at_ (by decide) j
    have hto := packTo_length (pk i 13) j
    have hgo : (nats .u8 (packTo (pk i 13) j))[0 + ((j : Int) / 8).toNat * 1]? = some (.int .u8 ((packTo (pk i 13) j).getD (j / 8) 0 : Nat)) := by rw [show 0 + ((j : Int) / 8).toNat * 1 = j / 8 by omega]; exact nats_get _ _ (by omega)
    refine WC.region ?_
    refine WL.mv rfl rfl ?_
    refine WL.val (V.idxS st42 (OV.p rfl) (OV.p rfl) (fun hc => by omega) (fun hc => hrd2)) rfl ?_
    refine WL.val (V.load Tryz.isAgg3 (OV.p rfl) (fun hc => hrd2)) rfl ?_
    refine WL.sg rfl rfl ?_
    refine WL.sg rfl rfl ?_
    refine WL.nil ?_
    refine WC.regionA (DefA D :: Cells g 3 (nats .i64 full) :: F) (by kernel_rfl) ?_
    refine WA.t 0 rfl (V.move (OV.p rfl)) ?_
    refine WA.t 1 rfl (V.move (OV.p rfl)) ?_
    refine WA.t 2 rfl (V.quoI (OV.p rfl) (OV.p rfl) (fun hc => by first | omega | (simp at hc; omega))) ?_
    refine WA.t 3 rfl (V.idxB st38 (OV.p rfl) (OV.p rfl) (fun hc => by omega)) ?_
    refine WA.t 5 rfl (V.move (OV.p rfl)) ?_
    refine WA.t 6 rfl (V.move (OV.p rfl)) ?_
    refine WA.t 7 rfl (V.remI (OV.p rfl) (OV.p rfl) (fun hc => by first | omega | (simp at hc; omega))) ?_
    refine WA.t 8 rfl (V.shl (OV.p rfl) (OV.p rfl) (by omega)) ?_
    refine WA.t 9 rfl (V.val_eq (v' := .int .u8 (((pk i 13).getD j 0 * 2 ^ (j % 8) % 256 : Nat) : Int)) (V.convI Tryz.runUnderlying3 Tryz.runUnderlying5 (OV.p rfl)) (fun _ => by rw [shl_u8 hpj])) ?_
    refine WA.o 4 rfl ?_
    refine WL.val (V.load Tryz.isAgg5 (OV.p rfl) (fun hc => Rd.here hgo)) rfl ?_
    refine WL.nil ?_
    refine WA.t 10 rfl (V.val_eq (v' := .int .u8 (((packTo (pk i 13) j).getD (j / 8) 0 ||| ((pk i 13).getD j 0 * 2 ^ (j % 8)) % 256 : Nat) : Int)) (V.or (OV.p rfl) (OV.p rfl)) (fun _ => by rw [or_u8 ((packTo_small _ j).at_ (by decide) _) (Nat.mod_lt _ (by decide))])) ?_
    refine WA.t 11 rfl (V.idxB st38 (OV.p rfl) (OV.p rfl) (fun hc => by omega)) ?_
    refine WA.o 12 rfl ?_
    refine WL.store (cs := [_]) Tryz.sizeOf5 (OV.p rfl) (OV.p rfl) rfl rfl rfl (Upd.at_ (by rw [nats_length]; omega)) ?_
    refine WL.nil ?_
    refine WA.fin ?_
    refine WC.region ?_
    refine WL.ad rfl rfl rfl ?_
    refine WL.mv rfl rfl ?_
    refine WL.nil ?_
    refine ⟨rfl, ?_⟩
    refine ⟨j + 1, (by show j + 1 ≤ m1; omega), (by show m1 - (j + 1) < m1 - j; omega), .cons rfl (.cons rfl (.cons rfl (.cons (look_eq rfl (by simp)) (.nil _)))), fun w h => Sat.cells_eq h ?_⟩
    rw [show 0 + ((j : Int) / 8).toNat * 1 = j / 8 by omega, nats_set, packTo]
   ·simp only [decide_eq_true_eq, decide_eq_false_iff_not] at hc0
    refine WC.exit ?_
    refine WC.seq ?_
    obtain rfl : j = m1 := by omega
    have hpp : packTo (pk i 13) j = packP (pk i 13) := by unfold packP; rw [hpl]
    rw [hpp]
    have hppl : (packP (pk i 13)).length = j / 8 + 1 := by unfold packP; rw [packTo_length, hpl]
    refine WC.region ?_
    refine WL.mv rfl rfl ?_
    refine WL.call (vs := [_]) Tryz.call183 ⟨OV.p rfl, trivial⟩ (bpoly_norm (xs := packP (pk i 13)) (Seq.allN hppl) (Nat.le_refl _) (by omega)) rfl ?_
    rintro _ H0 ⟨rfl, h0⟩
    subst H0
    refine WL.sg rfl rfl ?_
    refine WL.nil ?_
    refine WC.ret ?_
    have hmb : (minB i).length = normLen (packP (pk i 13)) (j / 8 + 1) := by
      unfold minB
      have := normLen_le (packP (pk i 13)) (j / 8 + 1)
      rw [List.length_take, hpl, hppl]; omega
    exact BodyQM.retD (Cells b23 5 (nats .u8 (packP (pk i 13))) :: F) (fun w h => h.sel 3 [1, 0] rfl) (Res.tmp rfl rfl) (fun w h => h) ⟨b23, j / 8 + 1, by rw [hmb]; exact normLen_le _ _, by rw [hpl], by rw [hmb], rfl⟩
end
end Go.Proofs.YtohkefolnmcjnaaGreat
