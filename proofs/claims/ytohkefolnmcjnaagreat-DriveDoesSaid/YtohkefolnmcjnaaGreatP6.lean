import Derived.Test.YtohkefolnmcjnaaGreatP5
/- Polynomials over the field (poly): norm, is, lay, build, Mul. -/
namespace Go.Proofs.YtohkefolnmcjnaaGreat
open Go.Sl Go.RowKit
set_option linter.unusedVariables false
set_option linter.unusedSimpArgs false
set_option maxRecDepth 20000

def nats (k : IntKind) (xs : List Nat) : List Value := xs.map fun x : Nat => Value.int k (x : Int)
theorem nats_length (k : IntKind) (xs : List Nat) : (nats k xs).length = xs.length := by simp [nats]
theorem nats_get (k : IntKind) (xs : List Nat) {i : Nat} (h : i < xs.length) : (nats k xs)[i]? = some (.int k (xs.getD i 0 : Nat)) := by simp [nats, List.getD, h]
theorem nats_set (k : IntKind) (xs : List Nat) (i x : Nat) : (nats k xs).set i (.int k (x : Int)) = nats k (xs.set i x) := by simp [nats, List.map_set]
theorem nats_one (k : IntKind) (xs : List Nat) : ∀ u ∈ nats k xs, u.oneCell' = true := by simp [nats, Value.oneCell']
theorem nats_replicate (k : IntKind) (m x : Nat) : nats k (List.replicate m x) = List.replicate m (.int k (x : Int)) := by simp [nats]
theorem nats_append (k : IntKind) (xs ys : List Nat) : nats k (xs ++ ys) = nats k xs ++ nats k ys := by simp [nats]
theorem nats_take (k : IntKind) (xs : List Nat) (n : Nat) : (nats k xs).take n = nats k (xs.take n) := by simp [nats]
theorem nats_drop (k : IntKind) (xs : List Nat) (n : Nat) : (nats k xs).drop n = nats k (xs.drop n) := by simp [nats]
def Small (b : Nat) (xs : List Nat) : Prop := ∀ x ∈ xs, x < b
theorem Small.at_ {b : Nat} {xs : List Nat} (h : Small b xs) (hb : 0 < b) (i : Nat) : xs.getD i 0 < b := by
  by_cases hi : i < xs.length
  · have := h xs[i] (List.getElem_mem hi)
    simpa [List.getD, hi] using this
  · simp [List.getD, List.getElem?_eq_none (Nat.le_of_not_lt hi), hb]
theorem Small.set {b : Nat} {xs : List Nat} (h : Small b xs) {i x : Nat} (hx : x < b) : Small b (xs.set i x) := fun y hy => by
  rcases List.mem_or_eq_of_mem_set hy with h1 | rfl
  · exact h y h1
  · exact hx
theorem Small.repl {b n x : Nat} (hx : x < b) : Small b (List.replicate n x) := fun y hy => by rw [List.eq_of_mem_replicate hy]; exact hx
theorem Small.take {b n : Nat} {xs : List Nat} (h : Small b xs) : Small b (xs.take n) := fun y hy => h y (List.mem_of_mem_take hy)
theorem Small.append {b : Nat} {xs ys : List Nat} (h : Small b xs) (h' : Small b ys) : Small b (xs ++ ys) := fun y hy => (List.mem_append.1 hy).elim (h y) (h' y)
theorem _root_.Go.Sl.Seq.nat_rd {K : World} {H : List Assn} {A : Option Addr} {m : Nat} {k : IntKind} {xs : List Nat} (h : Seq K H A m 1 (nats k xs)) {j : Nat} (hj : j < m) : Rd K H (A.map (·.add (j * 1))) (.int k (xs.getD j 0 : Nat)) := by
  have hl : xs.length = m := by simpa [nats] using h.len
  have := h.rd j _ (nats_get k xs (by omega))
  simpa using this
theorem _root_.Go.Sl.Seq.allN {K : World} {H : List Assn} {b T m : Nat} {k : IntKind} {xs : List Nat} (hl : xs.length = m) : Seq K (Cells b T (nats k xs) :: H) (some ⟨b, 0, none⟩) m 1 (nats k xs) := Seq.all (by simp [nats, hl])
/-- Without noughts at the end: how long. -/
def normLen (xs : List Nat) : Nat → Nat
  | 0 => 0
  | k + 1 => if xs.getD k 0 = 0 then normLen xs k else k + 1
theorem normLen_le (xs : List Nat) : ∀ k, normLen xs k ≤ k
  | 0 => Nat.le_refl _
  | k + 1 => by
    have := normLen_le xs k
    rw [normLen]
    split <;> omega
def layTo (out p : List Nat) (at_ by_ : Nat) : Nat → List Nat
  | 0 => out
  | j + 1 => (layTo out p at_ by_ j).set (at_ + j) ((layTo out p at_ by_ j).getD (at_ + j) 0 ^^^ gmul (p.getD j 0) by_)
theorem layTo_length (out p : List Nat) (at_ by_ : Nat) : ∀ j, (layTo out p at_ by_ j).length = out.length
  | 0 => rfl
  | j + 1 => by rw [layTo, List.length_set, layTo_length]
theorem layTo_small {out p : List Nat} {at_ by_ : Nat} (h : Small 8192 out) (hp : Small 8192 p) : ∀ j, Small 8192 (layTo out p at_ by_ j)
  | 0 => h
  | j + 1 => by
    have ih := layTo_small (at_ := at_) (by_ := by_) h hp j
    rw [layTo]
    exact ih.set (xor_lt (k := 13) (ih.at_ (by decide) _) (gmul_lt (hp.at_ (by decide) _)))
def mulTo (ps qs : List Nat) : Nat → List Nat
  | 0 => List.replicate (ps.length + qs.length) 0
  | i + 1 => layTo (mulTo ps qs i) qs i (ps.getD i 0) qs.length
def mulFull (ps qs : List Nat) : List Nat := mulTo ps qs ps.length
theorem mulTo_length (ps qs : List Nat) : ∀ i, (mulTo ps qs i).length = ps.length + qs.length
  | 0 => List.length_replicate
  | i + 1 => by rw [mulTo, layTo_length, mulTo_length]
theorem mulTo_small {ps qs : List Nat} (hq : Small 8192 qs) : ∀ i, Small 8192 (mulTo ps qs i)
  | 0 => Small.repl (by decide)
  | i + 1 => layTo_small (mulTo_small hq i) hq _

section
variable {K : World} {F : List Assn}
theorem poly_norm {A : Option Addr} {m cap : Nat} {xs : List Nat} (hs : Seq K F A m 1 (nats .i64 xs)) (hcap : m ≤ cap) (hm : m ≤ 1000000) : Tells Tryz.prog 219 #[.slice A m cap] K F (.slice A (normLen xs m) cap) := by
  refine Does.enter Tryz.func219 rfl Tryz.ntmps219 rfl ?_
  simp only [env0, Nat.reduceAdd]
  refine WC.sr ?_
  refine WL.val (V.assign (OV.p rfl)) rfl ?_
  refine WL.nil ?_
  refine WC.seq ?_
  refine WC.block ?_
  refine WC.loop (σ := Nat) (fun j => [(0, .slice A j cap)]) (fun _ => F) (fun j => j ≤ m ∧ normLen xs j = normLen xs m) (fun j => j) m ⟨Nat.le_refl _, rfl⟩ (.cons rfl (.nil _)) (fun w h => h) ?_
  rintro j ⟨hj, hn⟩
  have hrd : 0 < j → Rd K F (A.map (·.add (((j : Int) - 1).toNat * 1))) (.int .i64 (xs.getD (j - 1) 0 : Nat)) := fun h => by
    rw [show ((j : Int) - 1).toNat = j - 1 by omega]; exact hs.nat_rd (by omega)
  refine WC.seq ?_
  refine WC.sr ?_
  refine WL.val (V.move (OV.p rfl)) rfl ?_
  refine WL.val (V.len (t := 42) Tryz.runUnderlying42 (OV.p rfl)) rfl ?_
  refine WL.val (V.gtr (OV.p rfl) (OV.p rfl)) rfl ?_
  refine WL.val (V.move (OV.p rfl)) rfl ?_
  refine WL.valG (oj := _) rfl rfl rfl GC.t (V.move (OV.p rfl)) rfl ?_
  refine WL.valG (oj := _) rfl rfl rfl GC.t (V.move (OV.p rfl)) rfl ?_
  refine WL.valG (oj := _) rfl rfl rfl GC.t (V.len (t := 42) Tryz.runUnderlying42 (OV.g rfl id)) rfl ?_
  refine WL.valG (oj := _) rfl rfl rfl GC.t (V.subI (OV.g rfl id) (OV.p rfl) (fun hc => by first | omega | (simp at hc; omega))) rfl ?_
  refine WL.valG (oj := _) rfl rfl rfl GC.t (V.idxS (m := j) (cap := cap) st42 (OV.g rfl id) (OV.g rfl id) (fun hc => by simp at hc; omega) (fun hc => hrd (by simp at hc; omega))) rfl ?_
  refine WL.valG (oj := _) rfl rfl rfl GC.t (V.load Tryz.isAgg3 (OV.g rfl id) (fun hc => hrd (by simp at hc; omega))) rfl ?_
  refine WL.valG (oj := _) rfl rfl rfl GC.t (V.eql (OV.g rfl id) (OV.p rfl)) rfl ?_
  refine WL.val (V.pickAnd (OV.p rfl) (OV.g rfl id)) rfl ?_
  refine WL.nil ?_
  refine WC.cond rfl (fun hc0 => ?_) (fun hc0 => ?_)
  ·simp only [Bool.and_eq_true, Bool.and_eq_false_iff, decide_eq_true_eq, decide_eq_false_iff_not] at hc0
   have h0 := hc0
   refine WC.skip ?_
   refine WC.block ?_
   refine WC.region ?_
   refine WL.val (V.move (OV.p rfl)) rfl ?_
   refine WL.val (V.move (OV.p rfl)) rfl ?_
   refine WL.val (V.len (t := 42) Tryz.runUnderlying42 (OV.p rfl)) rfl ?_
   refine WL.val (V.subI (OV.p rfl) (OV.p rfl) (fun hc => by first | omega | (simp at hc; omega))) rfl ?_
   refine WL.val (V.val_eq (v' := .slice A (j - 1) cap) (V.slice (l := 0) (h := j - 1) (u := cap) st42 (OV.p rfl) OO.none (OO.some (OV.p rfl) (fun _ => by omega)) OO.none (by simp) (Nat.zero_le _) (by omega) (Nat.le_refl _)) (fun _ => by rw [sub0]; rfl)) rfl ?_
   refine WL.val (V.assign (OV.p rfl)) rfl ?_
   refine WL.nil ?_
   refine ⟨rfl, ?_⟩
   refine ⟨j - 1, ⟨by show j - 1 ≤ m; omega, ?_⟩, (by show j - 1 < j; omega), .cons rfl (.nil _), fun w h => h⟩
   obtain ⟨i, rfl⟩ : ∃ i, j = i + 1 := ⟨j - 1, by omega⟩
   rw [← hn, normLen, if_pos (by have := h0.2; simp at this ⊢; omega)]; rfl
  ·simp only [Bool.and_eq_true, Bool.and_eq_false_iff, decide_eq_true_eq, decide_eq_false_iff_not] at hc0
   have h0 := hc0
   refine WC.exit ?_
   refine WC.sr ?_
   refine WL.val (V.move (OV.p rfl)) rfl ?_
   refine WL.val (V.assign (OV.p rfl)) rfl ?_
   refine WL.nil ?_
   refine WC.ret ?_
   refine BodyQ.ret (H' := F) (Res.tmp rfl rfl) (fun w h => h) ⟨?_, rfl⟩
   have : normLen xs m = j := by
     rw [← hn]
     cases j with
     | zero => rfl
     | succ i =>
       rw [normLen, if_neg]
       intro hz
       rcases h0 with h1 | h1
       · omega
       · have h2 : ¬ ((xs.getD i 0 : Nat) : Int) = 0 := h1
         exact h2 (by rw [hz]; rfl)
   rw [this]
/-- One list handed in. -/
structure PList where
  A : Option Addr
  m : Nat
  cap : Nat
  xs : List Nat
abbrev PList.v (p : PList) : Value := .slice p.A p.m p.cap
theorem poly_is {b : Nat} {ls : List PList} (hls : ∀ p ∈ ls, Seq K F p.A p.m 1 (nats .i64 p.xs) ∧ Small 8192 p.xs ∧ p.m ≤ 1000000) (hR : Seq K F (some ⟨b, 0, none⟩) ls.length 1 (ls.map PList.v)) (hll : ls.length ≤ 1000) :
    Tells Tryz.prog 213 #[.slice (some ⟨b, 0, none⟩) ls.length ls.length] K F (.bool true) := by
  refine Does.enter Tryz.func213 rfl Tryz.ntmps213 rfl ?_
  simp only [env0, Nat.reduceAdd]
  refine WC.sr ?_
  refine WL.val (V.assign (OV.p rfl)) rfl ?_
  refine WL.nil ?_
  refine WC.seq ?_
  refine WC.sr ?_
  refine WL.val (V.move (OV.p rfl)) rfl ?_
  refine WL.val (V.len (t := 124) Tryz.runUnderlying124 (OV.p rfl)) rfl ?_
  refine WL.val (V.move (OV.p rfl)) rfl ?_
  refine WL.nil ?_
  refine WC.block ?_
  refine WC.loop (σ := Nat) (fun i => [(9, .slice (some ⟨b, 0, none⟩) ls.length ls.length), (10, .int .i64 (ls.length : Int)), (11, .int .i64 (i : Int))]) (fun _ => F) (fun i => i ≤ ls.length) (fun i => ls.length - i) 0 (Nat.zero_le _) (.cons rfl (.cons rfl (.cons rfl (.nil _)))) (fun w h => h) ?_
  rintro i hi
  refine WC.sr ?_
  refine WL.val (V.lss (OV.p rfl) (OV.p rfl)) rfl ?_
  refine WL.nil ?_
  refine WC.seq ?_
  refine WC.cond rfl (fun hc0 => ?_) (fun hc0 => ?_)
  ·simp only [decide_eq_true_eq, decide_eq_false_iff_not] at hc0
   refine WC.skip ?_
   refine WC.seq ?_
   refine WC.block ?_
   refine WC.seq ?_
   obtain ⟨p, hp⟩ : ∃ p, ls[i]? = some p := ⟨_, List.getElem?_eq_getElem (by omega)⟩
   obtain ⟨hps, hpb, hpm⟩ := hls p (List.mem_of_getElem? hp)
   have hpl : p.xs.length = p.m := by simpa [nats] using hps.len
   have hrd : Rd K F (some ⟨b, 0 + (i : Int).toNat * 1, none⟩) p.v := by
     have := hR.rd i p.v (by rw [List.getElem?_map, hp]; rfl)
     rw [show 0 + (i : Int).toNat * 1 = 0 + i by omega]
     simpa [add_mk] using this
   refine WC.region ?_
   refine WL.val (V.idxB st124 (OV.p rfl) (OV.p rfl) (fun hc => by omega)) rfl ?_
   refine WL.val (V.load Tryz.isAgg42 (OV.p rfl) (fun hc => hrd)) rfl ?_
   refine WL.val (V.assign (OV.p rfl)) rfl ?_
   refine WL.nil ?_
   refine WC.sr ?_
   refine WL.val (V.move (OV.p rfl)) rfl ?_
   refine WL.val (V.len (t := 42) Tryz.runUnderlying42 (OV.p rfl)) rfl ?_
   refine WL.val (V.move (OV.p rfl)) rfl ?_
   refine WL.nil ?_
   refine WC.block ?_
   refine WC.loop (σ := Nat) (fun j => [(9, .slice (some ⟨b, 0, none⟩) ls.length ls.length), (10, .int .i64 (ls.length : Int)), (11, .int .i64 (i : Int)), (15, p.v), (16, .int .i64 (p.m : Int)), (17, .int .i64 (j : Int))]) (fun _ => F) (fun j => j ≤ p.m) (fun j => p.m - j) 0 (Nat.zero_le _) (.cons rfl (.cons rfl (.cons rfl (.cons rfl (.cons rfl (.cons rfl (.nil _))))))) (fun w h => h) ?_
   rintro j hj
   refine WC.sr ?_
   refine WL.val (V.lss (OV.p rfl) (OV.p rfl)) rfl ?_
   refine WL.nil ?_
   refine WC.seq ?_
   refine WC.cond rfl (fun hc1 => ?_) (fun hc1 => ?_)
   ·simp only [decide_eq_true_eq, decide_eq_false_iff_not] at hc1
    refine WC.skip ?_
    refine WC.seq ?_
    refine WC.block ?_
    refine WC.seq ?_
    have hrd2 : Rd K F (p.A.map (·.add ((j : Int).toNat * 1))) (.int .i64 (p.xs.getD j 0 : Nat)) := by
      rw [show (j : Int).toNat = j by omega]; exact hps.nat_rd (by omega)
    refine WC.region ?_
    refine WL.val (V.idxS st42 (OV.p rfl) (OV.p rfl) (fun hc => by omega) (fun hc => hrd2)) rfl ?_
    refine WL.val (V.load Tryz.isAgg3 (OV.p rfl) (fun hc => hrd2)) rfl ?_
    refine WL.val (V.assign (OV.p rfl)) rfl ?_
    refine WL.nil ?_
    refine WC.sr ?_
    refine WL.val (V.move (OV.p rfl)) rfl ?_
    refine WL.call (vs := [_, _]) Tryz.call196 ⟨OV.p rfl, OV.p rfl, trivial⟩ (gf_Mul (b := 0) (hpb.at_ (by decide) j) (by decide)) rfl ?_
    rintro _ H0 ⟨rfl, h0⟩
    subst H0
    refine WL.val (V.move (OV.p rfl)) rfl ?_
    refine WL.val (V.extract (OV.p rfl) rfl) rfl ?_
    refine WL.val (V.extract (OV.p rfl) rfl) rfl ?_
    refine WL.val (V.assign (OV.p rfl)) rfl ?_
    refine WL.val (V.assign (OV.p rfl)) rfl ?_
    refine WL.nil ?_
    refine WC.sr ?_
    refine WL.val (V.move (OV.p rfl)) rfl ?_
    refine WL.val (V.neq (OV.p rfl) (OV.p rfl)) rfl ?_
    refine WL.nil ?_
    refine WC.condF' rfl (by first | rfl | (simp; done) | (simp; omega)) ?_
    refine WC.skip ?_
    refine WC.region ?_
    refine WL.val (V.addI (OV.p rfl) (OV.p rfl) (fun hc => by first | omega | (simp at hc; omega))) rfl ?_
    refine WL.val (V.move (OV.p rfl)) rfl ?_
    refine WL.nil ?_
    refine ⟨rfl, ?_⟩
    exact ⟨j + 1, (by show j + 1 ≤ p.m; omega), (by show p.m - (j + 1) < p.m - j; omega), .cons rfl (.cons rfl (.cons rfl (.cons rfl (.cons rfl (.cons (look_eq rfl (by simp)) (.nil _)))))), fun w h => h⟩
   ·simp only [decide_eq_true_eq, decide_eq_false_iff_not] at hc1
    refine WC.exit ?_
    refine WC.region ?_
    refine WL.val (V.addI (OV.p rfl) (OV.p rfl) (fun hc => by first | omega | (simp at hc; omega))) rfl ?_
    refine WL.val (V.move (OV.p rfl)) rfl ?_
    refine WL.nil ?_
    refine ⟨rfl, ?_⟩
    exact ⟨i + 1, (by show i + 1 ≤ ls.length; omega), (by show ls.length - (i + 1) < ls.length - i; omega), .cons rfl (.cons rfl (.cons (look_eq rfl (by simp)) (.nil _))), fun w h => h⟩
  ·simp only [decide_eq_true_eq, decide_eq_false_iff_not] at hc0
   refine WC.exit ?_
   refine WC.sr ?_
   refine WL.val (V.assign (OV.p rfl)) rfl ?_
   refine WL.nil ?_
   refine WC.ret ?_
   exact BodyQ.ret (H' := F) (Res.tmp rfl rfl) (fun w h => h) ⟨rfl, rfl⟩
/-- build's own closure: one place is turned. -/
theorem poly_put {g b5 N cap : Nat} {out : List Nat} {i x : Nat} (hN : out.length = N) (hi : i < N) (ho : Small 8192 out) (hx : x < 8192) (h5 : Rd K F (some ⟨b5, 0, none⟩) (.slice (some ⟨g, 0, none⟩) N cap)) (hcap : N ≤ 1000000) :
    Does Tryz.prog 218 #[.int .i64 (i : Int), .int .i64 (x : Int), ptr b5 0] K (Cells g 3 (nats .i64 out) :: F)
      (fun v H' => H' = Cells g 3 (nats .i64 (out.set i (out.getD i 0 ^^^ x))) :: F) := by
  have hgi : (nats .i64 out)[0 + (i : Int).toNat * 1]? = some (.int .i64 (out.getD i 0 : Nat)) := by rw [show 0 + (i : Int).toNat * 1 = i by omega]; exact nats_get _ _ (by omega)
  have hb := ho.at_ (by decide) i
  refine Does.enter Tryz.func218 rfl Tryz.ntmps218 rfl ?_
  simp only [env0, Nat.reduceAdd]
  refine WC.region ?_
  refine WL.val (V.load Tryz.isAgg42 (OV.p rfl) (fun hc => h5.up)) rfl ?_
  refine WL.val (V.move (OV.p rfl)) rfl ?_
  refine WL.val (V.idxB st42 (OV.p rfl) (OV.p rfl) (fun hc => by omega)) rfl ?_
  refine WL.val (V.load Tryz.isAgg3 (OV.p rfl) (fun hc => Rd.here hgi)) rfl ?_
  refine WL.val (V.move (OV.p rfl)) rfl ?_
  refine WL.val (V.val_eq (v' := .int .i64 ((out.getD i 0 ^^^ x : Nat) : Int)) (V.xor (OV.p rfl) (OV.p rfl)) (fun _ => by rw [bits_xor (by omega) (by omega)])) rfl ?_
  refine WL.val (V.idxB st42 (OV.p rfl) (OV.p rfl) (fun hc => by omega)) rfl ?_
  refine WL.store (cs := [_]) Tryz.sizeOf3 (OV.p rfl) (OV.p rfl) rfl rfl rfl (Upd.at_ (by rw [nats_length]; omega)) ?_
  refine WL.nil ?_
  refine BodyQ.normal (H' := Cells g _ _ :: F) (Res.none rfl) (fun w h => Sat.cells_eq h ?_) rfl
  rw [show 0 + (i : Int).toNat * 1 = i by omega, nats_set]
theorem poly_lay {g b5 N cap : Nat} {out : List Nat} {A : Option Addr} {m cap' : Nat} {ps : List Nat} {at_ by_ : Nat} (hN : out.length = N) (ho : Small 8192 out) (hs : Seq K F A m 1 (nats .i64 ps)) (hp : Small 8192 ps) (hat : at_ + m ≤ N) (hby : by_ < 8192)
    (h5 : Rd K F (some ⟨b5, 0, none⟩) (.slice (some ⟨g, 0, none⟩) N cap)) (hcap : N ≤ 1000000) :
    Does Tryz.prog 216 #[.func (.func 218) #[] #[ptr b5 0], .slice A m cap', .int .i64 (at_ : Int), .int .i64 (by_ : Int)] K (Cells g 3 (nats .i64 out) :: F)
      (fun v H' => H' = Cells g 3 (nats .i64 (layTo out ps at_ by_ m)) :: F) := by
  have hl : ps.length = m := by simpa [nats] using hs.len
  refine Does.enter Tryz.func216 rfl Tryz.ntmps216 rfl ?_
  simp only [env0, Nat.reduceAdd]
  refine WC.sr ?_
  refine WL.val (V.move (OV.p rfl)) rfl ?_
  refine WL.val (V.len (t := 42) Tryz.runUnderlying42 (OV.p rfl)) rfl ?_
  refine WL.val (V.move (OV.p rfl)) rfl ?_
  refine WL.nil ?_
  refine WC.block ?_
  refine WC.loop (σ := Nat) (fun j => [(0, .func (.func 218) #[] #[ptr b5 0]), (2, .int .i64 (at_ : Int)), (3, .int .i64 (by_ : Int)), (10, .slice A m cap'), (11, .int .i64 (m : Int)), (12, .int .i64 (j : Int))]) (fun j => Cells g 3 (nats .i64 (layTo out ps at_ by_ j)) :: F) (fun j => j ≤ m) (fun j => m - j) 0 (Nat.zero_le _) (.cons rfl (.cons rfl (.cons rfl (.cons rfl (.cons rfl (.cons rfl (.nil _))))))) (fun w h => h) ?_
  rintro j hj
  refine WC.sr ?_
  refine WL.val (V.lss (OV.p rfl) (OV.p rfl)) rfl ?_
  refine WL.nil ?_
  refine WC.seq ?_
  refine WC.cond rfl (fun hc0 => ?_) (fun hc0 => ?_)
  ·simp only [decide_eq_true_eq, decide_eq_false_iff_not] at hc0
   refine WC.skip ?_
   refine WC.seq ?_
   refine WC.block ?_
   refine WC.seq ?_
   have hjm : j < m := by omega
   have hrd2 : Rd K (Cells g 3 (nats .i64 (layTo out ps at_ by_ j)) :: F) (A.map (·.add ((j : Int).toNat * 1))) (.int .i64 (ps.getD j 0 : Nat)) := by
     rw [show (j : Int).toNat = j by omega]; exact (hs.nat_rd (by omega)).up
   have hsm := layTo_small (at_ := at_) (by_ := by_) ho hp j
   have hpj := hp.at_ (by decide) j
   refine WC.region ?_
   refine WL.val (V.move (OV.p rfl)) rfl ?_
   refine WL.val (V.idxS st42 (OV.p rfl) (OV.p rfl) (fun hc => by omega) (fun hc => hrd2)) rfl ?_
   refine WL.val (V.load Tryz.isAgg3 (OV.p rfl) (fun hc => hrd2)) rfl ?_
   refine WL.val (V.assign (OV.p rfl)) rfl ?_
   refine WL.val (V.assign (OV.p rfl)) rfl ?_
   refine WL.nil ?_
   refine WC.region ?_
   refine WL.val (V.move (OV.p rfl)) rfl ?_
   refine WL.val (V.move (OV.p rfl)) rfl ?_
   refine WL.val (V.move (OV.p rfl)) rfl ?_
   refine WL.val (V.val_eq (v' := .int .i64 ((at_ + j : Nat) : Int)) (V.addI (OV.p rfl) (OV.p rfl) (fun _ => by omega)) (fun _ => by simp)) rfl ?_
   refine WL.val (V.move (OV.p rfl)) rfl ?_
   refine WL.val (V.move (OV.p rfl)) rfl ?_
   refine WL.call (vs := [_, _]) Tryz.call220 ⟨OV.p rfl, OV.p rfl, trivial⟩ (poly_mul hpj hby) rfl ?_
   rintro _ H0 ⟨rfl, h0⟩
   subst H0
   refine WL.callV (first := []) (vs := [_, _]) (captured := [ptr b5 0]) Tryz.call218 (OV.p rfl) ⟨OV.p rfl, OV.p rfl, trivial⟩ (poly_put (N := N) (cap := cap) (by rw [layTo_length]; exact hN) (by omega) hsm (gmul_lt hpj) h5 hcap) rfl ?_
   rintro v1 _ rfl
   refine WL.nil ?_
   refine WC.region ?_
   refine WL.val (V.addI (OV.p rfl) (OV.p rfl) (fun hc => by first | omega | (simp at hc; omega))) rfl ?_
   refine WL.val (V.move (OV.p rfl)) rfl ?_
   refine WL.nil ?_
   refine ⟨rfl, ?_⟩
   exact ⟨j + 1, (by show j + 1 ≤ m; omega), (by show m - (j + 1) < m - j; omega), .cons rfl (.cons rfl (.cons rfl (.cons rfl (.cons rfl (.cons (look_eq rfl (by simp)) (.nil _)))))), fun w h => h⟩
  ·simp only [decide_eq_true_eq, decide_eq_false_iff_not] at hc0
   refine WC.exit ?_
   obtain rfl : j = m := by omega
   exact BodyQ.normal (H' := Cells g _ _ :: F) (Res.none rfl) (fun w h => h) rfl
end
end Go.Proofs.YtohkefolnmcjnaaGreat
/- casemateref02: Sum, Mul, Pow, Exp; casemateref04: Degree. -/
namespace Go.Proofs.YtohkefolnmcjnaaGreat
open Go.Sl Go.RowKit
set_option linter.unusedVariables false
set_option linter.unusedSimpArgs false
set_option maxRecDepth 20000

theorem xor_half (a b : Nat) : a ^^^ b = 2 * ((a / 2) ^^^ (b / 2)) + (if a % 2 = b % 2 then 0 else 1) := by
  have h1 : (a ^^^ b) / 2 = (a / 2) ^^^ (b / 2) := by
    have := Nat.shiftRight_xor_distrib (a := a) (b := b) (i := 1)
    simpa [Nat.shiftRight_eq_div_pow] using this
  have h2 : (a ^^^ b) % 2 = (a + b) % 2 := by
    have h : decide ((a ^^^ b) % 2 = 1) = (decide (a % 2 = 1) ^^ decide (b % 2 = 1)) := by
      have h := Nat.testBit_xor a b 0
      rwa [Nat.testBit_zero, Nat.testBit_zero, Nat.testBit_zero] at h
    by_cases hx : (a ^^^ b) % 2 = 1 <;> by_cases ha : a % 2 = 1 <;> by_cases hb : b % 2 = 1 <;> first
      | omega
      | (exfalso
         first | rw [decide_eq_true hx] at h | rw [decide_eq_false hx] at h
         first | rw [decide_eq_true ha] at h | rw [decide_eq_false ha] at h
         first | rw [decide_eq_true hb] at h | rw [decide_eq_false hb] at h
         cases h)
  have h3 := Nat.div_add_mod (a ^^^ b) 2
  rw [h1, h2] at h3
  split <;> omega
theorem xor_zero_both {a b : Nat} (h : ¬ (0 < a ∨ 0 < b)) : a ^^^ b = 0 := by
  have h1 : a = 0 := by omega
  have h2 : b = 0 := by omega
  subst h1 h2; rfl
section
variable {K : World} {F : List Assn}
theorem ref02_Sum {a b : Nat} (ha : a < 65536) (hb : b < 65536) : Tells Tryz.prog 201 #[.int .i64 (a : Int), .int .i64 (b : Int)] K F (.int .i64 (a ^^^ b : Nat)) := by
  refine Does.enter Tryz.func201 rfl Tryz.ntmps201 rfl ?_
  simp only [env0, Nat.reduceAdd]
  refine WC.sr ?_
  refine WL.val (V.assign (OV.p rfl)) rfl ?_
  refine WL.nil ?_
  refine WC.sr ?_
  refine WL.val (V.assign (OV.p rfl)) rfl ?_
  refine WL.nil ?_
  refine WC.sr ?_
  refine WL.val (V.assign (OV.p rfl)) rfl ?_
  refine WL.nil ?_
  refine WC.seq ?_
  refine WC.block ?_
  refine WC.loop (σ := Nat × Nat × Nat × Nat × Nat) (fun s => [(0, .int .i64 (s.1 : Int)), (1, .int .i64 (s.2.1 : Int)), (5, .int .i64 (s.2.2.1 : Int)), (6, .int .i64 (s.2.2.2.1 : Int))]) (fun _ => F) (fun s => s.2.2.2.1 = 2 ^ s.2.2.2.2 ∧ s.1 * s.2.2.2.1 ≤ a ∧ s.2.1 * s.2.2.2.1 ≤ b ∧ s.2.2.1 < s.2.2.2.1 ∧ a ^^^ b = s.2.2.1 + s.2.2.2.1 * (s.1 ^^^ s.2.1) ∧ s.2.2.2.1 ≤ 131072) (fun s => s.1 + s.2.1) (a, b, 0, 1, 0) ⟨rfl, by show a * 1 ≤ a; omega, by show b * 1 ≤ b; omega, by show 0 < 1; decide, by show a ^^^ b = 0 + 1 * (a ^^^ b); omega, by show 1 ≤ 131072; decide⟩ (.cons rfl (.cons rfl (.cons rfl (.cons rfl (.nil _))))) (fun w h => h) ?_
  rintro ⟨x, y, o, w, n⟩ ⟨hw, hxa, hyb, how, hxy, hwl⟩
  dsimp only at hw hxa hyb how hxy hwl ⊢
  refine WC.seq ?_
  refine WC.sr ?_
  refine WL.val (V.move (OV.p rfl)) rfl ?_
  refine WL.val (V.gtr (OV.p rfl) (OV.p rfl)) rfl ?_
  refine WL.val (V.move (OV.p rfl)) rfl ?_
  refine WL.valG (oj := _) rfl rfl rfl GC.f (V.move (OV.p rfl)) rfl ?_
  refine WL.valG (oj := _) rfl rfl rfl GC.f (V.gtr (OV.g rfl id) (OV.p rfl)) rfl ?_
  refine WL.val (V.pickOr (OV.p rfl) (OV.g rfl id)) rfl ?_
  refine WL.nil ?_
  refine WC.cond rfl (fun hc0 => ?_) (fun hc0 => ?_)
  ·simp only [Bool.or_eq_true, Bool.or_eq_false_iff, decide_eq_true_eq, decide_eq_false_iff_not] at hc0
   have h0 := hc0
   have hx16 : x < 65536 := by
     have : x * 1 ≤ x * w := Nat.mul_le_mul_left _ (by omega)
     omega
   have hy16 : y < 65536 := by
     have : y * 1 ≤ y * w := Nat.mul_le_mul_left _ (by omega)
     omega
   have hxh := xor_half x y
   have hw2 : w ≤ 65535 := by
     rcases h0 with h | h
     · have : 1 * w ≤ x * w := Nat.mul_le_mul_right _ (by omega); omega
     · have : 1 * w ≤ y * w := Nat.mul_le_mul_right _ (by omega); omega
   have hx2 : x / 2 * (2 * w) ≤ a := by
     have : (x / 2 * 2) * w ≤ x * w := Nat.mul_le_mul_right _ (by omega)
     rw [Nat.mul_assoc] at this; omega
   have hy2 : y / 2 * (2 * w) ≤ b := by
     have : (y / 2 * 2) * w ≤ y * w := Nat.mul_le_mul_right _ (by omega)
     rw [Nat.mul_assoc] at this; omega
   have hpow : 2 * w = 2 ^ (n + 1) := by rw [Nat.pow_succ, hw, Nat.mul_comm]
   refine WC.skip ?_
   refine WC.block ?_
   refine WC.seq ?_
   refine WC.sr ?_
   refine WL.val (V.move (OV.p rfl)) rfl ?_
   refine WL.val (V.val_eq (v' := .int .i64 ((x % 2 : Nat) : Int)) (V.remI (OV.p rfl) (OV.p rfl) (fun _ => by omega)) (fun _ => by simp)) rfl ?_
   refine WL.val (V.move (OV.p rfl)) rfl ?_
   refine WL.val (V.val_eq (v' := .int .i64 ((y % 2 : Nat) : Int)) (V.remI (OV.p rfl) (OV.p rfl) (fun _ => by omega)) (fun _ => by simp)) rfl ?_
   refine WL.val (V.neq (OV.p rfl) (OV.p rfl)) rfl ?_
   refine WL.nil ?_
   refine WC.cond rfl (fun hc1 => ?_) (fun hc1 => ?_)
   ·simp only [decide_eq_true_eq, decide_eq_false_iff_not, Bool.not_eq_true', Bool.not_eq_false'] at hc1
    have h1 := hc1
    rw [if_neg (by omega)] at hxh
    refine WC.region ?_
    refine WL.val (V.move (OV.p rfl)) rfl ?_
    refine WL.val (V.move (OV.p rfl)) rfl ?_
    refine WL.val (V.addI (OV.p rfl) (OV.p rfl) (fun _ => by omega)) rfl ?_
    refine WL.val (V.assign (OV.p rfl)) rfl ?_
    refine WL.nil ?_
    refine WC.sr ?_
    refine WL.val (V.move (OV.p rfl)) rfl ?_
    refine WL.val (V.val_eq (v' := .int .i64 ((x / 2 : Nat) : Int)) (V.quoI (OV.p rfl) (OV.p rfl) (fun _ => by omega)) (fun _ => by simp)) rfl ?_
    refine WL.val (V.assign (OV.p rfl)) rfl ?_
    refine WL.nil ?_
    refine WC.sr ?_
    refine WL.val (V.move (OV.p rfl)) rfl ?_
    refine WL.val (V.val_eq (v' := .int .i64 ((y / 2 : Nat) : Int)) (V.quoI (OV.p rfl) (OV.p rfl) (fun _ => by omega)) (fun _ => by simp)) rfl ?_
    refine WL.val (V.assign (OV.p rfl)) rfl ?_
    refine WL.nil ?_
    refine WC.region ?_
    refine WL.val (V.move (OV.p rfl)) rfl ?_
    refine WL.val (V.val_eq (v' := .int .i64 ((2 * w : Nat) : Int)) (V.mulI (OV.p rfl) (OV.p rfl) (fun _ => by omega)) (fun _ => by simp)) rfl ?_
    refine WL.val (V.assign (OV.p rfl)) rfl ?_
    refine WL.nil ?_
    refine ⟨rfl, ?_⟩
    first
    | exact ⟨(x / 2, y / 2, o + w, 2 * w, n + 1), ⟨hpow, hx2, hy2, by show o + w < 2 * w; omega, by show a ^^^ b = o + w + 2 * w * (x / 2 ^^^ y / 2); rw [hxy, hxh, Nat.mul_add, Nat.mul_one, ← Nat.mul_assoc, Nat.mul_comm w 2]; omega, by show 2 * w ≤ 131072; omega⟩, (by show x / 2 + y / 2 < x + y; omega), .cons rfl (.cons rfl (.cons (look_eq rfl (by simp)) (.cons rfl (.nil _)))), fun w h => h⟩
    | exact ⟨(x / 2, y / 2, o, 2 * w, n + 1), ⟨hpow, hx2, hy2, by show o < 2 * w; omega, by show a ^^^ b = o + 2 * w * (x / 2 ^^^ y / 2); rw [hxy, hxh, Nat.add_zero, ← Nat.mul_assoc, Nat.mul_comm w 2], by show 2 * w ≤ 131072; omega⟩, (by show x / 2 + y / 2 < x + y; omega), .cons rfl (.cons rfl (.cons rfl (.cons rfl (.nil _)))), fun w h => h⟩
   ·simp only [decide_eq_true_eq, decide_eq_false_iff_not, Bool.not_eq_true', Bool.not_eq_false'] at hc1
    have h1 := hc1
    rw [if_pos (by omega)] at hxh
    refine WC.skip ?_
    refine WC.sr ?_
    refine WL.val (V.move (OV.p rfl)) rfl ?_
    refine WL.val (V.val_eq (v' := .int .i64 ((x / 2 : Nat) : Int)) (V.quoI (OV.p rfl) (OV.p rfl) (fun _ => by omega)) (fun _ => by simp)) rfl ?_
    refine WL.val (V.assign (OV.p rfl)) rfl ?_
    refine WL.nil ?_
    refine WC.sr ?_
    refine WL.val (V.move (OV.p rfl)) rfl ?_
    refine WL.val (V.val_eq (v' := .int .i64 ((y / 2 : Nat) : Int)) (V.quoI (OV.p rfl) (OV.p rfl) (fun _ => by omega)) (fun _ => by simp)) rfl ?_
    refine WL.val (V.assign (OV.p rfl)) rfl ?_
    refine WL.nil ?_
    refine WC.region ?_
    refine WL.val (V.move (OV.p rfl)) rfl ?_
    refine WL.val (V.val_eq (v' := .int .i64 ((2 * w : Nat) : Int)) (V.mulI (OV.p rfl) (OV.p rfl) (fun _ => by omega)) (fun _ => by simp)) rfl ?_
    refine WL.val (V.assign (OV.p rfl)) rfl ?_
    refine WL.nil ?_
    refine ⟨rfl, ?_⟩
    first
    | exact ⟨(x / 2, y / 2, o + w, 2 * w, n + 1), ⟨hpow, hx2, hy2, by show o + w < 2 * w; omega, by show a ^^^ b = o + w + 2 * w * (x / 2 ^^^ y / 2); rw [hxy, hxh, Nat.mul_add, Nat.mul_one, ← Nat.mul_assoc, Nat.mul_comm w 2]; omega, by show 2 * w ≤ 131072; omega⟩, (by show x / 2 + y / 2 < x + y; omega), .cons rfl (.cons rfl (.cons (look_eq rfl (by simp)) (.cons rfl (.nil _)))), fun w h => h⟩
    | exact ⟨(x / 2, y / 2, o, 2 * w, n + 1), ⟨hpow, hx2, hy2, by show o < 2 * w; omega, by show a ^^^ b = o + 2 * w * (x / 2 ^^^ y / 2); rw [hxy, hxh, Nat.add_zero, ← Nat.mul_assoc, Nat.mul_comm w 2], by show 2 * w ≤ 131072; omega⟩, (by show x / 2 + y / 2 < x + y; omega), .cons rfl (.cons rfl (.cons rfl (.cons rfl (.nil _)))), fun w h => h⟩
  ·simp only [Bool.or_eq_true, Bool.or_eq_false_iff, decide_eq_true_eq, decide_eq_false_iff_not] at hc0
   have h0 := hc0
   have hx16 : x < 65536 := by
     have : x * 1 ≤ x * w := Nat.mul_le_mul_left _ (by omega)
     omega
   have hy16 : y < 65536 := by
     have : y * 1 ≤ y * w := Nat.mul_le_mul_left _ (by omega)
     omega
   refine WC.exit ?_
   refine WC.sr ?_
   refine WL.val (V.move (OV.p rfl)) rfl ?_
   refine WL.val (V.assign (OV.p rfl)) rfl ?_
   refine WL.nil ?_
   refine WC.ret ?_
   refine BodyQ.ret (H' := F) (Res.tmp rfl rfl) (fun w h => h) ⟨?_, rfl⟩
   rw [hxy, xor_zero_both (by omega), Nat.mul_zero, Nat.add_zero]
theorem ref02_Mul {a b : Nat} (ha : a < 8192) (hb : b < 8192) : Tells Tryz.prog 202 #[.int .i64 (a : Int), .int .i64 (b : Int)] K F (.int .i64 (gmul a b : Nat)) := by
  refine Does.enter Tryz.func202 rfl Tryz.ntmps202 rfl ?_
  simp only [env0, Nat.reduceAdd]
  refine WC.sr ?_
  refine WL.val (V.assign (OV.p rfl)) rfl ?_
  refine WL.nil ?_
  refine WC.sr ?_
  refine WL.val (V.assign (OV.p rfl)) rfl ?_
  refine WL.nil ?_
  refine WC.seq ?_
  refine WC.block ?_
  refine WC.loop (σ := Nat × Nat × Nat × Nat) (fun x => [(5, .int .i64 (x.2.1 : Int)), (0, .int .i64 (x.2.2.1 : Int)), (1, .int .i64 (x.2.2.2 : Int))]) (fun _ => F) (fun x => x.2.1 < 8192 ∧ x.2.2.1 < 8192 ∧ x.2.2.2 < 2 ^ x.1 ∧ x.1 ≤ 13 ∧ gmulF x.1 x.2.1 x.2.2.1 x.2.2.2 = gmul a b) (fun x => x.1) (13, 0, a, b) ⟨by show 0 < 8192; decide, ha, hb, Nat.le_refl _, rfl⟩ (.cons rfl (.cons rfl (.cons rfl (.nil _)))) (fun w h => h) ?_
  rintro ⟨k, o, x, y⟩ ⟨h1, h2, h3, h3', h4⟩
  dsimp only at h1 h2 h3 h3' h4 ⊢
  have h13 : (2 : Nat) ^ k ≤ 2 ^ 13 := Nat.pow_le_pow_right (by decide) h3'
  have hy : y < 8192 := by omega
  refine WC.seq ?_
  refine WC.sr ?_
  refine WL.val (V.move (OV.p rfl)) rfl ?_
  refine WL.val (V.gtr (OV.p rfl) (OV.p rfl)) rfl ?_
  refine WL.nil ?_
  refine WC.cond rfl (fun hc0 => ?_) (fun hc0 => ?_)
  ·simp only [Bool.not_eq_true', Bool.not_eq_false', decide_eq_true_eq, decide_eq_false_iff_not] at hc0
   have hy0 : y ≠ 0 := by omega
   obtain ⟨k', rfl⟩ : ∃ k', k = k' + 1 := ⟨k - 1, by rcases Nat.eq_zero_or_pos k with h | h; subst h; simp at h3; omega; omega⟩
   rw [gmulF, if_neg hy0] at h4
   have hy2 : y / 2 < 2 ^ k' := by rw [Nat.pow_succ] at h3; omega
   refine WC.skip ?_
   refine WC.block ?_
   refine WC.seq ?_
   refine WC.sr ?_
   refine WL.val (V.move (OV.p rfl)) rfl ?_
   refine WL.val (V.val_eq (v' := .int .i64 ((y % 2 : Nat) : Int)) (V.remI (OV.p rfl) (OV.p rfl) (fun _ => by omega)) (fun _ => by simp)) rfl ?_
   refine WL.val (V.eql (OV.p rfl) (OV.p rfl)) rfl ?_
   refine WL.nil ?_
   refine WC.cond rfl (fun hc1 => ?_) (fun hc1 => ?_)
   ·simp only [decide_eq_true_eq, decide_eq_false_iff_not] at hc1
    rw [if_pos (show y % 2 = 1 by omega)] at h4
    refine WC.region ?_
    refine WL.val (V.move (OV.p rfl)) rfl ?_
    refine WL.val (V.move (OV.p rfl)) rfl ?_
    refine WL.call (vs := [_, _]) Tryz.call201 ⟨OV.p rfl, OV.p rfl, trivial⟩ (ref02_Sum (by omega) (by omega)) rfl ?_
    rintro _ H0 ⟨rfl, h0⟩
    subst H0
    refine WL.val (V.assign (OV.p rfl)) rfl ?_
    refine WL.nil ?_
    refine WC.sr ?_
    refine WL.val (V.move (OV.p rfl)) rfl ?_
    refine WL.val (V.val_eq (v' := .int .i64 ((2 * x : Nat) : Int)) (V.mulI (OV.p rfl) (OV.p rfl) (fun _ => by omega)) (fun _ => by simp)) rfl ?_
    refine WL.val (V.assign (OV.p rfl)) rfl ?_
    refine WL.nil ?_
    refine WC.seq ?_
    refine WC.sr ?_
    refine WL.val (V.move (OV.p rfl)) rfl ?_
    refine WL.val (V.geq (OV.p rfl) (OV.p rfl)) rfl ?_
    refine WL.nil ?_
    refine WC.cond rfl (fun hc2 => ?_) (fun hc2 => ?_)
    ·simp only [decide_eq_true_eq, decide_eq_false_iff_not] at hc2
     have hr : red (2 * x) = 2 * x ^^^ 8219 := by unfold red; rw [if_pos (by omega)]
     refine WC.region ?_
     refine WL.val (V.move (OV.p rfl)) rfl ?_
     refine WL.call (vs := [_, _]) Tryz.call201 ⟨OV.p rfl, OV.p rfl, trivial⟩ (ref02_Sum (b := 8219) (by omega) (by decide)) rfl ?_
     rintro _ H0 ⟨rfl, h0⟩
     subst H0
     refine WL.val (V.assign (OV.p rfl)) rfl ?_
     refine WL.nil ?_
     refine WC.region ?_
     refine WL.val (V.move (OV.p rfl)) rfl ?_
     refine WL.val (V.val_eq (v' := .int .i64 ((y / 2 : Nat) : Int)) (V.quoI (OV.p rfl) (OV.p rfl) (fun _ => by omega)) (fun _ => by simp)) rfl ?_
     refine WL.val (V.assign (OV.p rfl)) rfl ?_
     refine WL.nil ?_
     refine ⟨rfl, ?_⟩
     have hrl := red_lt h2
     have hxo : o ^^^ x < 8192 := xor_lt (k := 13) h1 h2
     rw [hr] at h4 hrl
     first
       | exact ⟨(k', o ^^^ x, _, y / 2), ⟨hxo, hrl, hy2, by show k' ≤ 13; omega, h4⟩, Nat.lt_succ_self _, .cons rfl (.cons rfl (.cons rfl (.nil _))), fun w h => h⟩
       | exact ⟨(k', o, _, y / 2), ⟨h1, hrl, hy2, by show k' ≤ 13; omega, h4⟩, Nat.lt_succ_self _, .cons rfl (.cons rfl (.cons rfl (.nil _))), fun w h => h⟩
    ·simp only [decide_eq_true_eq, decide_eq_false_iff_not] at hc2
     have hr : red (2 * x) = 2 * x := by unfold red; rw [if_neg (by omega)]
     refine WC.skip ?_
     refine WC.region ?_
     refine WL.val (V.move (OV.p rfl)) rfl ?_
     refine WL.val (V.val_eq (v' := .int .i64 ((y / 2 : Nat) : Int)) (V.quoI (OV.p rfl) (OV.p rfl) (fun _ => by omega)) (fun _ => by simp)) rfl ?_
     refine WL.val (V.assign (OV.p rfl)) rfl ?_
     refine WL.nil ?_
     refine ⟨rfl, ?_⟩
     have hrl := red_lt h2
     have hxo : o ^^^ x < 8192 := xor_lt (k := 13) h1 h2
     rw [hr] at h4 hrl
     first
       | exact ⟨(k', o ^^^ x, _, y / 2), ⟨hxo, hrl, hy2, by show k' ≤ 13; omega, h4⟩, Nat.lt_succ_self _, .cons rfl (.cons rfl (.cons rfl (.nil _))), fun w h => h⟩
       | exact ⟨(k', o, _, y / 2), ⟨h1, hrl, hy2, by show k' ≤ 13; omega, h4⟩, Nat.lt_succ_self _, .cons rfl (.cons rfl (.cons rfl (.nil _))), fun w h => h⟩
   ·simp only [decide_eq_true_eq, decide_eq_false_iff_not] at hc1
    rw [if_neg (show ¬ y % 2 = 1 by omega)] at h4
    refine WC.skip ?_
    refine WC.sr ?_
    refine WL.val (V.move (OV.p rfl)) rfl ?_
    refine WL.val (V.val_eq (v' := .int .i64 ((2 * x : Nat) : Int)) (V.mulI (OV.p rfl) (OV.p rfl) (fun _ => by omega)) (fun _ => by simp)) rfl ?_
    refine WL.val (V.assign (OV.p rfl)) rfl ?_
    refine WL.nil ?_
    refine WC.seq ?_
    refine WC.sr ?_
    refine WL.val (V.move (OV.p rfl)) rfl ?_
    refine WL.val (V.geq (OV.p rfl) (OV.p rfl)) rfl ?_
    refine WL.nil ?_
    refine WC.cond rfl (fun hc2 => ?_) (fun hc2 => ?_)
    ·simp only [decide_eq_true_eq, decide_eq_false_iff_not] at hc2
     have hr : red (2 * x) = 2 * x ^^^ 8219 := by unfold red; rw [if_pos (by omega)]
     refine WC.region ?_
     refine WL.val (V.move (OV.p rfl)) rfl ?_
     refine WL.call (vs := [_, _]) Tryz.call201 ⟨OV.p rfl, OV.p rfl, trivial⟩ (ref02_Sum (b := 8219) (by omega) (by decide)) rfl ?_
     rintro _ H0 ⟨rfl, h0⟩
     subst H0
     refine WL.val (V.assign (OV.p rfl)) rfl ?_
     refine WL.nil ?_
     refine WC.region ?_
     refine WL.val (V.move (OV.p rfl)) rfl ?_
     refine WL.val (V.val_eq (v' := .int .i64 ((y / 2 : Nat) : Int)) (V.quoI (OV.p rfl) (OV.p rfl) (fun _ => by omega)) (fun _ => by simp)) rfl ?_
     refine WL.val (V.assign (OV.p rfl)) rfl ?_
     refine WL.nil ?_
     refine ⟨rfl, ?_⟩
     have hrl := red_lt h2
     have hxo : o ^^^ x < 8192 := xor_lt (k := 13) h1 h2
     rw [hr] at h4 hrl
     first
       | exact ⟨(k', o ^^^ x, _, y / 2), ⟨hxo, hrl, hy2, by show k' ≤ 13; omega, h4⟩, Nat.lt_succ_self _, .cons rfl (.cons rfl (.cons rfl (.nil _))), fun w h => h⟩
       | exact ⟨(k', o, _, y / 2), ⟨h1, hrl, hy2, by show k' ≤ 13; omega, h4⟩, Nat.lt_succ_self _, .cons rfl (.cons rfl (.cons rfl (.nil _))), fun w h => h⟩
    ·simp only [decide_eq_true_eq, decide_eq_false_iff_not] at hc2
     have hr : red (2 * x) = 2 * x := by unfold red; rw [if_neg (by omega)]
     refine WC.skip ?_
     refine WC.region ?_
     refine WL.val (V.move (OV.p rfl)) rfl ?_
     refine WL.val (V.val_eq (v' := .int .i64 ((y / 2 : Nat) : Int)) (V.quoI (OV.p rfl) (OV.p rfl) (fun _ => by omega)) (fun _ => by simp)) rfl ?_
     refine WL.val (V.assign (OV.p rfl)) rfl ?_
     refine WL.nil ?_
     refine ⟨rfl, ?_⟩
     have hrl := red_lt h2
     have hxo : o ^^^ x < 8192 := xor_lt (k := 13) h1 h2
     rw [hr] at h4 hrl
     first
       | exact ⟨(k', o ^^^ x, _, y / 2), ⟨hxo, hrl, hy2, by show k' ≤ 13; omega, h4⟩, Nat.lt_succ_self _, .cons rfl (.cons rfl (.cons rfl (.nil _))), fun w h => h⟩
       | exact ⟨(k', o, _, y / 2), ⟨h1, hrl, hy2, by show k' ≤ 13; omega, h4⟩, Nat.lt_succ_self _, .cons rfl (.cons rfl (.cons rfl (.nil _))), fun w h => h⟩
  ·simp only [Bool.not_eq_true', Bool.not_eq_false', decide_eq_true_eq, decide_eq_false_iff_not] at hc0
   have hy0 : y = 0 := by omega
   refine WC.exit ?_
   refine WC.sr ?_
   refine WL.val (V.move (OV.p rfl)) rfl ?_
   refine WL.val (V.assign (OV.p rfl)) rfl ?_
   refine WL.nil ?_
   refine WC.ret ?_
   refine BodyQ.ret (H' := F) (Res.tmp rfl rfl) (fun w h => h) ⟨?_, rfl⟩
   have : o = gmul a b := by
     rw [← h4, hy0]
     cases k <;> simp [gmulF]
   rw [this]
theorem ref02_Pow {a m : Nat} (ha : a < 8192) (hm : m < 8192) : Tells Tryz.prog 211 #[.int .i64 (a : Int), .int .i64 (m : Int)] K F (.int .i64 (gpow a m : Nat)) := by
  refine Does.enter Tryz.func211 rfl Tryz.ntmps211 rfl ?_
  simp only [env0, Nat.reduceAdd]
  refine WC.sr ?_
  refine WL.val (V.assign (OV.p rfl)) rfl ?_
  refine WL.nil ?_
  refine WC.sr ?_
  refine WL.val (V.assign (OV.p rfl)) rfl ?_
  refine WL.nil ?_
  refine WC.seq ?_
  refine WC.block ?_
  refine WC.loop (σ := Nat × Nat × Nat × Nat) (fun x => [(5, .int .i64 (x.2.1 : Int)), (0, .int .i64 (x.2.2.1 : Int)), (1, .int .i64 (x.2.2.2 : Int))]) (fun _ => F) (fun x => x.2.1 < 8192 ∧ x.2.2.1 < 8192 ∧ x.2.2.2 < 2 ^ x.1 ∧ x.1 ≤ 13 ∧ gpowF x.1 x.2.1 x.2.2.1 x.2.2.2 = gpow a m) (fun x => x.1) (13, 1, a, m) ⟨by show 1 < 8192; decide, ha, hm, Nat.le_refl _, rfl⟩ (.cons rfl (.cons rfl (.cons rfl (.nil _)))) (fun w h => h) ?_
  rintro ⟨k, o, x, y⟩ ⟨h1, h2, h3, h3', h4⟩
  dsimp only at h1 h2 h3 h3' h4 ⊢
  have h13 : (2 : Nat) ^ k ≤ 2 ^ 13 := Nat.pow_le_pow_right (by decide) h3'
  have hy : y < 8192 := by omega
  refine WC.seq ?_
  refine WC.sr ?_
  refine WL.val (V.move (OV.p rfl)) rfl ?_
  refine WL.val (V.gtr (OV.p rfl) (OV.p rfl)) rfl ?_
  refine WL.nil ?_
  refine WC.cond rfl (fun hc0 => ?_) (fun hc0 => ?_)
  ·simp only [decide_eq_true_eq, decide_eq_false_iff_not] at hc0
   have hy0 : y ≠ 0 := by omega
   obtain ⟨k', rfl⟩ : ∃ k', k = k' + 1 := ⟨k - 1, by rcases Nat.eq_zero_or_pos k with h | h; subst h; simp at h3; omega; omega⟩
   rw [gpowF, if_neg hy0] at h4
   have hy2 : y / 2 < 2 ^ k' := by rw [Nat.pow_succ] at h3; omega
   refine WC.skip ?_
   refine WC.block ?_
   refine WC.seq ?_
   refine WC.sr ?_
   refine WL.val (V.move (OV.p rfl)) rfl ?_
   refine WL.val (V.remI (OV.p rfl) (OV.p rfl) (fun hc => by first | omega | (simp at hc; omega))) rfl ?_
   refine WL.val (V.eql (OV.p rfl) (OV.p rfl)) rfl ?_
   refine WL.nil ?_
   refine WC.cond rfl (fun hc1 => ?_) (fun hc1 => ?_)
   ·simp only [decide_eq_true_eq, decide_eq_false_iff_not] at hc1
    rw [if_pos (show y % 2 = 1 by omega)] at h4
    refine WC.region ?_
    refine WL.val (V.move (OV.p rfl)) rfl ?_
    refine WL.val (V.move (OV.p rfl)) rfl ?_
    refine WL.call (vs := [_, _]) Tryz.call202 ⟨OV.p rfl, OV.p rfl, trivial⟩ (ref02_Mul h1 h2) rfl ?_
    rintro _ H0 ⟨rfl, h0⟩
    subst H0
    refine WL.val (V.assign (OV.p rfl)) rfl ?_
    refine WL.nil ?_
    refine WC.sr ?_
    refine WL.val (V.move (OV.p rfl)) rfl ?_
    refine WL.val (V.move (OV.p rfl)) rfl ?_
    refine WL.call (vs := [_, _]) Tryz.call202 ⟨OV.p rfl, OV.p rfl, trivial⟩ (ref02_Mul h2 h2) rfl ?_
    rintro _ H0 ⟨rfl, h0⟩
    subst H0
    refine WL.val (V.assign (OV.p rfl)) rfl ?_
    refine WL.nil ?_
    refine WC.region ?_
    refine WL.val (V.move (OV.p rfl)) rfl ?_
    refine WL.val (V.quoI (OV.p rfl) (OV.p rfl) (fun hc => by first | omega | (simp at hc; omega))) rfl ?_
    refine WL.val (V.assign (OV.p rfl)) rfl ?_
    refine WL.nil ?_
    refine ⟨rfl, ?_⟩
    first
      | exact ⟨(k', gmul o x, gmul x x, y / 2), ⟨gmul_lt h1, gmul_lt h2, hy2, by show k' ≤ 13; omega, h4⟩, Nat.lt_succ_self _, .cons rfl (.cons rfl (.cons rfl (.nil _))), fun w h => h⟩
      | exact ⟨(k', o, gmul x x, y / 2), ⟨h1, gmul_lt h2, hy2, by show k' ≤ 13; omega, h4⟩, Nat.lt_succ_self _, .cons rfl (.cons rfl (.cons rfl (.nil _))), fun w h => h⟩
   ·simp only [decide_eq_true_eq, decide_eq_false_iff_not] at hc1
    rw [if_neg (show ¬ y % 2 = 1 by omega)] at h4
    refine WC.skip ?_
    refine WC.sr ?_
    refine WL.val (V.move (OV.p rfl)) rfl ?_
    refine WL.val (V.move (OV.p rfl)) rfl ?_
    refine WL.call (vs := [_, _]) Tryz.call202 ⟨OV.p rfl, OV.p rfl, trivial⟩ (ref02_Mul h2 h2) rfl ?_
    rintro _ H0 ⟨rfl, h0⟩
    subst H0
    refine WL.val (V.assign (OV.p rfl)) rfl ?_
    refine WL.nil ?_
    refine WC.region ?_
    refine WL.val (V.move (OV.p rfl)) rfl ?_
    refine WL.val (V.quoI (OV.p rfl) (OV.p rfl) (fun hc => by first | omega | (simp at hc; omega))) rfl ?_
    refine WL.val (V.assign (OV.p rfl)) rfl ?_
    refine WL.nil ?_
    refine ⟨rfl, ?_⟩
    first
      | exact ⟨(k', gmul o x, gmul x x, y / 2), ⟨gmul_lt h1, gmul_lt h2, hy2, by show k' ≤ 13; omega, h4⟩, Nat.lt_succ_self _, .cons rfl (.cons rfl (.cons rfl (.nil _))), fun w h => h⟩
      | exact ⟨(k', o, gmul x x, y / 2), ⟨h1, gmul_lt h2, hy2, by show k' ≤ 13; omega, h4⟩, Nat.lt_succ_self _, .cons rfl (.cons rfl (.cons rfl (.nil _))), fun w h => h⟩
  ·simp only [decide_eq_true_eq, decide_eq_false_iff_not] at hc0
   have hy0 : y = 0 := by omega
   refine WC.exit ?_
   refine WC.sr ?_
   refine WL.val (V.move (OV.p rfl)) rfl ?_
   refine WL.val (V.assign (OV.p rfl)) rfl ?_
   refine WL.nil ?_
   refine WC.ret ?_
   refine BodyQ.ret (H' := F) (Res.tmp rfl rfl) (fun w h => h) ⟨?_, rfl⟩
   have : o = gpow a m := by
     rw [← h4, hy0]
     cases k <;> simp [gpowF]
   rw [this]
theorem ref02_Exp {n : Nat} (hn : n < 8191) : Tells Tryz.prog 200 #[.int .i64 (n : Int)] K F (.int .i64 (gexp (n : Int) : Nat)) := by
  have hg : gexp (n : Int) = gpow 2 n := by unfold gexp; congr 1; omega
  rw [hg]
  refine Does.enter Tryz.func200 rfl Tryz.ntmps200 rfl ?_
  simp only [env0, Nat.reduceAdd]
  refine WC.sr ?_
  refine WL.val (V.assign (OV.p rfl)) rfl ?_
  refine WL.nil ?_
  refine WC.sr ?_
  refine WL.val (V.move (OV.p rfl)) rfl ?_
  refine WL.val (V.val_eq (v' := .int .i64 (n : Int)) (V.remI (OV.p rfl) (OV.p rfl) (fun _ => by omega)) (fun _ => by congr 1; omega)) rfl ?_
  refine WL.val (V.assign (OV.p rfl)) rfl ?_
  refine WL.nil ?_
  refine WC.seq ?_
  refine WC.sr ?_
  refine WL.val (V.move (OV.p rfl)) rfl ?_
  refine WL.val (V.lss (OV.p rfl) (OV.p rfl)) rfl ?_
  refine WL.nil ?_
  refine WC.condF' rfl ((decide_eq_false (by omega))) ?_
  refine WC.skip ?_
  refine WC.sr ?_
  refine WL.val (V.move (OV.p rfl)) rfl ?_
  refine WL.call (vs := [_, _]) Tryz.call211 ⟨OV.p rfl, OV.p rfl, trivial⟩ (ref02_Pow (a := 2) (m := n) (by decide) (by omega)) rfl ?_
  rintro _ H0 ⟨rfl, h0⟩
  subst H0
  refine WL.val (V.assign (OV.p rfl)) rfl ?_
  refine WL.nil ?_
  refine WC.ret ?_
  exact BodyQ.ret (H' := F) (Res.tmp rfl rfl) (fun w h => h) ⟨rfl, rfl⟩
theorem ref04_Degree {A : Option Addr} {m cap : Nat} {xs : List Nat} (hs : Seq K F A m 1 (nats .i64 xs)) (hm : m ≤ 1000000) : Tells Tryz.prog 199 #[.slice A m cap] K F (.int .i64 ((normLen xs m : Int) - 1)) := by
  refine Does.enter Tryz.func199 rfl Tryz.ntmps199 rfl ?_
  simp only [env0, Nat.reduceAdd]
  refine WC.sr ?_
  refine WL.val (V.assign (OV.p rfl)) rfl ?_
  refine WL.nil ?_
  refine WC.sr ?_
  refine WL.val (V.move (OV.p rfl)) rfl ?_
  refine WL.val (V.len (t := 42) Tryz.runUnderlying42 (OV.p rfl)) rfl ?_
  refine WL.val (V.subI (OV.p rfl) (OV.p rfl) (fun hc => by first | omega | (simp at hc; omega))) rfl ?_
  refine WL.val (V.assign (OV.p rfl)) rfl ?_
  refine WL.nil ?_
  refine WC.seq ?_
  refine WC.block ?_
  refine WC.loop (σ := Nat) (fun j => [(0, .slice A m cap), (3, .int .i64 ((j : Int) - 1))]) (fun _ => F) (fun j => j ≤ m ∧ normLen xs j = normLen xs m) (fun j => j) m ⟨Nat.le_refl _, rfl⟩ (.cons rfl (.cons rfl (.nil _))) (fun w h => h) ?_
  rintro j ⟨hj, hn⟩
  have hrd : 0 < j → Rd K F (A.map (·.add (((j : Int) - 1).toNat * 1))) (.int .i64 (xs.getD (j - 1) 0 : Nat)) := fun h => by
    rw [show ((j : Int) - 1).toNat = j - 1 by omega]; exact hs.nat_rd (by omega)
  refine WC.seq ?_
  refine WC.sr ?_
  refine WL.val (V.move (OV.p rfl)) rfl ?_
  refine WL.val (V.geq (OV.p rfl) (OV.p rfl)) rfl ?_
  refine WL.val (V.move (OV.p rfl)) rfl ?_
  refine WL.valG (oj := _) rfl rfl rfl GC.t (V.move (OV.p rfl)) rfl ?_
  refine WL.valG (oj := _) rfl rfl rfl GC.t (V.move (OV.p rfl)) rfl ?_
  refine WL.valG (oj := _) rfl rfl rfl GC.t (V.idxS st42 (OV.g rfl id) (OV.g rfl id) (fun hc => by simp at hc; omega) (fun hc => hrd (by simp at hc; omega))) rfl ?_
  refine WL.valG (oj := _) rfl rfl rfl GC.t (V.load Tryz.isAgg3 (OV.g rfl id) (fun hc => hrd (by simp at hc; omega))) rfl ?_
  refine WL.valG (oj := _) rfl rfl rfl GC.t (V.eql (OV.g rfl id) (OV.p rfl)) rfl ?_
  refine WL.val (V.pickAnd (OV.p rfl) (OV.g rfl id)) rfl ?_
  refine WL.nil ?_
  refine WC.cond rfl (fun hc0 => ?_) (fun hc0 => ?_)
  ·simp only [Bool.and_eq_true, Bool.and_eq_false_iff, decide_eq_true_eq, decide_eq_false_iff_not] at hc0
   have h0 := hc0
   refine WC.skip ?_
   refine WC.block ?_
   refine WC.region ?_
   refine WL.val (V.move (OV.p rfl)) rfl ?_
   refine WL.val (V.subI (OV.p rfl) (OV.p rfl) (fun hc => by first | omega | (simp at hc; omega))) rfl ?_
   refine WL.val (V.assign (OV.p rfl)) rfl ?_
   refine WL.nil ?_
   refine ⟨rfl, ?_⟩
   refine ⟨j - 1, ⟨by show j - 1 ≤ m; omega, ?_⟩, (by show j - 1 < j; omega), .cons rfl (.cons (look_eq rfl (by congr 1; omega)) (.nil _)), fun w h => h⟩
   obtain ⟨i, rfl⟩ : ∃ i, j = i + 1 := ⟨j - 1, by omega⟩
   rw [← hn, normLen, if_pos (by have := h0.2; simp at this ⊢; omega)]; rfl
  ·simp only [Bool.and_eq_true, Bool.and_eq_false_iff, decide_eq_true_eq, decide_eq_false_iff_not] at hc0
   have h0 := hc0
   refine WC.exit ?_
   refine WC.sr ?_
   refine WL.val (V.move (OV.p rfl)) rfl ?_
   refine WL.val (V.assign (OV.p rfl)) rfl ?_
   refine WL.nil ?_
   refine WC.ret ?_
   refine BodyQ.ret (H' := F) (Res.tmp rfl rfl) (fun w h => h) ⟨?_, rfl⟩
   have : normLen xs m = j := by
     rw [← hn]
     cases j with
     | zero => rfl
     | succ i =>
       rw [normLen, if_neg]
       intro hz
       rcases h0 with h1 | h1
       · omega
       · have h2 : ¬ ((xs.getD i 0 : Nat) : Int) = 0 := h1
         exact h2 (by rw [hz]; rfl)
   rw [this]
end
end Go.Proofs.YtohkefolnmcjnaaGreat
