import Derived.Test.YtcmojpiokjhmhaaGreatP13
namespace Go.Proofs.YtcmojpiokjhmhaaGreat
open Go.Sl Go.RowKit
set_option linter.unusedVariables false
set_option linter.unusedSimpArgs false
set_option maxRecDepth 20000
def yH : Option (LL × Nat) → List Nat
  | none => []
  | some (p, _) => p.1
def JI : Option (LL × Nat) → Nat
  | none => 0
  | some (_, n) => n
def Qo : Option (LL × Nat) → Nat
  | none => 50
  | some _ => 0
theorem _root_.Go.Sl.Seq.pre {K : World} {H : List ak} {b T m : Nat} {cs vs : List Value} (hl : vs.length = m) : Seq K (Cells b T (vs ++ cs) :: H) (some ⟨b, 0, none⟩) m 1 vs := Seq.here (by rw [hl, Nat.mul_one]) (by rw [List.drop_zero]; exact List.prefix_append _ _)
theorem _root_.Go.Sl.Does.post_ {P : Program} {K : World} {F : List ak} {f : FuncId} {args : Array Value} {post post' : Value → List ak → Prop} (h : Does P f args K F post) (hp : ∀ v H', post v H' → ∃ uG, (∀ w, Sat K w H' → Sat K w uG) ∧ post' v uG) : Does P f args K F post' := fun w hw =>
  (h w hw).mono fun e w' ⟨v, H', h1, h2, h3⟩ => by
    obtain ⟨uG, h4, h5⟩ := hp v H' h3
    exact ⟨v, uG, h1, h4 w' h2, h5⟩
section
variable {K : World} {F : List ak}
theorem FU {t : Nat} {A B : Option Addr} {m q cap cap' : Nat} {d mo : List Nat} (ht : 1 ≤ t ∧ t ≤ 8) (hd : Seq K F A m 1 (aA .u8 d)) (hm : Seq K F B q 1 (aA .u8 mo)) (BI : Small 256 d) (OE : Small 256 mo) (hdl : 1 ≤ m ∧ m ≤ 512) (hml : q = ay t) :
    Does Tryz.prog 138 #[.int .i64 (t : Int), .slice A m cap, .slice B q cap'] K F
      (fun v H' => ∃ A' c mA mm mc l, v = .tuple #[.slice A' (yH (lT t d mo)).length c, .slice mA mm mc, .int .i64 (JI (lT t d mo) : Nat), .int .i64 (Qo (lT t d mo) : Nat)] ∧
        eU l A' (yH (lT t d mo)).length 1 (aA .u8 (yH (lT t d mo))) ∧ H' = bG l :: F) := by
  refine Does.post_ (GU ht hd hm BI OE hdl hml) (fun v H' h => ?_)
  cases ho : lT t d mo with
  | none =>
    rw [ho] at h
    obtain ⟨rfl, rfl⟩ := h
    exact ⟨bG [] :: H', fun w hw => Sat.all hw, none, 0, none, 0, 0, [], rfl, eU.nil, rfl⟩
  | some r =>
    obtain ⟨p, n⟩ := r
    rw [ho] at h
    obtain ⟨g1, c1, r1, g2, c2, r2, h1, h2, rfl, rfl⟩ := h
    exact ⟨bG [Cells g1 5 (aA .u8 p.1 ++ r1)] :: F, fun w hw => Sat.all (Sat.sel 2 [0] rfl hw), _, _, _, _, _, _, rfl, eU.here (fun K => Seq.pre (aH _ _)), rfl⟩
end
def I6 (n t : Nat) (raw : List Nat) (j : Nat) : Bool := decide (t < 8 * n - ones (dG n raw j))
def uy (n t : Nat) (raw : List Nat) : Nat → Bool
  | 0 => false
  | j + 1 => uy n t raw j || I6 n t raw j
theorem xQ {n t : Nat} {raw : List Nat} {j : Nat} (h : I6 n t raw j = true) : ∀ k, j < k → uy n t raw k = true
  | 0, hk => absurd hk (Nat.not_lt_zero _)
  | k + 1, hk => by
    rw [uy]
    rcases Nat.lt_or_ge j k with h1 | h1
    · rw [xQ h k h1]; rfl
    · have : j = k := by omega
      subst this; rw [h, Bool.or_true]
def dW (t S n : Nat) (raw : List Nat) : Nat :=
  if raw.getD (S * n) 0 = 0 then 0 else if raw.getD (S * n) 0 ≠ 255 then 60 else if uy n t raw S = true then 60 else 61
section
variable {K : World} {F : List ak}
theorem Jm {bl pg : Int} {S B t : Nat} {A : Option Addr} {m cap : Nat} {raw : List Nat} (hg : (NG bl pg S B t).aD) (hr : Seq K F A m 1 (aA .u8 raw)) (h8 : Small 256 raw) (hm : m = fJ S B t) (hmc : m ≤ cap) :
    aL Tryz.prog 137 #[(NG bl pg S B t).v, .slice A m cap] K F (.int .i64 (dW t S (B + ay t) raw : Nat)) := by
  have hl : raw.length = m := by simpa [aA] using hr.len
  have hN := qM.of hg
  obtain ⟨hs, hb, ht⟩ := hN
  have hmore : 2 ≤ ay t ∧ ay t ≤ 13 := by unfold ay; omega
  obtain ⟨n, hn⟩ : ∃ n, n = B + ay t := ⟨_, rfl⟩
  have hm2 : m = S * n + 1 := by rw [hm, hn]; rfl
  have UE : S * n ≤ 8 * 525 := Nat.mul_le_mul hs.2 (by omega)
  rw [← hn]
  obtain ⟨z, hz⟩ : ∃ z, z = raw.getD (S * n) 0 := ⟨_, rfl⟩
  have hst : dW t S n raw = if z = 0 then 0 else if z ≠ 255 then 60 else if uy n t raw S = true then 60 else 61 := by unfold dW; rw [hz]
  rw [hst]
  have Vg : z < 256 := by rw [hz]; exact h8.at_ (by decide) _
  have hlast : ∀ {X : ak}, Rd K (X :: F) (A.map (·.add (((m : Int) - 1).toNat * 1))) (.int .u8 (z : Nat)) := fun {X} => by
    rw [show ((m : Int) - 1).toNat = S * n by omega, hz]; exact (hr.gU (by omega)).up
  refine Does.enter Tryz.func137 rfl Tryz.ntmps137 rfl ?_
  simp only [aI, Nat.reduceAdd]
  refine WC.sr ?_
  refine WL.box (cs := [_, _, _, _, _]) (OV.p rfl) rfl rfl (fun b2 => ?_)
  refine WL.sg rfl rfl (WL.nil (WC.seq (WC.sr (WL.mv rfl rfl (WL.mv rfl rfl (WL.val (V.len (t := 43) Tryz.runUnderlying43 (OV.p rfl)) rfl (WL.sb rfl rfl rfl ?_)))))))
  refine WL.val (V.dS fE (OV.p rfl) (OV.p rfl) (fun hc => by omega) (fun hc => hlast)) rfl ?_
  refine WL.val (V.load Tryz.isAgg5 (OV.p rfl) (fun hc => hlast)) rfl ?_
  refine WL.sg rfl rfl (WL.nil (WC.block (WC.sr (WL.mv rfl rfl (WL.val (V.eql (OV.p rfl) (OV.p rfl)) rfl (WL.sg rfl rfl (WL.nil ?_)))))))
  refine WC.cond rfl (fun hc0 => ?_) (fun hc0 => ?_)
  ·simp only [decide_eq_true_eq, decide_eq_false_iff_not] at hc0
   rw [if_pos (by omega)]
   refine WC.sr (WL.sg rfl rfl (WL.nil (WC.ret ?_)))
   exact au.ret (H' := F) (aO.tmp rfl rfl) (fun w h => h.drop 1) ⟨rfl, rfl⟩
  ·simp only [decide_eq_true_eq, decide_eq_false_iff_not] at hc0
   rw [if_neg (by omega)]
   refine WC.sr (WL.mv rfl rfl (WL.val (V.neq (OV.p rfl) (OV.p rfl)) rfl (WL.sg rfl rfl (WL.nil ?_))))
   refine WC.cond rfl (fun hc1 => ?_) (fun hc1 => ?_)
   ·simp only [decide_eq_true_eq, decide_eq_false_iff_not, Bool.not_eq_true', Bool.not_eq_false'] at hc1
    rw [if_pos (by omega)]
    refine WC.sr (WL.sg rfl rfl (WL.nil (WC.ret ?_)))
    exact au.ret (H' := F) (aO.tmp rfl rfl) (fun w h => h.drop 1) ⟨rfl, rfl⟩
   ·simp only [decide_eq_true_eq, decide_eq_false_iff_not, Bool.not_eq_true', Bool.not_eq_false'] at hc1
    rw [if_neg (by omega)]
    refine WC.skip (WC.sr ?_)
    refine WL.val (V.bB (vs := [_, _, _, _, _]) ⟨Tryz.isAgg23, Tryz.sizeOf23⟩ (OV.p rfl) rfl (fun _ => by repeat (first | exact bD.gets ⟨rfl, rfl, rfl, rfl, rfl, trivial⟩ | apply bD.up))) rfl ?_
    refine WL.call (vs := [_]) Tryz.call78 ⟨OV.p rfl, trivial⟩ (aL.eq (v' := .int .i64 (n : Int)) (wK (NG bl pg S B t) hg _ _) (by rw [NG.whole, hn])) rfl ?_
    rintro _ H0 ⟨rfl, h0⟩
    subst H0
    refine WL.sg rfl rfl (WL.nil (WC.seq (WC.sr (WL.sg rfl rfl (WL.nil (WC.block ?_))))))
    refine WC.loop (σ := Nat) (fun j => [(1, .slice A m cap), (2, ptr b2 0), (6, .int .i64 (n : Int)), (7, .int .i64 ((j * n : Nat) : Int))]) (fun _ => Cells b2 23 [.int .i64 bl, .int .i64 pg, .int .i64 (S : Int), .int .i64 (B : Int), .int .i64 (t : Int)] :: F) (fun j => j ≤ S ∧ uy n t raw j = false) (fun j => S - j) 0 ⟨Nat.zero_le _, rfl⟩ (.cons rfl (.cons rfl (.cons rfl (.cons (look_eq rfl (by simp)) (.nil _))))) (fun w h => h) ?_
    rintro j ⟨hj, hjt⟩
    have hjn : j * n ≤ S * n := Nat.mul_le_mul_right _ hj
    refine WC.seq (WC.sr (WL.mv rfl rfl (WL.mv rfl rfl ?_)))
    refine WL.val (V.lI (OV.p rfl) (OV.p rfl) (fun _ => by omega)) rfl ?_
    refine WL.mv rfl rfl (WL.val (V.len (t := 43) Tryz.runUnderlying43 (OV.p rfl)) rfl (WL.val (V.lss (OV.p rfl) (OV.p rfl)) rfl (WL.nil ?_)))
    refine WC.cond rfl (fun hc2 => ?_) (fun hc2 => ?_)
    ·simp only [decide_eq_true_eq, decide_eq_false_iff_not] at hc2
     have MS : j < S := by
       rcases Nat.lt_or_ge j S with h | h
       · exact h
       · exfalso
         have : j = S := by omega
         rw [this] at hc2
         omega
     have hj1 : (j + 1) * n ≤ S * n := Nat.mul_le_mul_right _ MS
     rw [Nat.succ_mul] at hj1
     have Ja : Seq K F (A.map (·.add (j * n * 1))) n 1 (aA .u8 (dG n raw j)) := by
       have h1 := Seq.Gm hr (l := j * n) (u := cap) (by omega) hmc
       rw [if_neg (by omega)] at h1
       have h2 := Seq.take h1 (show n ≤ m - j * n by omega)
       rw [ni, gG] at h2; exact h2
     have hon := Db (dG n raw j)
     have hsl : (dG n raw j).length = n := by unfold dG; rw [List.length_take, List.length_drop]; omega
     rw [hsl] at hon
     refine WC.skip (WC.seq (WC.block (WC.seq ?_)))
     refine WC.eG (by kernel_rfl) (by kernel_rfl) ?_
     refine WQ.val (V.move (OV.p rfl)) rfl ?_
     refine WQ.val (V.jF (OV.p rfl) (OV.p rfl) (fun hc => by first | omega | (simp at hc; omega))) rfl ?_
     refine WQ.val (V.move (OV.p rfl)) rfl (WQ.val (V.move (OV.p rfl)) rfl (WQ.val (V.move (OV.p rfl)) rfl (WQ.val (V.move (OV.p rfl)) rfl ?_)))
     refine WQ.val (V.lI (OV.p rfl) (OV.p rfl) (fun _ => by omega)) rfl ?_
     refine WQ.val (V.aC (v' := .slice (A.map (·.add (j * n * 1))) n (cap - j * n)) (V.slice (l := j * n) (h := j * n + n) (u := cap) fE (OV.p rfl) (OO.some (OV.p rfl) (fun _ => rfl)) (OO.some (OV.p rfl) (fun _ => by omega)) OO.none (by simp) (by omega) (by omega) (Nat.le_refl _)) (fun _ => by rw [if_neg (by omega), Nat.add_sub_cancel_left])) rfl ?_
     refine WQ.call (vs := [_]) Tryz.call150 ⟨OV.p rfl, trivial⟩ (BS Ja.up (fV h8 j) (by omega)) rfl ?_
     refine WQ.val (V.tu (OV.p rfl) (OV.p rfl) (fun hc => by first | omega | (simp at hc; omega))) rfl ?_
     refine WQ.val (V.fieldAddr oJ (OV.p rfl)) rfl ?_
     refine WQ.val (V.load Tryz.isAgg3 (OV.p rfl) (fun _ => by repeat (first | exact Rd.here rfl | apply Rd.up))) rfl ?_
     refine WQ.val (V.gtr (OV.p rfl) (OV.p rfl)) rfl (WQ.nil ?_)
     refine WC.cond rfl (fun hc3 => ?_) (fun hc3 => ?_)
     ·simp only [decide_eq_true_eq, decide_eq_false_iff_not] at hc3
      have hto : I6 n t raw j = true := decide_eq_true (by omega)
      refine WC.sr (WL.sg rfl rfl (WL.nil (WC.ret ?_)))
      rw [if_pos (xQ hto S MS)]
      exact au.ret (H' := F) (aO.tmp rfl rfl) (fun w h => h.drop 1) ⟨rfl, rfl⟩
     ·simp only [decide_eq_true_eq, decide_eq_false_iff_not] at hc3
      have hto : I6 n t raw j = false := decide_eq_false (by omega)
      refine WC.skip (WC.region (WL.mv rfl rfl (WL.mv rfl rfl ?_)))
      refine WL.val (V.aC (v' := .int .i64 (((j + 1) * n : Nat) : Int)) (V.lI (OV.p rfl) (OV.p rfl) (fun _ => by omega)) (fun _ => by rw [Nat.succ_mul]; simp)) rfl ?_
      refine WL.sg rfl rfl (WL.nil ?_)
      refine ⟨rfl, ?_⟩
      exact ⟨j + 1, ⟨MS, by rw [uy, hjt, hto]; rfl⟩, (by show S - (j + 1) < S - j; omega), .cons rfl (.cons rfl (.cons rfl (.cons rfl (.nil _)))), fun w h => h⟩
    ·simp only [decide_eq_true_eq, decide_eq_false_iff_not] at hc2
     refine WC.exit (WC.sr (WL.sg rfl rfl (WL.nil (WC.ret ?_))))
     obtain rfl : j = S := by
       rcases Nat.lt_or_ge j S with h | h
       · exfalso
         have hj1 : (j + 1) * n ≤ S * n := Nat.mul_le_mul_right _ h
         rw [Nat.succ_mul] at hj1
         omega
       · omega
     rw [hjt]
     exact au.ret (H' := F) (aO.tmp rfl rfl) (fun w h => h.drop 1) ⟨rfl, rfl⟩
end
def uH (B n : Nat) (raw : List Nat) (j : Nat) : List Nat := (raw.drop (j * n)).take B
def EW (B n : Nat) (raw : List Nat) (j : Nat) : List Nat := ((raw.drop (j * n)).drop B).take (n - B)
def uw (t B n : Nat) (raw : List Nat) (j : Nat) : Option (LL × Nat) := lT t (uH B n raw j) (EW B n raw j)
structure wF where
  A : Option Addr
  c : Nat
  o : Option (LL × Nat)
abbrev wF.cells (r : wF) : List Value := [.slice r.A (yH r.o).length r.c, .int .i64 (JI r.o : Nat), .int .i64 (Qo r.o : Nat)]
def gD (rs : List wF) : List Value := rs.flatMap wF.cells
def LX (l : List ak) (rs : List wF) : Prop := ∀ r ∈ rs, eU l r.A (yH r.o).length 1 (aA .u8 (yH r.o))
theorem yM (rs ss : List wF) : gD (rs ++ ss) = gD rs ++ gD ss := List.flatMap_append
theorem vQ : ∀ (rs : List wF) (k : Nat) (r : wF), rs[k]? = some r → ∀ i v, r.cells[i]? = some v → (gD rs)[k * 3 + i]? = some v
  | [], k, r, h => by simp at h
  | r' :: rs, 0, r, h => fun i v hi => by
    simp only [List.getElem?_cons_zero, Option.some.injEq] at h
    subst h
    unfold gD
    rw [List.flatMap_cons, Nat.zero_mul, Nat.zero_add, List.getElem?_append_left (List.getElem?_eq_some_iff.1 hi).1]
    exact hi
  | r' :: rs, k + 1, r, h => fun i v hi => by
    have ih := vQ rs k r (by simpa using h) i v hi
    unfold gD at ih ⊢
    rw [List.flatMap_cons, List.getElem?_append_right (by simp [wF.cells]; omega)]
    rw [← ih]
    congr 1
    simp [wF.cells]; omega
section
variable {K : World} {F : List ak}
theorem zW {bl pg : Int} {S B t : Nat} {A : Option Addr} {m cap : Nat} {raw : List Nat} (hg : (NG bl pg S B t).aD) (hr : Seq K F A m 1 (aA .u8 raw)) (h8 : Small 256 raw) (hm : m = fJ S B t) (hmc : m ≤ cap) :
    Does Tryz.prog 116 #[(NG bl pg S B t).v, .slice A m cap] K F
      (fun v H' => (dW t S (B + ay t) raw ≠ 0 ∧ v = .tuple #[.slice none 0 0, .int .i64 (dW t S (B + ay t) raw : Nat)] ∧ H' = F) ∨
        (dW t S (B + ay t) raw = 0 ∧ ∃ A' cap' l rs, v = .tuple #[.slice A' S cap', .int .i64 0] ∧ rs.map wF.o = (List.range S).map (uw t B (B + ay t) raw) ∧ LX l rs ∧
          H' = aU (.slice A' S cap') 175 3 S (gD rs) :: bG l :: F)) := by
  have hl : raw.length = m := by simpa [aA] using hr.len
  have hmay : (NG bl pg S B t).may = true := decide_eq_true hg
  have hN := qM.of hg
  obtain ⟨hs, hb, ht⟩ := hN
  have hmore : 2 ≤ ay t ∧ ay t ≤ 13 := by unfold ay; omega
  have hst := fun (K : World) (F : List ak) (hr : Seq K F A m 1 (aA .u8 raw)) => Jm hg hr h8 hm hmc
  obtain ⟨n, hn⟩ : ∃ n, n = B + ay t := ⟨_, rfl⟩
  have hm2 : m = S * n + 1 := by rw [hm, hn]; rfl
  have UE : S * n ≤ 8 * 525 := Nat.mul_le_mul hs.2 (by omega)
  rw [← hn] at hst ⊢
  obtain ⟨st, Na⟩ : ∃ st, st = dW t S n raw := ⟨_, rfl⟩
  rw [← Na] at hst ⊢
  have qO : st < 100 := by rw [Na]; unfold dW; repeat (first | split | decide)
  refine Does.enter Tryz.func116 rfl Tryz.ntmps116 rfl ?_
  simp only [aI, Nat.reduceAdd]
  refine WC.sr ?_
  refine WL.box (cs := [_, _, _, _, _]) (OV.p rfl) rfl rfl (fun b2 => ?_)
  refine WL.sg rfl rfl (WL.sg rfl rfl (WL.nil (WC.sr ?_)))
  refine WL.val (V.bB (vs := [_, _, _, _, _]) ⟨Tryz.isAgg23, Tryz.sizeOf23⟩ (OV.p rfl) rfl (fun _ => by repeat (first | exact bD.gets ⟨rfl, rfl, rfl, rfl, rfl, trivial⟩ | apply bD.up))) rfl ?_
  refine WL.call (vs := [_]) Tryz.call45 ⟨OV.p rfl, trivial⟩ (aL.eq (v' := .tuple #[.int .i64 (m : Int), .int .i64 0]) (D7 (NG bl pg S B t) _ _) (by rw [hmay, NG.raw, hm]; rfl)) rfl ?_
  rintro _ H0 ⟨rfl, h0⟩
  subst H0
  refine WL.mv rfl rfl (WL.xt rfl rfl rfl (WL.xt rfl rfl rfl (WL.sg rfl rfl (WL.sg rfl rfl (WL.nil (WC.seq (WC.sr (WL.mv rfl rfl (WL.val (V.neq (OV.p rfl) (OV.p rfl)) rfl (WL.mv rfl rfl (WL.av (oj := _) rfl rfl rfl GC.f (V.move (OV.p rfl)) rfl (WL.av (oj := _) rfl rfl rfl GC.f (V.len (t := 43) Tryz.runUnderlying43 (OV.g rfl id)) rfl (WL.av (oj := _) rfl rfl rfl GC.f (V.move (OV.p rfl)) rfl (WL.av (oj := _) rfl rfl rfl GC.f (V.neq (OV.g rfl id) (OV.g rfl id)) rfl (WL.val (V.bH (OV.p rfl) (OV.g rfl id)) rfl (WL.nil ?_))))))))))))))))
  refine WC.aQ rfl (by first | rfl | (simp; done) | (simp; omega)) ?_
  refine WC.skip (WC.seq (WC.sr ?_))
  refine WL.val (V.bB (vs := [_, _, _, _, _]) ⟨Tryz.isAgg23, Tryz.sizeOf23⟩ (OV.p rfl) rfl (fun _ => by repeat (first | exact bD.gets ⟨rfl, rfl, rfl, rfl, rfl, trivial⟩ | apply bD.up))) rfl ?_
  refine WL.mv rfl rfl (WL.call (vs := [_, _]) Tryz.call137 ⟨OV.p rfl, OV.p rfl, trivial⟩ (hst _ _ hr.up) rfl ?_)
  rintro _ H0 ⟨rfl, h0⟩
  subst H0
  refine WL.sg rfl rfl (WL.nil (WC.sr (WL.mv rfl rfl (WL.val (V.neq (OV.p rfl) (OV.p rfl)) rfl (WL.nil ?_)))))
  refine WC.cond rfl (fun hc1 => ?_) (fun hc1 => ?_)
  ·simp only [decide_eq_true_eq, decide_eq_false_iff_not, Bool.not_eq_true', Bool.not_eq_false'] at hc1
   have h1 := hc1
   refine WC.sr (WL.mv rfl rfl (WL.sg rfl rfl (WL.sg rfl rfl (WL.nil (WC.ret ?_)))))
   exact au.ret (H' := F) (aO.fD rfl rfl rfl) (fun w h => h.drop 1) (.inl ⟨by omega, rfl, rfl⟩)
  ·simp only [decide_eq_true_eq, decide_eq_false_iff_not, Bool.not_eq_true', Bool.not_eq_false'] at hc1
   have h1 := hc1
   refine WC.skip (WC.sr (WL.sg rfl rfl (WL.nil (WC.seq (WC.sr (WL.val (V.fieldAddr oL (OV.p rfl)) rfl (WL.ld Tryz.isAgg3 rfl rfl ?_)))))))
   refine WL.mv rfl rfl (WL.nil (WC.block ?_))
   refine WC.loop (σ := Nat × Option Addr × Nat × Option Addr × Nat × List ak × List wF) (fun x => [(1, .slice x.2.1 (m - x.1 * n) x.2.2.1), (2, ptr b2 0), (9, .slice x.2.2.2.1 x.1 x.2.2.2.2.1), (32, .int .i64 (S : Int)), (33, .int .i64 (x.1 : Int))]) (fun x => aU (.slice x.2.2.2.1 x.1 x.2.2.2.2.1) 175 3 x.1 (gD x.2.2.2.2.2.2) :: bG x.2.2.2.2.2.1 :: Cells b2 23 [.int .i64 bl, .int .i64 pg, .int .i64 (S : Int), .int .i64 (B : Int), .int .i64 (t : Int)] :: F) (fun x => x.1 ≤ S ∧ m - x.1 * n ≤ x.2.2.1 ∧ Seq K F x.2.1 (m - x.1 * n) 1 (aA .u8 (raw.drop (x.1 * n))) ∧ x.2.2.2.2.2.2.map wF.o = (List.range x.1).map (uw t B n raw) ∧ LX x.2.2.2.2.2.1 x.2.2.2.2.2.2) (fun x => S - x.1) (0, A, cap, none, 0, [], []) ⟨Nat.zero_le _, by show m - 0 * n ≤ cap; omega, by simpa using hr, rfl, fun r hr => by simp at hr⟩ (.cons (look_eq rfl (by simp)) (.cons rfl (.cons rfl (.cons rfl (.cons rfl (.nil _)))))) (fun w h => Sat.fO (Sat.all h) 175 3) ?_
   rintro ⟨j, Aj, cj, Ao, co, la, rs⟩ ⟨hj, hjc, hjs, hrs, hin⟩
   dsimp only at hj hjc hjs hrs hin ⊢
   have hjn : j * n ≤ S * n := Nat.mul_le_mul_right _ hj
   have hrl : rs.length = j := by have := congrArg List.length hrs; simpa using this
   refine WC.sr (WL.val (V.lss (OV.p rfl) (OV.p rfl)) rfl (WL.nil (WC.seq ?_)))
   refine WC.cond rfl (fun hc2 => ?_) (fun hc2 => ?_)
   ·simp only [decide_eq_true_eq, decide_eq_false_iff_not] at hc2
    refine WC.skip (WC.seq (WC.block (WC.seq ?_)))
    have MS : j < S := by omega
    have hj1 : (j + 1) * n ≤ S * n := Nat.mul_le_mul_right _ MS
    rw [Nat.succ_mul] at hj1
    have hsd : Seq K F Aj B 1 (aA .u8 (uH B n raw j)) := by
      have h1 := Seq.take hjs (show B ≤ m - j * n by omega)
      rw [gG] at h1; exact h1
    have hsm : Seq K F (Aj.map (·.add (B * 1))) (n - B) 1 (aA .u8 (EW B n raw j)) := by
      have h1 := Seq.Gm hjs (l := B) (u := cj) (by omega) hjc
      rw [if_neg (by omega)] at h1
      have h2 := Seq.take h1 (show n - B ≤ m - j * n - B by omega)
      rw [ni, gG] at h2; exact h2
    refine WC.region ?_
    refine WL.val (V.bB (vs := [_, _, _, _, _]) ⟨Tryz.isAgg23, Tryz.sizeOf23⟩ (OV.p rfl) rfl (fun _ => by repeat (first | exact bD.gets ⟨rfl, rfl, rfl, rfl, rfl, trivial⟩ | apply bD.up))) rfl ?_
    refine WL.call (vs := [_]) Tryz.call78 ⟨OV.p rfl, trivial⟩ (aL.eq (v' := .int .i64 (n : Int)) (wK (NG bl pg S B t) hg _ _) (by rw [NG.whole, hn])) rfl ?_
    rintro _ H0 ⟨rfl, h0⟩
    subst H0
    refine WL.sg rfl rfl (WL.nil (WC.sr ?_))
    refine WL.alloc (cs := [(.slice none 0 0), (.int .i64 0), (.int .i64 0)]) Tryz.zeroValue175 rfl rfl (fun b11 => ?_)
    refine WL.nil (WC.seq ?_)
    refine WC.dR (aU (.slice Ao j co) 175 3 j (gD rs) :: bG la :: Cells b2 23 [.int .i64 bl, .int .i64 pg, .int .i64 (S : Int), .int .i64 (B : Int), .int .i64 (t : Int)] :: F) (by kernel_rfl) ?_
    refine WA.t 0 rfl (V.fieldAddr oJ (OV.p rfl)) ?_
    refine WA.t 1 rfl (V.load Tryz.isAgg3 (OV.p rfl) (fun _ => by repeat (first | exact Rd.here rfl | apply Rd.up))) ?_
    refine WA.t 2 rfl (V.move (OV.p rfl)) (WA.t 3 rfl (V.fieldAddr ig (OV.p rfl)) ?_)
    refine WA.t 4 rfl (V.load Tryz.isAgg3 (OV.p rfl) (fun _ => by repeat (first | exact Rd.here rfl | apply Rd.up))) ?_
    refine WA.t 5 rfl (V.fieldAddr ig (OV.p rfl)) ?_
    refine WA.t 6 rfl (V.load Tryz.isAgg3 (OV.p rfl) (fun _ => by repeat (first | exact Rd.here rfl | apply Rd.up))) ?_
    refine WA.t 7 rfl (V.aC (v' := .slice Aj B B) (V.slice (l := 0) (h := B) (u := B) fE (OV.p rfl) OO.none (OO.some (OV.p rfl) (fun _ => rfl)) (OO.some (OV.p rfl) (fun _ => rfl)) (by simp) (Nat.zero_le _) (Nat.le_refl _) (by omega)) (fun _ => by rw [show (B - 0 : Nat) = B from rfl]; cases Aj <;> simp [Addr.add])) ?_
    refine WA.t 8 rfl (V.move (OV.p rfl)) (WA.t 9 rfl (V.fieldAddr ig (OV.p rfl)) ?_)
    refine WA.t 10 rfl (V.load Tryz.isAgg3 (OV.p rfl) (fun _ => by repeat (first | exact Rd.here rfl | apply Rd.up))) ?_
    refine WA.t 11 rfl (V.move (OV.p rfl)) (WA.t 12 rfl (V.move (OV.p rfl)) ?_)
    refine WA.t 13 rfl (V.aC (v' := .slice (Aj.map (·.add (B * 1))) (n - B) (n - B)) (V.slice (l := B) (h := n) (u := n) fE (OV.p rfl) (OO.some (OV.p rfl) (fun _ => rfl)) (OO.some (OV.p rfl) (fun _ => rfl)) (OO.some (OV.p rfl) (fun _ => rfl)) (by simp) (by omega) (Nat.le_refl _) (by omega)) (fun _ => by rw [if_neg (by omega)])) ?_
    refine WA.o 14 rfl ?_
    refine WL.call (vs := [_, _, _]) Tryz.call138 ⟨OV.p rfl, OV.p rfl, OV.p rfl, trivial⟩ (FU ht (by repeat (first | exact hsd | apply Seq.up)) (by repeat (first | exact hsm | apply Seq.up)) (Small.take (Small.drop h8)) (Small.take (Small.drop (Small.drop h8))) (by omega) (by omega)) rfl ?_
    rintro _ _ ⟨A1, c1, mA, mm, mc, l1, rfl, hin1, rfl⟩
    refine WL.nil (WA.t 15 rfl (V.move (OV.p rfl)) (WA.t 16 rfl (V.extract (OV.p rfl) rfl) (WA.t 17 rfl (V.extract (OV.p rfl) rfl) (WA.t 18 rfl (V.extract (OV.p rfl) rfl) (WA.t 19 rfl (V.extract (OV.p rfl) rfl) (WA.t 20 rfl (V.fieldAddr I7 (OV.p rfl)) (WA.o 21 rfl ?_)))))))
    refine WL.store (cs := [_]) Tryz.sizeOf43 (OV.p rfl) (OV.p rfl) rfl rfl rfl (by repeat (first | exact bA.here (cs' := [_, _, _]) rfl rfl | apply bA.up)) ?_
    refine WL.nil (WA.t 22 rfl (V.fieldAddr IG (OV.p rfl)) (WA.o 23 rfl ?_))
    refine WL.store (cs := [_]) Tryz.sizeOf3 (OV.p rfl) (OV.p rfl) rfl rfl rfl (by repeat (first | exact bA.here (cs' := [_, _, _]) rfl rfl | apply bA.up)) ?_
    refine WL.nil (WA.t 24 rfl (V.fieldAddr Dn (OV.p rfl)) (WA.o 25 rfl ?_))
    refine WL.store (cs := [_]) Tryz.sizeOf29 (OV.p rfl) (OV.p rfl) rfl rfl rfl (by repeat (first | exact bA.here (cs' := [_, _, _]) rfl rfl | apply bA.up)) ?_
    refine WL.nil (WA.fin (WC.sr (WL.mv rfl rfl ?_)))
    refine WL.val (V.bB (vs := [_, _, _]) ⟨Tryz.isAgg175, Tryz.sizeOf175⟩ (OV.p rfl) rfl (fun _ => by repeat (first | exact bD.gets ⟨rfl, rfl, rfl, trivial⟩ | apply bD.up))) rfl ?_
    refine WL.buildSlice (E := 175) (cs := [_, _, _]) (vs := [(0, _)]) ⟨OV.p rfl, trivial⟩ rfl (H7 _ _ _) rfl (fun Vy => ?_)
    refine WL.sub (Sub.refl _) (fun w h => h.sel 6 [3, 0, 1, 4, 5] rfl) ?_
    refine WL.append (m := j) (q := 1) Tryz.underlying154 Q8 (OV.p rfl) (OV.p rfl) (Seq.all rfl) (by simp [Value.oneCell']) (by omega) rfl rfl (fun TV Uu hn63 hc63 => ?_)
    refine WL.sg rfl rfl (WL.nil (WC.region (WL.mv rfl rfl (WL.mv rfl rfl ?_))))
    refine WL.val (V.slice (l := n) (h := m - j * n) (u := cj) fE (OV.p rfl) (OO.some (OV.p rfl) (fun _ => rfl)) OO.none OO.none (by simp) (by omega) (by omega) (Nat.le_refl _)) rfl ?_
    refine WL.sg rfl rfl (WL.nil (WC.region (WL.ad rfl rfl rfl ?_)))
    refine WL.mv rfl rfl (WL.nil ?_)
    refine ⟨rfl, ?_⟩
    refine ⟨(j + 1, (if cj = n then Aj else Aj.map (·.add (n * 1))), cj - n, TV, Uu, bG l1 :: la, rs ++ [⟨A1, c1, uw t B n raw j⟩]), ⟨MS, by show m - (j + 1) * n ≤ cj - n; rw [Nat.succ_mul]; omega, ?_, ?_, ?_⟩, (by show S - (j + 1) < S - j; omega), .cons (look_eq rfl (by dsimp only; rw [Nat.succ_mul, Nat.sub_sub])) (.cons rfl (.cons rfl (.cons rfl (.cons (look_eq rfl (by simp)) (.nil _))))), fun w h => ?_⟩
    · have h1 := Seq.Gm hjs (show n ≤ m - j * n by omega) hjc
      rw [ni, List.drop_drop, Nat.sub_sub] at h1
      dsimp only
      rw [Nat.succ_mul]
      exact h1
    · dsimp only
      rw [List.map_append, hrs, List.range_succ, List.map_append]
      rfl
    · intro r hr2
      rcases List.mem_append.1 hr2 with h | h
      · exact (hin r h).up
      · rw [List.mem_singleton] at h
        subst h
        exact eU.here (fun K => eU.seq hin1)
    · have h' := (Sat.Ip (h.sel 5 [2, 3, 0, 4] rfl)).p1
      dsimp only
      rw [yM]
      exact h'
   ·simp only [decide_eq_true_eq, decide_eq_false_iff_not] at hc2
    refine WC.exit (WC.sr (WL.mv rfl rfl (WL.sg rfl rfl (WL.sg rfl rfl (WL.nil (WC.ret ?_))))))
    obtain rfl : j = S := by omega
    exact au.ret (H' := aU (.slice Ao j co) 175 3 j (gD rs) :: bG la :: F) (aO.fD rfl rfl rfl) (fun w h => h.sel 3 [0, 1] rfl) (.inr ⟨by omega, Ao, co, la, rs, rfl, hrs, hin, rfl⟩)
end
structure RR where
  err : Nat
  d : List Nat
  n : Nat
def gJ : List (Option (LL × Nat)) → List Nat → Nat → RR
  | [], d, n => ⟨0, d, n⟩
  | none :: _, _, _ => ⟨50, [], 0⟩
  | some (p, k) :: rest, d, n => gJ rest (d ++ p.1) (max n k)
def dD (t S B : Nat) (raw : List Nat) : RR :=
  if dW t S (B + ay t) raw ≠ 0 then ⟨dW t S (B + ay t) raw, [], 0⟩ else gJ ((List.range S).map (uw t B (B + ay t) raw)) [] 0
theorem IL (t : Nat) (d m : List Nat) (h : d.length ≤ 512) (ht : t ≤ 8) : (yH (lT t d m)).length ≤ d.length ∧ JI (lT t d m) ≤ 5000 := by
  cases ho : lT t d m with
  | none => exact ⟨Nat.zero_le _, Nat.zero_le _⟩
  | some r =>
    unfold lT at ho
    split at ho
    · cases ho
    · split at ho
      · cases ho
      · split at ho
        · cases ho
        · injection ho with ho
          subst ho
          refine ⟨Nat.le_of_eq (jd _ _ _ _ _).1, ?_⟩
          have := Ak t (lU (dQ t (d, dM t m))) (mZ (dQ t (d, dM t m))) (d, dM t m) (13 * t + 8 * d.length)
          show (bJ _ _ _ _ _).2 ≤ 5000
          omega
theorem KY {K : World} {F : List ak} {A : Option Addr} {m cap E s : Nat} {cs : List Value} (hm : 0 < m) : ∀ w, Sat K w (aU (.slice A m cap) E s m cs :: F) → ∃ x : Nat × List Value, (A = some ⟨x.1, 0, none⟩) ∧ Sat K w (Cells x.1 E (cs ++ x.2) :: F) := fun w hw => by
  cases A with
  | none => have := (aU.sM hw).1; omega
  | some a =>
    obtain ⟨g, rfl⟩ := aU.addr hw
    obtain ⟨r, _, h5⟩ := Sat.kH hw
    exact ⟨(g, r), rfl, h5⟩
section
variable {K : World} {F : List ak}
theorem Lj {bl pg : Int} {S B t : Nat} {A : Option Addr} {m cap : Nat} {raw : List Nat} (hg : (NG bl pg S B t).aD) (hr : Seq K F A m 1 (aA .u8 raw)) (h8 : Small 256 raw) (hm : m = fJ S B t) (hmc : m ≤ cap) :
    Does Tryz.prog 97 #[(NG bl pg S B t).v, .slice A m cap] K F
      (fun v H' => ∃ A' cap', v = .tuple #[.slice A' (dD t S B raw).d.length cap', .int .i64 ((dD t S B raw).n : Nat), .int .i64 ((dD t S B raw).err : Nat)] ∧
        H' = aU (.slice A' (dD t S B raw).d.length cap') 5 1 (dD t S B raw).d.length (aA .u8 (dD t S B raw).d) :: F) := by
  have hl : raw.length = m := by simpa [aA] using hr.len
  have hN := qM.of hg
  obtain ⟨hs, hb, ht⟩ := hN
  obtain ⟨R, hR⟩ : ∃ R, R = dD t S B raw := ⟨_, rfl⟩
  rw [← hR]
  unfold dD at hR
  refine Does.enter Tryz.func97 rfl Tryz.ntmps97 rfl ?_
  simp only [aI, Nat.reduceAdd]
  refine WC.sr ?_
  refine WL.box (cs := [_, _, _, _, _]) (OV.p rfl) rfl rfl (fun b2 => ?_)
  refine WL.sg rfl rfl (WL.sg rfl rfl (WL.sg rfl rfl (WL.nil (WC.sr ?_))))
  refine WL.val (V.bB (vs := [_, _, _, _, _]) ⟨Tryz.isAgg23, Tryz.sizeOf23⟩ (OV.p rfl) rfl (fun _ => by repeat (first | exact bD.gets ⟨rfl, rfl, rfl, rfl, rfl, trivial⟩ | apply bD.up))) rfl ?_
  refine WL.mv rfl rfl (WL.call (vs := [_, _]) Tryz.call116 ⟨OV.p rfl, OV.p rfl, trivial⟩ (zW hg hr.up h8 hm hmc) rfl ?_)
  rintro _ _ (⟨hst, rfl, rfl⟩ | ⟨hst, A1, c1, la, rs, rfl, hrs, hin, rfl⟩)
  · rw [if_pos hst] at hR
    obtain ⟨st, Na⟩ : ∃ st, st = dW t S (B + ay t) raw := ⟨_, rfl⟩
    rw [← Na] at hst hR ⊢
    refine WL.val (V.move (OV.p rfl)) rfl (WL.val (V.extract (OV.p rfl) rfl) rfl (WL.val (V.extract (OV.p rfl) rfl) rfl (WL.val (V.assign (OV.p rfl)) rfl (WL.val (V.assign (OV.p rfl)) rfl (WL.nil (WC.seq (WC.seq (WC.region (WL.val (V.move (OV.p rfl)) rfl (WL.val (V.neq (OV.p rfl) (OV.p rfl)) rfl (WL.nil ?_)))))))))))
    refine WC.dV rfl (by simp; omega) ?_
    refine WC.seq (WC.region (WL.val (V.move (OV.p rfl)) rfl (WL.val (V.assign (OV.p rfl)) rfl (WL.val (V.assign (OV.p rfl)) rfl (WL.val (V.assign (OV.p rfl)) rfl (WL.nil (WC.ret ?_)))))))
    exact au.ret (H' := aU (.slice none 0 0) 5 1 0 [] :: F) (aO.r9 rfl rfl rfl rfl) (fun w h => Sat.fO (h.drop 1) _ _) ⟨none, 0, by rw [hR]; rfl, by rw [hR]; rfl⟩
  rw [if_neg (fun h => h hst)] at hR
  refine WL.ex (KY (by omega)) (fun ⟨g1, r1⟩ e1 => ?_)
  dsimp only at e1 ⊢
  subst e1
  refine WL.mv rfl rfl (WL.xt rfl rfl rfl (WL.xt rfl rfl rfl (WL.sg rfl rfl (WL.sg rfl rfl (WL.nil (WC.seq (WC.sr (WL.mv rfl rfl (WL.val (V.neq (OV.p rfl) (OV.p rfl)) rfl (WL.nil ?_))))))))))
  refine WC.aQ rfl (by first | rfl | (simp; done) | (simp; omega)) ?_
  refine WC.skip (WC.sr (WL.sg rfl rfl (WL.nil (WC.sr (WL.sg rfl rfl (WL.nil (WC.seq (WC.seq ?_))))))))
  obtain ⟨os, hos⟩ : ∃ os, os = (List.range S).map (uw t B (B + ay t) raw) := ⟨_, rfl⟩
  rw [← hos] at hrs hR
  have hol : os.length = S := by rw [hos]; simp
  have hrl : rs.length = S := by rw [← hol, ← hrs, List.length_map]
  have Qc : ∀ o ∈ os, (yH o).length ≤ 512 ∧ JI o ≤ 5000 := fun o ho => by
    rw [hos] at ho
    obtain ⟨j, hj, rfl⟩ := List.mem_map.1 ho
    have := IL t (uH B (B + ay t) raw j) (EW B (B + ay t) raw j) (by unfold uH; rw [List.length_take]; omega) ht.2
    have h2 : (uH B (B + ay t) raw j).length ≤ 512 := by unfold uH; rw [List.length_take]; omega
    exact ⟨Nat.le_trans this.1 h2, this.2⟩
  refine WC.region (WL.mv rfl rfl (WL.val (V.len (t := 154) Tryz.runUnderlying154 (OV.p rfl)) rfl (WL.mv rfl rfl (WL.nil (WC.block ?_)))))
  refine WC.loop (σ := Nat × Option Addr × Nat × List Nat × Nat) (fun x => [(22, .slice (some ⟨g1, 0, none⟩) S c1), (23, .int .i64 (S : Int)), (24, .int .i64 (x.1 : Int)), (9, .slice x.2.1 x.2.2.2.1.length x.2.2.1), (10, .int .i64 (x.2.2.2.2 : Int))]) (fun x => aU (.slice x.2.1 x.2.2.2.1.length x.2.2.1) 5 1 x.2.2.2.1.length (aA .u8 x.2.2.2.1) :: Cells g1 175 (gD rs ++ r1) :: bG la :: Cells b2 23 [.int .i64 bl, .int .i64 pg, .int .i64 (S : Int), .int .i64 (B : Int), .int .i64 (t : Int)] :: F) (fun x => x.1 ≤ S ∧ x.2.2.2.1.length ≤ x.1 * 512 ∧ x.2.2.2.2 ≤ 5000 ∧ gJ (os.drop x.1) x.2.2.2.1 x.2.2.2.2 = gJ os [] 0) (fun x => S - x.1) (0, none, 0, [], 0) ⟨Nat.zero_le _, Nat.zero_le _, Nat.zero_le _, rfl⟩ (.cons rfl (.cons rfl (.cons rfl (.cons rfl (.cons rfl (.nil _)))))) (fun w h => Sat.fO h 5 1) ?_
  rintro ⟨k, Ao, co, d, mx⟩ ⟨hk, hdl, hmx, hto⟩
  dsimp only at hk hdl hmx hto ⊢
  refine WC.sr (WL.val (V.lss (OV.p rfl) (OV.p rfl)) rfl (WL.nil (WC.seq ?_)))
  refine WC.cond rfl (fun hc1 => ?_) (fun hc1 => ?_)
  ·simp only [decide_eq_true_eq, decide_eq_false_iff_not] at hc1
   refine WC.skip (WC.seq (WC.block (WC.seq ?_)))
   have TW : k < S := by omega
   obtain ⟨r, hr1⟩ : ∃ r, rs[k]? = some r := ⟨_, List.getElem?_eq_getElem (by omega)⟩
   have hro : os[k]? = some r.o := by rw [← hrs, List.getElem?_map, hr1]; rfl
   have hdr : os.drop k = r.o :: os.drop (k + 1) := by
     rw [List.drop_eq_getElem_cons (by omega)]
     congr 1
     rw [List.getElem?_eq_getElem (by omega)] at hro
     exact Option.some.inj hro
   have RQ := hin r (List.mem_of_getElem? hr1)
   have hrb := Qc r.o (List.mem_of_getElem? hro)
   rw [hdr] at hto
   have O8 : ∀ {X : ak} {H : List ak}, bD K (X :: Cells g1 175 (gD rs ++ r1) :: H) g1 (0 + (k : Int).toNat * 3) r.cells := fun {X H} i v hi => by
     refine Rd.up (Rd.here ?_)
     have h1 := vQ rs k r hr1 i v hi
     rw [show 0 + (k : Int).toNat * 3 = k * 3 by omega, List.getElem?_append_left (List.getElem?_eq_some_iff.1 h1).1]
     exact h1
   refine WC.region ?_
   refine WL.val (V.bR QV (OV.p rfl) (OV.p rfl) (fun hc => by first | omega | (simp at hc; omega))) rfl ?_
   refine WL.val (V.bB (vs := r.cells) ⟨Tryz.isAgg175, Tryz.sizeOf175⟩ (OV.p rfl) rfl (fun _ => O8)) rfl ?_
   refine WL.alloc (cs := [(.slice none 0 0), (.int .i64 0), (.int .i64 0)]) Tryz.zeroValue175 rfl rfl (fun b12 => ?_)
   refine WL.store (cs := [_, _, _]) Tryz.sizeOf175 (OV.p rfl) (OV.p rfl) rfl rfl rfl (by repeat (first | exact bA.here (cs' := [_, _, _]) rfl rfl | apply bA.up)) ?_
   refine WL.nil (WC.seq (WC.sr (WL.val (V.fieldAddr Dn (OV.p rfl)) rfl (WL.ld Tryz.isAgg29 rfl rfl ?_))))
   refine WL.val (V.neq (OV.p rfl) (OV.p rfl)) rfl (WL.nil ?_)
   refine WC.cond rfl (fun hc2 => ?_) (fun hc2 => ?_)
   ·simp only [decide_eq_true_eq, decide_eq_false_iff_not, Bool.not_eq_true', Bool.not_eq_false'] at hc2
    have h2 := hc2
    refine WC.seq ?_
    refine WC.eG (by kernel_rfl) (by kernel_rfl) ?_
    refine WQ.val (V.fieldAddr Dn (OV.p rfl)) rfl ?_
    refine WQ.val (V.load Tryz.isAgg29 (OV.p rfl) (fun _ => by repeat (first | exact Rd.here rfl | apply Rd.up))) rfl ?_
    refine WQ.val (V.assign (OV.p rfl)) rfl (WQ.val (V.assign (OV.p rfl)) rfl (WQ.val (V.assign (OV.p rfl)) rfl (WQ.nil (WC.ret ?_))))
    have hno : r.o = none := by
      cases ho : r.o with
      | none => rfl
      | some q => rw [ho] at h2; exact absurd rfl h2
    have hR2 : R = ⟨50, [], 0⟩ := by rw [hR, ← hto, hno]; rfl
    exact au.ret (H' := aU (.slice none 0 0) 5 1 0 [] :: F) (aO.r9 rfl rfl rfl (look_eq rfl (by rw [hno]))) (fun w h => Sat.fO (h.drop 5) _ _) ⟨none, 0, by rw [hR2]; rfl, by rw [hR2]; rfl⟩
   ·simp only [decide_eq_true_eq, decide_eq_false_iff_not, Bool.not_eq_true', Bool.not_eq_false'] at hc2
    have h2 := hc2
    refine WC.skip (WC.sr (WL.mv rfl rfl (WL.val (V.fieldAddr I7 (OV.p rfl)) rfl (WL.ld Tryz.isAgg43 rfl rfl ?_))))
    obtain ⟨q, hq⟩ : ∃ q, r.o = some q := by
      cases ho : r.o with
      | none => rw [ho] at h2; exact absurd h2 (by decide)
      | some q => exact ⟨q, rfl⟩
    refine WL.sub (Sub.refl _) (fun w h => h.p1) ?_
    refine WL.append (m := d.length) (q := (yH r.o).length) (news := aA .u8 (yH r.o)) Tryz.underlying43 yD (OV.p rfl) (OV.p rfl) (by repeat (first | exact eU.seq RQ | apply Seq.up)) (qz _ _) (by omega) rfl rfl (fun Ug Ua Uy Ut => ?_)
    refine WL.sg rfl rfl (WL.nil (WC.region (WL.mv rfl rfl (WL.val (V.fieldAddr IG (OV.p rfl)) rfl (WL.ld Tryz.isAgg3 rfl rfl ?_)))))
    refine WL.val (V.max (OV.p rfl) (OV.p rfl)) rfl (WL.sg rfl rfl (WL.nil (WC.region (WL.ad rfl rfl rfl ?_))))
    refine WL.mv rfl rfl (WL.nil ?_)
    refine ⟨rfl, ?_⟩
    obtain ⟨⟨p1, p2⟩, nq⟩ := q
    rw [hq] at hrb hto
    have SL : yH r.o = p1 := by rw [hq]; rfl
    have hnq : JI r.o = nq := by rw [hq]; rfl
    refine ⟨(k + 1, Ug, Ua, d ++ p1, max mx nq), ⟨TW, by show (d ++ p1).length ≤ (k + 1) * 512; have := hrb.1; rw [List.length_append]; simp only [yH] at this; omega, by show max mx nq ≤ 5000; have := hrb.2; simp only [JI] at this; omega, by dsimp only; rw [← hto]; rfl⟩, (by show S - (k + 1) < S - k; omega), .cons rfl (.cons rfl (.cons (look_eq rfl (by simp)) (.cons (look_eq rfl (by dsimp only; rw [List.length_append, SL])) (.cons (look_eq rfl (by dsimp only; rw [hnq]; congr 1; omega)) (.nil _))))), fun w h => ?_⟩
    have h' := h.sel 5 [0, 2, 3, 4] rfl
    rw [SL, ← dI, ← List.length_append] at h'
    exact h'
  ·simp only [decide_eq_true_eq, decide_eq_false_iff_not] at hc1
   refine WC.exit (WC.sr (WL.mv rfl rfl (WL.mv rfl rfl (WL.sg rfl rfl (WL.sg rfl rfl (WL.sg rfl rfl (WL.nil (WC.ret ?_))))))))
   obtain rfl : k = S := by omega
   have hR2 : R = ⟨0, d, mx⟩ := by rw [hR, ← hto, List.drop_of_length_le (by omega)]; rfl
   exact au.ret (H' := aU (.slice Ao d.length co) 5 1 d.length (aA .u8 d) :: F) (aO.r9 rfl rfl rfl rfl) (fun w h => h.sel 4 [0] rfl) ⟨Ao, co, by rw [hR2]; rfl, by rw [hR2]⟩
end
theorem Al {t B : Nat} {d : List Nat} : ∀ (S j : Nat), j < S → ∃ rest, wH t B d S = wH t B d j ++ ((dG B d j ++ fI t (dG B d j)) ++ rest)
  | 0, j, h => absurd h (Nat.not_lt_zero _)
  | S + 1, j, h => by
    rw [wH]
    rcases Nat.lt_or_ge j S with h1 | h1
    · obtain ⟨r, hr⟩ := Al S j h1
      exact ⟨r ++ (dG B d S ++ fI t (dG B d S)), by rw [hr]; simp only [List.append_assoc]⟩
    · have : j = S := by omega
      subst this
      exact ⟨[], by simp only [List.append_assoc, List.append_nil]⟩
section
variable {t B S : Nat} {d : List Nat}
theorem qb (ht : 1 ≤ t ∧ t ≤ 8) (h8 : Small 256 d) (hl : d.length = S * B) {j : Nat} (hj : j < S) :
    uH B (B + ay t) (jD t S B d) j = dG B d j ∧ EW B (B + ay t) (jD t S B d) j = fI t (dG B d j) := by
  obtain ⟨r, hr⟩ := Al (t := t) (B := B) (d := d) S j hj
  have h1 := kr ht h8 hl j (by omega)
  have h2 := l9 hl hj
  have h3 := mq ht (fV h8 j (B := B))
  have hdrop : (jD t S B d).drop (j * (B + ay t)) = dG B d j ++ (fI t (dG B d j) ++ (r ++ [0])) := by
    unfold jD
    rw [hr, List.append_assoc, List.drop_left' h1]
    simp only [List.append_assoc]
  unfold uH EW
  rw [hdrop]
  refine ⟨List.take_left' h2, ?_⟩
  rw [List.drop_left' h2, Nat.add_sub_cancel_left]
  exact List.take_left' h3
theorem xW (ht : 1 ≤ t ∧ t ≤ 8) (h8 : Small 256 d) (hl : d.length = S * B) : dW t S (B + ay t) (jD t S B d) = 0 := by
  have h1 := kr ht h8 hl S (Nat.le_refl _)
  unfold dW jD
  rw [if_pos]
  rw [List.getD, List.getElem?_append_right (by omega), h1, Nat.sub_self]; rfl
theorem xJ (ht : 1 ≤ t ∧ t ≤ 8) (h8 : Small 256 d) : ∀ (k j : Nat) (acc : List Nat), gJ ((List.range' j k).map fun i => some ((dG B d i, fI t (dG B d i)), 0)) acc 0 = ⟨0, acc ++ (d.drop (j * B)).take (k * B), 0⟩
  | 0, j, acc => by simp [gJ]
  | k + 1, j, acc => by
    rw [List.range'_succ, List.map_cons, gJ, Nat.max_self, xJ ht h8 k (j + 1) _]
    congr 1
    rw [List.append_assoc]
    congr 1
    unfold dG
    rw [show (k + 1) * B = B + k * B by rw [Nat.succ_mul, Nat.add_comm], List.take_add, List.drop_drop, Nat.succ_mul]
theorem Jz (ht : 1 ≤ t ∧ t ≤ 8) (h8 : Small 256 d) (hl : d.length = S * B) : dD t S B (jD t S B d) = ⟨0, d, 0⟩ := by
  unfold dD
  rw [if_neg (fun h => h (xW ht h8 hl))]
  have h1 : (List.range S).map (uw t B (B + ay t) (jD t S B d)) = (List.range' 0 S).map fun i => some ((dG B d i, fI t (dG B d i)), 0) := by
    rw [← List.range_eq_range']
    apply List.map_congr_left
    intro j hj
    have hj := List.mem_range.1 hj
    unfold uw
    obtain ⟨e1, e2⟩ := qb ht h8 hl hj
    rw [e1, e2, Od ht (fV h8 j)]
  rw [h1, xJ ht h8 S 0 []]
  rw [Nat.zero_mul, List.drop_zero, List.nil_append, ← hl, List.take_length]
end
end Go.Proofs.YtcmojpiokjhmhaaGreat
