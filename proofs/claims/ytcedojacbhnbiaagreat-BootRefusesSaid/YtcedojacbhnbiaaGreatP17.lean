import Derived.Test.YtcedojacbhnbiaaGreatP16
namespace Go.Proofs.YtcedojacbhnbiaaGreat
open Go.Sl Go.RowKit
set_option linter.unusedVariables false
set_option linter.unusedSimpArgs false
set_option maxRecDepth 20000
def wO : Option (LL × Nat) → List Nat
  | none => []
  | some (p, _) => p.1
def HY : Option (LL × Nat) → Nat
  | none => 0
  | some (_, n) => n
def O5 : Option (LL × Nat) → Nat
  | none => 50
  | some _ => 0
theorem _root_.Go.Sl.Seq.pre {K : World} {H : List au} {b T m : Nat} {cs vs : List Value} (hl : vs.length = m) : Seq K (Cells b T (vs ++ cs) :: H) (some ⟨b, 0, none⟩) m 1 vs := Seq.here (by rw [hl, Nat.mul_one]) (by rw [List.drop_zero]; exact List.prefix_append _ _)
theorem _root_.Go.Sl.Does.post_ {P : Program} {K : World} {F : List au} {f : FuncId} {args : Array Value} {post post' : Value → List au → Prop} (h : Does P f args K F post) (hp : ∀ v H', post v H' → ∃ xE, (∀ w, Sat K w H' → Sat K w xE) ∧ post' v xE) : Does P f args K F post' := fun w hw =>
  (h w hw).mono fun e w' ⟨v, H', h1, h2, h3⟩ => by
    obtain ⟨xE, h4, h5⟩ := hp v H' h3
    exact ⟨v, xE, h1, h4 w' h2, h5⟩
section
variable {K : World} {F : List au}
theorem Dq {t : Nat} {A B : Option Addr} {m q cap cap' : Nat} {d mo : List Nat} (ht : 1 ≤ t ∧ t ≤ 8) (hd : Seq K F A m 1 (aB .u8 d)) (hm : Seq K F B q 1 (aB .u8 mo)) (Gr : Small 256 d) (MV : Small 256 mo) (hdl : 1 ≤ m ∧ m ≤ 512) (hml : q = ay t) :
    Does Tryz.prog 244 #[.int .i64 (t : Int), .slice A m cap, .slice B q cap'] K F
      (fun v H' => ∃ A' c mA mm mc l, v = .tuple #[.slice A' (wO (kQ t d mo)).length c, .slice mA mm mc, .int .i64 (HY (kQ t d mo) : Nat), .int .i64 (O5 (kQ t d mo) : Nat)] ∧
        eB l A' (wO (kQ t d mo)).length 1 (aB .u8 (wO (kQ t d mo))) ∧ H' = bH l :: F) := by
  refine Does.post_ (FL ht hd hm Gr MV hdl hml) (fun v H' h => ?_)
  cases ho : kQ t d mo with
  | none =>
    rw [ho] at h
    obtain ⟨rfl, rfl⟩ := h
    exact ⟨bH [] :: H', fun w hw => Sat.all hw, none, 0, none, 0, 0, [], rfl, eB.nil, rfl⟩
  | some r =>
    obtain ⟨p, n⟩ := r
    rw [ho] at h
    obtain ⟨g1, c1, r1, g2, c2, r2, h1, h2, rfl, rfl⟩ := h
    exact ⟨bH [Cells g1 5 (aB .u8 p.1 ++ r1)] :: F, fun w hw => Sat.all (Sat.sel 2 [0] rfl hw), _, _, _, _, _, _, rfl, eB.here (fun K => Seq.pre (aH _ _)), rfl⟩
end
def GU (n t : Nat) (raw : List Nat) (j : Nat) : Bool := decide (t < 8 * n - ones (dL n raw j))
def sw (n t : Nat) (raw : List Nat) : Nat → Bool
  | 0 => false
  | j + 1 => sw n t raw j || GU n t raw j
theorem vU {n t : Nat} {raw : List Nat} {j : Nat} (h : GU n t raw j = true) : ∀ k, j < k → sw n t raw k = true
  | 0, hk => absurd hk (Nat.not_lt_zero _)
  | k + 1, hk => by
    rw [sw]
    rcases Nat.lt_or_ge j k with h1 | h1
    · rw [vU h k h1]; rfl
    · have : j = k := by omega
      subst this; rw [h, Bool.or_true]
def dN (t S n : Nat) (raw : List Nat) : Nat :=
  if raw.getD (S * n) 0 = 0 then 0 else if raw.getD (S * n) 0 ≠ 255 then 60 else if sw n t raw S = true then 60 else 61
section
variable {K : World} {F : List au}
theorem I6 {bl pg : Int} {S B t : Nat} {A : Option Addr} {m cap : Nat} {raw : List Nat} (hg : (NG bl pg S B t).aF) (hr : Seq K F A m 1 (aB .u8 raw)) (h8 : Small 256 raw) (hm : m = fU S B t) (hmc : m ≤ cap) :
    aG Tryz.prog 243 #[(NG bl pg S B t).v, .slice A m cap] K F (.int .i64 (dN t S (B + ay t) raw : Nat)) := by
  have hl : raw.length = m := by simpa [aB] using hr.len
  have hN := nY.of hg
  obtain ⟨hs, hb, ht⟩ := hN
  have hmore : 2 ≤ ay t ∧ ay t ≤ 13 := by unfold ay; omega
  obtain ⟨n, hn⟩ : ∃ n, n = B + ay t := ⟨_, rfl⟩
  have hm2 : m = S * n + 1 := by rw [hm, hn]; rfl
  have Rv : S * n ≤ 8 * 525 := Nat.mul_le_mul hs.2 (by omega)
  rw [← hn]
  obtain ⟨z, hz⟩ : ∃ z, z = raw.getD (S * n) 0 := ⟨_, rfl⟩
  have hst : dN t S n raw = if z = 0 then 0 else if z ≠ 255 then 60 else if sw n t raw S = true then 60 else 61 := by unfold dN; rw [hz]
  rw [hst]
  have SG : z < 256 := by rw [hz]; exact h8.at_ (by decide) _
  have hlast : ∀ {X : au}, Rd K (X :: F) (A.map (·.add (((m : Int) - 1).toNat * 1))) (.int .u8 (z : Nat)) := fun {X} => by
    rw [show ((m : Int) - 1).toNat = S * n by omega, hz]; exact (hr.gK (by omega)).up
  refine Does.enter Tryz.func243 rfl Tryz.ntmps243 rfl ?_
  simp only [aJ, Nat.reduceAdd]
  refine WC.sr ?_
  refine WL.box (cs := [_, _, _, _, _]) (OV.p rfl) rfl rfl (fun b2 => ?_)
  refine WL.sg rfl rfl (WL.nil (WC.seq (WC.sr (WL.mv rfl rfl (WL.mv rfl rfl (WL.val (V.len (t := 34) Tryz.runUnderlying34 (OV.p rfl)) rfl (WL.sb rfl rfl rfl ?_)))))))
  refine WL.val (V.fu dB (OV.p rfl) (OV.p rfl) (fun hc => by omega) (fun hc => hlast)) rfl ?_
  refine WL.val (V.load Tryz.isAgg5 (OV.p rfl) (fun hc => hlast)) rfl ?_
  refine WL.sg rfl rfl (WL.nil (WC.block (WC.sr (WL.mv rfl rfl (WL.val (V.eql (OV.p rfl) (OV.p rfl)) rfl (WL.sg rfl rfl (WL.nil ?_)))))))
  refine WC.cond rfl (fun hc0 => ?_) (fun hc0 => ?_)
  ·simp only [decide_eq_true_eq, decide_eq_false_iff_not] at hc0
   rw [if_pos (by omega)]
   refine WC.sr (WL.sg rfl rfl (WL.nil (WC.ret ?_)))
   exact aj.ret (H' := F) (aL.tmp rfl rfl) (fun w h => h.drop 1) ⟨rfl, rfl⟩
  ·simp only [decide_eq_true_eq, decide_eq_false_iff_not] at hc0
   rw [if_neg (by omega)]
   refine WC.sr (WL.mv rfl rfl (WL.val (V.neq (OV.p rfl) (OV.p rfl)) rfl (WL.sg rfl rfl (WL.nil ?_))))
   refine WC.cond rfl (fun hc1 => ?_) (fun hc1 => ?_)
   ·simp only [decide_eq_true_eq, decide_eq_false_iff_not, Bool.not_eq_true', Bool.not_eq_false'] at hc1
    rw [if_pos (by omega)]
    refine WC.sr (WL.sg rfl rfl (WL.nil (WC.ret ?_)))
    exact aj.ret (H' := F) (aL.tmp rfl rfl) (fun w h => h.drop 1) ⟨rfl, rfl⟩
   ·simp only [decide_eq_true_eq, decide_eq_false_iff_not, Bool.not_eq_true', Bool.not_eq_false'] at hc1
    rw [if_neg (by omega)]
    refine WC.skip (WC.sr ?_)
    refine WL.val (V.aU (vs := [_, _, _, _, _]) ⟨Tryz.isAgg23, Tryz.sizeOf23⟩ (OV.p rfl) rfl (fun _ => by repeat (first | exact aT.gets ⟨rfl, rfl, rfl, rfl, rfl, trivial⟩ | apply aT.up))) rfl ?_
    refine WL.call (vs := [_]) Tryz.call162 ⟨OV.p rfl, trivial⟩ (aG.eq (v' := .int .i64 (n : Int)) (uP (NG bl pg S B t) hg _ _) (by rw [NG.whole, hn])) rfl ?_
    rintro _ H0 ⟨rfl, h0⟩
    subst H0
    refine WL.sg rfl rfl (WL.nil (WC.seq (WC.sr (WL.sg rfl rfl (WL.nil (WC.block ?_))))))
    refine WC.loop (σ := Nat) (fun j => [(1, .slice A m cap), (2, ptr b2 0), (6, .int .i64 (n : Int)), (7, .int .i64 ((j * n : Nat) : Int))]) (fun _ => Cells b2 23 [.int .i64 bl, .int .i64 pg, .int .i64 (S : Int), .int .i64 (B : Int), .int .i64 (t : Int)] :: F) (fun j => j ≤ S ∧ sw n t raw j = false) (fun j => S - j) 0 ⟨Nat.zero_le _, rfl⟩ (.cons rfl (.cons rfl (.cons rfl (.cons (look_eq rfl (by simp)) (.nil _))))) (fun w h => h) ?_
    rintro j ⟨hj, hjt⟩
    have hjn : j * n ≤ S * n := Nat.mul_le_mul_right _ hj
    refine WC.seq (WC.sr (WL.mv rfl rfl (WL.mv rfl rfl ?_)))
    refine WL.val (V.jO (OV.p rfl) (OV.p rfl) (fun _ => by omega)) rfl ?_
    refine WL.mv rfl rfl (WL.val (V.len (t := 34) Tryz.runUnderlying34 (OV.p rfl)) rfl (WL.val (V.lss (OV.p rfl) (OV.p rfl)) rfl (WL.nil ?_)))
    refine WC.cond rfl (fun hc2 => ?_) (fun hc2 => ?_)
    ·simp only [decide_eq_true_eq, decide_eq_false_iff_not] at hc2
     have Lg : j < S := by
       rcases Nat.lt_or_ge j S with h | h
       · exact h
       · exfalso
         have : j = S := by omega
         rw [this] at hc2
         omega
     have hj1 : (j + 1) * n ≤ S * n := Nat.mul_le_mul_right _ Lg
     rw [Nat.succ_mul] at hj1
     have Lp : Seq K F (A.map (·.add (j * n * 1))) n 1 (aB .u8 (dL n raw j)) := by
       have h1 := Seq.DN hr (l := j * n) (u := cap) (by omega) hmc
       rw [if_neg (by omega)] at h1
       have h2 := Seq.take h1 (show n ≤ m - j * n by omega)
       rw [mg, fZ] at h2; exact h2
     have hon := Ck (dL n raw j)
     have hsl : (dL n raw j).length = n := by unfold dL; rw [List.length_take, List.length_drop]; omega
     rw [hsl] at hon
     refine WC.skip (WC.seq (WC.block (WC.seq ?_)))
     refine WC.fK (by kernel_rfl) (by kernel_rfl) ?_
     refine WQ.val (V.move (OV.p rfl)) rfl ?_
     refine WQ.val (V.jQ (OV.p rfl) (OV.p rfl) (fun hc => by first | omega | (simp at hc; omega))) rfl ?_
     refine WQ.val (V.move (OV.p rfl)) rfl (WQ.val (V.move (OV.p rfl)) rfl (WQ.val (V.move (OV.p rfl)) rfl (WQ.val (V.move (OV.p rfl)) rfl ?_)))
     refine WQ.val (V.jO (OV.p rfl) (OV.p rfl) (fun _ => by omega)) rfl ?_
     refine WQ.val (V.aA (v' := .slice (A.map (·.add (j * n * 1))) n (cap - j * n)) (V.slice (l := j * n) (h := j * n + n) (u := cap) dB (OV.p rfl) (OO.some (OV.p rfl) (fun _ => rfl)) (OO.some (OV.p rfl) (fun _ => by omega)) OO.none (by simp) (by omega) (by omega) (Nat.le_refl _)) (fun _ => by rw [if_neg (by omega), Nat.add_sub_cancel_left])) rfl ?_
     refine WQ.call (vs := [_]) Tryz.call282 ⟨OV.p rfl, trivial⟩ (Bg Lp.up (fJ h8 j) (by omega)) rfl ?_
     refine WQ.val (V.wM (OV.p rfl) (OV.p rfl) (fun hc => by first | omega | (simp at hc; omega))) rfl ?_
     refine WQ.val (V.fieldAddr rH (OV.p rfl)) rfl ?_
     refine WQ.val (V.load Tryz.isAgg3 (OV.p rfl) (fun _ => by repeat (first | exact Rd.here rfl | apply Rd.up))) rfl ?_
     refine WQ.val (V.gtr (OV.p rfl) (OV.p rfl)) rfl (WQ.nil ?_)
     refine WC.cond rfl (fun hc3 => ?_) (fun hc3 => ?_)
     ·simp only [decide_eq_true_eq, decide_eq_false_iff_not] at hc3
      have hto : GU n t raw j = true := decide_eq_true (by omega)
      refine WC.sr (WL.sg rfl rfl (WL.nil (WC.ret ?_)))
      rw [if_pos (vU hto S Lg)]
      exact aj.ret (H' := F) (aL.tmp rfl rfl) (fun w h => h.drop 1) ⟨rfl, rfl⟩
     ·simp only [decide_eq_true_eq, decide_eq_false_iff_not] at hc3
      have hto : GU n t raw j = false := decide_eq_false (by omega)
      refine WC.skip (WC.region (WL.mv rfl rfl (WL.mv rfl rfl ?_)))
      refine WL.val (V.aA (v' := .int .i64 (((j + 1) * n : Nat) : Int)) (V.jO (OV.p rfl) (OV.p rfl) (fun _ => by omega)) (fun _ => by rw [Nat.succ_mul]; simp)) rfl ?_
      refine WL.sg rfl rfl (WL.nil ?_)
      refine ⟨rfl, ?_⟩
      exact ⟨j + 1, ⟨Lg, by rw [sw, hjt, hto]; rfl⟩, (by show S - (j + 1) < S - j; omega), .cons rfl (.cons rfl (.cons rfl (.cons rfl (.nil _)))), fun w h => h⟩
    ·simp only [decide_eq_true_eq, decide_eq_false_iff_not] at hc2
     refine WC.exit (WC.sr (WL.sg rfl rfl (WL.nil (WC.ret ?_))))
     obtain rfl : j = S := by
       rcases Nat.lt_or_ge j S with h | h
       · exfalso
         have hj1 : (j + 1) * n ≤ S * n := Nat.mul_le_mul_right _ h
         rw [Nat.succ_mul] at hj1
         omega
       · omega
     rw [hjt]
     exact aj.ret (H' := F) (aL.tmp rfl rfl) (fun w h => h.drop 1) ⟨rfl, rfl⟩
end
def sW (B n : Nat) (raw : List Nat) (j : Nat) : List Nat := (raw.drop (j * n)).take B
def Db (B n : Nat) (raw : List Nat) (j : Nat) : List Nat := ((raw.drop (j * n)).drop B).take (n - B)
def rJ (t B n : Nat) (raw : List Nat) (j : Nat) : Option (LL × Nat) := kQ t (sW B n raw j) (Db B n raw j)
structure uK where
  A : Option Addr
  c : Nat
  o : Option (LL × Nat)
abbrev uK.cells (r : uK) : List Value := [.slice r.A (wO r.o).length r.c, .int .i64 (HY r.o : Nat), .int .i64 (O5 r.o : Nat)]
def fQ (rs : List uK) : List Value := rs.flatMap uK.cells
def K7 (l : List au) (rs : List uK) : Prop := ∀ r ∈ rs, eB l r.A (wO r.o).length 1 (aB .u8 (wO r.o))
theorem wP (rs ss : List uK) : fQ (rs ++ ss) = fQ rs ++ fQ ss := List.flatMap_append
theorem tT : ∀ (rs : List uK) (k : Nat) (r : uK), rs[k]? = some r → ∀ i v, r.cells[i]? = some v → (fQ rs)[k * 3 + i]? = some v
  | [], k, r, h => by simp at h
  | r' :: rs, 0, r, h => fun i v hi => by
    simp only [List.getElem?_cons_zero, Option.some.injEq] at h
    subst h
    unfold fQ
    rw [List.flatMap_cons, Nat.zero_mul, Nat.zero_add, List.getElem?_append_left (List.getElem?_eq_some_iff.1 hi).1]
    exact hi
  | r' :: rs, k + 1, r, h => fun i v hi => by
    have ih := tT rs k r (by simpa using h) i v hi
    unfold fQ at ih ⊢
    rw [List.flatMap_cons, List.getElem?_append_right (by simp [uK.cells]; omega)]
    rw [← ih]
    congr 1
    simp [uK.cells]; omega
section
variable {K : World} {F : List au}
theorem yL {bl pg : Int} {S B t : Nat} {A : Option Addr} {m cap : Nat} {raw : List Nat} (hg : (NG bl pg S B t).aF) (hr : Seq K F A m 1 (aB .u8 raw)) (h8 : Small 256 raw) (hm : m = fU S B t) (hmc : m ≤ cap) :
    Does Tryz.prog 193 #[(NG bl pg S B t).v, .slice A m cap] K F
      (fun v H' => (dN t S (B + ay t) raw ≠ 0 ∧ v = .tuple #[.slice none 0 0, .int .i64 (dN t S (B + ay t) raw : Nat)] ∧ H' = F) ∨
        (dN t S (B + ay t) raw = 0 ∧ ∃ A' cap' l rs, v = .tuple #[.slice A' S cap', .int .i64 0] ∧ rs.map uK.o = (List.range S).map (rJ t B (B + ay t) raw) ∧ K7 l rs ∧
          H' = bC (.slice A' S cap') 296 3 S (fQ rs) :: bH l :: F)) := by
  have hl : raw.length = m := by simpa [aB] using hr.len
  have hmay : (NG bl pg S B t).may = true := decide_eq_true hg
  have hN := nY.of hg
  obtain ⟨hs, hb, ht⟩ := hN
  have hmore : 2 ≤ ay t ∧ ay t ≤ 13 := by unfold ay; omega
  have hst := fun (K : World) (F : List au) (hr : Seq K F A m 1 (aB .u8 raw)) => I6 hg hr h8 hm hmc
  obtain ⟨n, hn⟩ : ∃ n, n = B + ay t := ⟨_, rfl⟩
  have hm2 : m = S * n + 1 := by rw [hm, hn]; rfl
  have Rv : S * n ≤ 8 * 525 := Nat.mul_le_mul hs.2 (by omega)
  rw [← hn] at hst ⊢
  obtain ⟨st, Mr⟩ : ∃ st, st = dN t S n raw := ⟨_, rfl⟩
  rw [← Mr] at hst ⊢
  have yE : st < 100 := by rw [Mr]; unfold dN; repeat (first | split | decide)
  refine Does.enter Tryz.func193 rfl Tryz.ntmps193 rfl ?_
  simp only [aJ, Nat.reduceAdd]
  refine WC.sr ?_
  refine WL.box (cs := [_, _, _, _, _]) (OV.p rfl) rfl rfl (fun b2 => ?_)
  refine WL.sg rfl rfl (WL.sg rfl rfl (WL.nil (WC.sr ?_)))
  refine WL.val (V.aU (vs := [_, _, _, _, _]) ⟨Tryz.isAgg23, Tryz.sizeOf23⟩ (OV.p rfl) rfl (fun _ => by repeat (first | exact aT.gets ⟨rfl, rfl, rfl, rfl, rfl, trivial⟩ | apply aT.up))) rfl ?_
  refine WL.call (vs := [_]) Tryz.call96 ⟨OV.p rfl, trivial⟩ (aG.eq (v' := .tuple #[.int .i64 (m : Int), .int .i64 0]) (Ca (NG bl pg S B t) _ _) (by rw [hmay, NG.raw, hm]; rfl)) rfl ?_
  rintro _ H0 ⟨rfl, h0⟩
  subst H0
  refine WL.mv rfl rfl (WL.xt rfl rfl rfl (WL.xt rfl rfl rfl (WL.sg rfl rfl (WL.sg rfl rfl (WL.nil (WC.seq (WC.sr (WL.mv rfl rfl (WL.val (V.neq (OV.p rfl) (OV.p rfl)) rfl (WL.mv rfl rfl (WL.ah (oj := _) rfl rfl rfl GC.f (V.move (OV.p rfl)) rfl (WL.ah (oj := _) rfl rfl rfl GC.f (V.len (t := 34) Tryz.runUnderlying34 (OV.g rfl id)) rfl (WL.ah (oj := _) rfl rfl rfl GC.f (V.move (OV.p rfl)) rfl (WL.ah (oj := _) rfl rfl rfl GC.f (V.neq (OV.g rfl id) (OV.g rfl id)) rfl (WL.val (V.aS (OV.p rfl) (OV.g rfl id)) rfl (WL.nil ?_))))))))))))))))
  refine WC.aM rfl (by first | rfl | (simp; done) | (simp; omega)) ?_
  refine WC.skip (WC.seq (WC.sr ?_))
  refine WL.val (V.aU (vs := [_, _, _, _, _]) ⟨Tryz.isAgg23, Tryz.sizeOf23⟩ (OV.p rfl) rfl (fun _ => by repeat (first | exact aT.gets ⟨rfl, rfl, rfl, rfl, rfl, trivial⟩ | apply aT.up))) rfl ?_
  refine WL.mv rfl rfl (WL.call (vs := [_, _]) Tryz.call243 ⟨OV.p rfl, OV.p rfl, trivial⟩ (hst _ _ hr.up) rfl ?_)
  rintro _ H0 ⟨rfl, h0⟩
  subst H0
  refine WL.sg rfl rfl (WL.nil (WC.sr (WL.mv rfl rfl (WL.val (V.neq (OV.p rfl) (OV.p rfl)) rfl (WL.nil ?_)))))
  refine WC.cond rfl (fun hc1 => ?_) (fun hc1 => ?_)
  ·simp only [decide_eq_true_eq, decide_eq_false_iff_not, Bool.not_eq_true', Bool.not_eq_false'] at hc1
   have h1 := hc1
   refine WC.sr (WL.mv rfl rfl (WL.sg rfl rfl (WL.sg rfl rfl (WL.nil (WC.ret ?_)))))
   exact aj.ret (H' := F) (aL.dJ rfl rfl rfl) (fun w h => h.drop 1) (.inl ⟨by omega, rfl, rfl⟩)
  ·simp only [decide_eq_true_eq, decide_eq_false_iff_not, Bool.not_eq_true', Bool.not_eq_false'] at hc1
   have h1 := hc1
   refine WC.skip (WC.sr (WL.sg rfl rfl (WL.nil (WC.seq (WC.sr (WL.val (V.fieldAddr mR (OV.p rfl)) rfl (WL.ld Tryz.isAgg3 rfl rfl ?_)))))))
   refine WL.mv rfl rfl (WL.nil (WC.block ?_))
   refine WC.loop (σ := Nat × Option Addr × Nat × Option Addr × Nat × List au × List uK) (fun x => [(1, .slice x.2.1 (m - x.1 * n) x.2.2.1), (2, ptr b2 0), (9, .slice x.2.2.2.1 x.1 x.2.2.2.2.1), (32, .int .i64 (S : Int)), (33, .int .i64 (x.1 : Int))]) (fun x => bC (.slice x.2.2.2.1 x.1 x.2.2.2.2.1) 296 3 x.1 (fQ x.2.2.2.2.2.2) :: bH x.2.2.2.2.2.1 :: Cells b2 23 [.int .i64 bl, .int .i64 pg, .int .i64 (S : Int), .int .i64 (B : Int), .int .i64 (t : Int)] :: F) (fun x => x.1 ≤ S ∧ m - x.1 * n ≤ x.2.2.1 ∧ Seq K F x.2.1 (m - x.1 * n) 1 (aB .u8 (raw.drop (x.1 * n))) ∧ x.2.2.2.2.2.2.map uK.o = (List.range x.1).map (rJ t B n raw) ∧ K7 x.2.2.2.2.2.1 x.2.2.2.2.2.2) (fun x => S - x.1) (0, A, cap, none, 0, [], []) ⟨Nat.zero_le _, by show m - 0 * n ≤ cap; omega, by simpa using hr, rfl, fun r hr => by simp at hr⟩ (.cons (look_eq rfl (by simp)) (.cons rfl (.cons rfl (.cons rfl (.cons rfl (.nil _)))))) (fun w h => Sat.iA (Sat.all h) 296 3) ?_
   rintro ⟨j, Aj, cj, Ao, co, la, rs⟩ ⟨hj, hjc, hjs, hrs, hin⟩
   dsimp only at hj hjc hjs hrs hin ⊢
   have hjn : j * n ≤ S * n := Nat.mul_le_mul_right _ hj
   have hrl : rs.length = j := by have := congrArg List.length hrs; simpa using this
   refine WC.sr (WL.val (V.lss (OV.p rfl) (OV.p rfl)) rfl (WL.nil (WC.seq ?_)))
   refine WC.cond rfl (fun hc2 => ?_) (fun hc2 => ?_)
   ·simp only [decide_eq_true_eq, decide_eq_false_iff_not] at hc2
    refine WC.skip (WC.seq (WC.block (WC.seq ?_)))
    have Lg : j < S := by omega
    have hj1 : (j + 1) * n ≤ S * n := Nat.mul_le_mul_right _ Lg
    rw [Nat.succ_mul] at hj1
    have hsd : Seq K F Aj B 1 (aB .u8 (sW B n raw j)) := by
      have h1 := Seq.take hjs (show B ≤ m - j * n by omega)
      rw [fZ] at h1; exact h1
    have hsm : Seq K F (Aj.map (·.add (B * 1))) (n - B) 1 (aB .u8 (Db B n raw j)) := by
      have h1 := Seq.DN hjs (l := B) (u := cj) (by omega) hjc
      rw [if_neg (by omega)] at h1
      have h2 := Seq.take h1 (show n - B ≤ m - j * n - B by omega)
      rw [mg, fZ] at h2; exact h2
    refine WC.region ?_
    refine WL.val (V.aU (vs := [_, _, _, _, _]) ⟨Tryz.isAgg23, Tryz.sizeOf23⟩ (OV.p rfl) rfl (fun _ => by repeat (first | exact aT.gets ⟨rfl, rfl, rfl, rfl, rfl, trivial⟩ | apply aT.up))) rfl ?_
    refine WL.call (vs := [_]) Tryz.call162 ⟨OV.p rfl, trivial⟩ (aG.eq (v' := .int .i64 (n : Int)) (uP (NG bl pg S B t) hg _ _) (by rw [NG.whole, hn])) rfl ?_
    rintro _ H0 ⟨rfl, h0⟩
    subst H0
    refine WL.sg rfl rfl (WL.nil (WC.sr ?_))
    refine WL.alloc (cs := [(.slice none 0 0), (.int .i64 0), (.int .i64 0)]) Tryz.zeroValue296 rfl rfl (fun b11 => ?_)
    refine WL.nil (WC.seq ?_)
    refine WC.dY (bC (.slice Ao j co) 296 3 j (fQ rs) :: bH la :: Cells b2 23 [.int .i64 bl, .int .i64 pg, .int .i64 (S : Int), .int .i64 (B : Int), .int .i64 (t : Int)] :: F) (by kernel_rfl) ?_
    refine WA.t 0 rfl (V.fieldAddr rH (OV.p rfl)) ?_
    refine WA.t 1 rfl (V.load Tryz.isAgg3 (OV.p rfl) (fun _ => by repeat (first | exact Rd.here rfl | apply Rd.up))) ?_
    refine WA.t 2 rfl (V.move (OV.p rfl)) (WA.t 3 rfl (V.fieldAddr gW (OV.p rfl)) ?_)
    refine WA.t 4 rfl (V.load Tryz.isAgg3 (OV.p rfl) (fun _ => by repeat (first | exact Rd.here rfl | apply Rd.up))) ?_
    refine WA.t 5 rfl (V.fieldAddr gW (OV.p rfl)) ?_
    refine WA.t 6 rfl (V.load Tryz.isAgg3 (OV.p rfl) (fun _ => by repeat (first | exact Rd.here rfl | apply Rd.up))) ?_
    refine WA.t 7 rfl (V.aA (v' := .slice Aj B B) (V.slice (l := 0) (h := B) (u := B) dB (OV.p rfl) OO.none (OO.some (OV.p rfl) (fun _ => rfl)) (OO.some (OV.p rfl) (fun _ => rfl)) (by simp) (Nat.zero_le _) (Nat.le_refl _) (by omega)) (fun _ => by rw [show (B - 0 : Nat) = B from rfl]; cases Aj <;> simp [Addr.add])) ?_
    refine WA.t 8 rfl (V.move (OV.p rfl)) (WA.t 9 rfl (V.fieldAddr gW (OV.p rfl)) ?_)
    refine WA.t 10 rfl (V.load Tryz.isAgg3 (OV.p rfl) (fun _ => by repeat (first | exact Rd.here rfl | apply Rd.up))) ?_
    refine WA.t 11 rfl (V.move (OV.p rfl)) (WA.t 12 rfl (V.move (OV.p rfl)) ?_)
    refine WA.t 13 rfl (V.aA (v' := .slice (Aj.map (·.add (B * 1))) (n - B) (n - B)) (V.slice (l := B) (h := n) (u := n) dB (OV.p rfl) (OO.some (OV.p rfl) (fun _ => rfl)) (OO.some (OV.p rfl) (fun _ => rfl)) (OO.some (OV.p rfl) (fun _ => rfl)) (by simp) (by omega) (Nat.le_refl _) (by omega)) (fun _ => by rw [if_neg (by omega)])) ?_
    refine WA.o 14 rfl ?_
    refine WL.call (vs := [_, _, _]) Tryz.call244 ⟨OV.p rfl, OV.p rfl, OV.p rfl, trivial⟩ (Dq ht (by repeat (first | exact hsd | apply Seq.up)) (by repeat (first | exact hsm | apply Seq.up)) (Small.take (Small.drop h8)) (Small.take (Small.drop (Small.drop h8))) (by omega) (by omega)) rfl ?_
    rintro _ _ ⟨A1, c1, mA, mm, mc, l1, rfl, hin1, rfl⟩
    refine WL.nil (WA.t 15 rfl (V.move (OV.p rfl)) (WA.t 16 rfl (V.extract (OV.p rfl) rfl) (WA.t 17 rfl (V.extract (OV.p rfl) rfl) (WA.t 18 rfl (V.extract (OV.p rfl) rfl) (WA.t 19 rfl (V.extract (OV.p rfl) rfl) (WA.t 20 rfl (V.fieldAddr G6 (OV.p rfl)) (WA.o 21 rfl ?_)))))))
    refine WL.store (cs := [_]) Tryz.sizeOf34 (OV.p rfl) (OV.p rfl) rfl rfl rfl (by repeat (first | exact aQ.here (cs' := [_, _, _]) rfl rfl | apply aQ.up)) ?_
    refine WL.nil (WA.t 22 rfl (V.fieldAddr GL (OV.p rfl)) (WA.o 23 rfl ?_))
    refine WL.store (cs := [_]) Tryz.sizeOf3 (OV.p rfl) (OV.p rfl) rfl rfl rfl (by repeat (first | exact aQ.here (cs' := [_, _, _]) rfl rfl | apply aQ.up)) ?_
    refine WL.nil (WA.t 24 rfl (V.fieldAddr BF (OV.p rfl)) (WA.o 25 rfl ?_))
    refine WL.store (cs := [_]) Tryz.sizeOf32 (OV.p rfl) (OV.p rfl) rfl rfl rfl (by repeat (first | exact aQ.here (cs' := [_, _, _]) rfl rfl | apply aQ.up)) ?_
    refine WL.nil (WA.fin (WC.sr (WL.mv rfl rfl ?_)))
    refine WL.val (V.aU (vs := [_, _, _]) ⟨Tryz.isAgg296, Tryz.sizeOf296⟩ (OV.p rfl) rfl (fun _ => by repeat (first | exact aT.gets ⟨rfl, rfl, rfl, trivial⟩ | apply aT.up))) rfl ?_
    refine WL.buildSlice (E := 296) (cs := [_, _, _]) (vs := [(0, _)]) ⟨OV.p rfl, trivial⟩ rfl (FR _ _ _) rfl (fun Tf => ?_)
    refine WL.sub (Sub.refl _) (fun w h => h.sel 6 [3, 0, 1, 4, 5] rfl) ?_
    refine WL.append (m := j) (q := 1) Tryz.underlying265 O8 (OV.p rfl) (OV.p rfl) (Seq.all rfl) (by simp [Value.oneCell']) (by omega) rfl rfl (fun Ra RY hn63 hc63 => ?_)
    refine WL.sg rfl rfl (WL.nil (WC.region (WL.mv rfl rfl (WL.mv rfl rfl ?_))))
    refine WL.val (V.slice (l := n) (h := m - j * n) (u := cj) dB (OV.p rfl) (OO.some (OV.p rfl) (fun _ => rfl)) OO.none OO.none (by simp) (by omega) (by omega) (Nat.le_refl _)) rfl ?_
    refine WL.sg rfl rfl (WL.nil (WC.region (WL.ad rfl rfl rfl ?_)))
    refine WL.mv rfl rfl (WL.nil ?_)
    refine ⟨rfl, ?_⟩
    refine ⟨(j + 1, (if cj = n then Aj else Aj.map (·.add (n * 1))), cj - n, Ra, RY, bH l1 :: la, rs ++ [⟨A1, c1, rJ t B n raw j⟩]), ⟨Lg, by show m - (j + 1) * n ≤ cj - n; rw [Nat.succ_mul]; omega, ?_, ?_, ?_⟩, (by show S - (j + 1) < S - j; omega), .cons (look_eq rfl (by dsimp only; rw [Nat.succ_mul, Nat.sub_sub])) (.cons rfl (.cons rfl (.cons rfl (.cons (look_eq rfl (by simp)) (.nil _))))), fun w h => ?_⟩
    · have h1 := Seq.DN hjs (show n ≤ m - j * n by omega) hjc
      rw [mg, List.drop_drop, Nat.sub_sub] at h1
      dsimp only
      rw [Nat.succ_mul]
      exact h1
    · dsimp only
      rw [List.map_append, hrs, List.range_succ, List.map_append]
      rfl
    · intro r hr2
      rcases List.mem_append.1 hr2 with h | h
      · exact (hin r h).up
      · rw [List.mem_singleton] at h
        subst h
        exact eB.here (fun K => eB.seq hin1)
    · have h' := (Sat.JQ (h.sel 5 [2, 3, 0, 4] rfl)).p1
      dsimp only
      rw [wP]
      exact h'
   ·simp only [decide_eq_true_eq, decide_eq_false_iff_not] at hc2
    refine WC.exit (WC.sr (WL.mv rfl rfl (WL.sg rfl rfl (WL.sg rfl rfl (WL.nil (WC.ret ?_))))))
    obtain rfl : j = S := by omega
    exact aj.ret (H' := bC (.slice Ao j co) 296 3 j (fQ rs) :: bH la :: F) (aL.dJ rfl rfl rfl) (fun w h => h.sel 3 [0, 1] rfl) (.inr ⟨by omega, Ao, co, la, rs, rfl, hrs, hin, rfl⟩)
end
structure RR where
  err : Nat
  d : List Nat
  n : Nat
def gu : List (Option (LL × Nat)) → List Nat → Nat → RR
  | [], d, n => ⟨0, d, n⟩
  | none :: _, _, _ => ⟨50, [], 0⟩
  | some (p, k) :: rest, d, n => gu rest (d ++ p.1) (max n k)
def cO (t S B : Nat) (raw : List Nat) : RR :=
  if dN t S (B + ay t) raw ≠ 0 then ⟨dN t S (B + ay t) raw, [], 0⟩ else gu ((List.range S).map (rJ t B (B + ay t) raw)) [] 0
theorem Hr (t : Nat) (d m : List Nat) (h : d.length ≤ 512) (ht : t ≤ 8) : (wO (kQ t d m)).length ≤ d.length ∧ HY (kQ t d m) ≤ 5000 := by
  cases ho : kQ t d m with
  | none => exact ⟨Nat.zero_le _, Nat.zero_le _⟩
  | some r =>
    unfold kQ at ho
    split at ho
    · cases ho
    · split at ho
      · cases ho
      · split at ho
        · cases ho
        · injection ho with ho
          subst ho
          refine ⟨Nat.le_of_eq (iN _ _ _ _ _).1, ?_⟩
          have := zy t (kR (dI t (d, dF t m))) (mh (dI t (d, dF t m))) (d, dF t m) (13 * t + 8 * d.length)
          show (bF _ _ _ _ _).2 ≤ 5000
          omega
theorem Jy {K : World} {F : List au} {A : Option Addr} {m cap E s : Nat} {cs : List Value} (hm : 0 < m) : ∀ w, Sat K w (bC (.slice A m cap) E s m cs :: F) → ∃ x : Nat × List Value, (A = some ⟨x.1, 0, none⟩) ∧ Sat K w (Cells x.1 E (cs ++ x.2) :: F) := fun w hw => by
  cases A with
  | none => have := (bC.vQ hw).1; omega
  | some a =>
    obtain ⟨g, rfl⟩ := bC.addr hw
    obtain ⟨r, _, h5⟩ := Sat.lg hw
    exact ⟨(g, r), rfl, h5⟩
section
variable {K : World} {F : List au}
theorem JZ {bl pg : Int} {S B t : Nat} {A : Option Addr} {m cap : Nat} {raw : List Nat} (hg : (NG bl pg S B t).aF) (hr : Seq K F A m 1 (aB .u8 raw)) (h8 : Small 256 raw) (hm : m = fU S B t) (hmc : m ≤ cap) :
    Does Tryz.prog 156 #[(NG bl pg S B t).v, .slice A m cap] K F
      (fun v H' => ∃ A' cap', v = .tuple #[.slice A' (cO t S B raw).d.length cap', .int .i64 ((cO t S B raw).n : Nat), .int .i64 ((cO t S B raw).err : Nat)] ∧
        H' = bC (.slice A' (cO t S B raw).d.length cap') 5 1 (cO t S B raw).d.length (aB .u8 (cO t S B raw).d) :: F) := by
  have hl : raw.length = m := by simpa [aB] using hr.len
  have hN := nY.of hg
  obtain ⟨hs, hb, ht⟩ := hN
  obtain ⟨R, hR⟩ : ∃ R, R = cO t S B raw := ⟨_, rfl⟩
  rw [← hR]
  unfold cO at hR
  refine Does.enter Tryz.func156 rfl Tryz.ntmps156 rfl ?_
  simp only [aJ, Nat.reduceAdd]
  refine WC.sr ?_
  refine WL.box (cs := [_, _, _, _, _]) (OV.p rfl) rfl rfl (fun b2 => ?_)
  refine WL.sg rfl rfl (WL.sg rfl rfl (WL.sg rfl rfl (WL.nil (WC.sr ?_))))
  refine WL.val (V.aU (vs := [_, _, _, _, _]) ⟨Tryz.isAgg23, Tryz.sizeOf23⟩ (OV.p rfl) rfl (fun _ => by repeat (first | exact aT.gets ⟨rfl, rfl, rfl, rfl, rfl, trivial⟩ | apply aT.up))) rfl ?_
  refine WL.mv rfl rfl (WL.call (vs := [_, _]) Tryz.call193 ⟨OV.p rfl, OV.p rfl, trivial⟩ (yL hg hr.up h8 hm hmc) rfl ?_)
  rintro _ _ (⟨hst, rfl, rfl⟩ | ⟨hst, A1, c1, la, rs, rfl, hrs, hin, rfl⟩)
  · rw [if_pos hst] at hR
    obtain ⟨st, Mr⟩ : ∃ st, st = dN t S (B + ay t) raw := ⟨_, rfl⟩
    rw [← Mr] at hst hR ⊢
    refine WL.val (V.move (OV.p rfl)) rfl (WL.val (V.extract (OV.p rfl) rfl) rfl (WL.val (V.extract (OV.p rfl) rfl) rfl (WL.val (V.assign (OV.p rfl)) rfl (WL.val (V.assign (OV.p rfl)) rfl (WL.nil (WC.seq (WC.seq (WC.region (WL.val (V.move (OV.p rfl)) rfl (WL.val (V.neq (OV.p rfl) (OV.p rfl)) rfl (WL.nil ?_)))))))))))
    refine WC.bU rfl (by simp; omega) ?_
    refine WC.seq (WC.region (WL.val (V.move (OV.p rfl)) rfl (WL.val (V.assign (OV.p rfl)) rfl (WL.val (V.assign (OV.p rfl)) rfl (WL.val (V.assign (OV.p rfl)) rfl (WL.nil (WC.ret ?_)))))))
    exact aj.ret (H' := bC (.slice none 0 0) 5 1 0 [] :: F) (aL.vD rfl rfl rfl rfl) (fun w h => Sat.iA (h.drop 1) _ _) ⟨none, 0, by rw [hR]; rfl, by rw [hR]; rfl⟩
  rw [if_neg (fun h => h hst)] at hR
  refine WL.ex (Jy (by omega)) (fun ⟨g1, r1⟩ e1 => ?_)
  dsimp only at e1 ⊢
  subst e1
  refine WL.mv rfl rfl (WL.xt rfl rfl rfl (WL.xt rfl rfl rfl (WL.sg rfl rfl (WL.sg rfl rfl (WL.nil (WC.seq (WC.sr (WL.mv rfl rfl (WL.val (V.neq (OV.p rfl) (OV.p rfl)) rfl (WL.nil ?_))))))))))
  refine WC.aM rfl (by first | rfl | (simp; done) | (simp; omega)) ?_
  refine WC.skip (WC.sr (WL.sg rfl rfl (WL.nil (WC.sr (WL.sg rfl rfl (WL.nil (WC.seq (WC.seq ?_))))))))
  obtain ⟨os, hos⟩ : ∃ os, os = (List.range S).map (rJ t B (B + ay t) raw) := ⟨_, rfl⟩
  rw [← hos] at hrs hR
  have hol : os.length = S := by rw [hos]; simp
  have hrl : rs.length = S := by rw [← hol, ← hrs, List.length_map]
  have Qb : ∀ o ∈ os, (wO o).length ≤ 512 ∧ HY o ≤ 5000 := fun o ho => by
    rw [hos] at ho
    obtain ⟨j, hj, rfl⟩ := List.mem_map.1 ho
    have := Hr t (sW B (B + ay t) raw j) (Db B (B + ay t) raw j) (by unfold sW; rw [List.length_take]; omega) ht.2
    have h2 : (sW B (B + ay t) raw j).length ≤ 512 := by unfold sW; rw [List.length_take]; omega
    exact ⟨Nat.le_trans this.1 h2, this.2⟩
  refine WC.region (WL.mv rfl rfl (WL.val (V.len (t := 265) Tryz.runUnderlying265 (OV.p rfl)) rfl (WL.mv rfl rfl (WL.nil (WC.block ?_)))))
  refine WC.loop (σ := Nat × Option Addr × Nat × List Nat × Nat) (fun x => [(22, .slice (some ⟨g1, 0, none⟩) S c1), (23, .int .i64 (S : Int)), (24, .int .i64 (x.1 : Int)), (9, .slice x.2.1 x.2.2.2.1.length x.2.2.1), (10, .int .i64 (x.2.2.2.2 : Int))]) (fun x => bC (.slice x.2.1 x.2.2.2.1.length x.2.2.1) 5 1 x.2.2.2.1.length (aB .u8 x.2.2.2.1) :: Cells g1 296 (fQ rs ++ r1) :: bH la :: Cells b2 23 [.int .i64 bl, .int .i64 pg, .int .i64 (S : Int), .int .i64 (B : Int), .int .i64 (t : Int)] :: F) (fun x => x.1 ≤ S ∧ x.2.2.2.1.length ≤ x.1 * 512 ∧ x.2.2.2.2 ≤ 5000 ∧ gu (os.drop x.1) x.2.2.2.1 x.2.2.2.2 = gu os [] 0) (fun x => S - x.1) (0, none, 0, [], 0) ⟨Nat.zero_le _, Nat.zero_le _, Nat.zero_le _, rfl⟩ (.cons rfl (.cons rfl (.cons rfl (.cons rfl (.cons rfl (.nil _)))))) (fun w h => Sat.iA h 5 1) ?_
  rintro ⟨k, Ao, co, d, mx⟩ ⟨hk, hdl, hmx, hto⟩
  dsimp only at hk hdl hmx hto ⊢
  refine WC.sr (WL.val (V.lss (OV.p rfl) (OV.p rfl)) rfl (WL.nil (WC.seq ?_)))
  refine WC.cond rfl (fun hc1 => ?_) (fun hc1 => ?_)
  ·simp only [decide_eq_true_eq, decide_eq_false_iff_not] at hc1
   refine WC.skip (WC.seq (WC.block (WC.seq ?_)))
   have Sc : k < S := by omega
   obtain ⟨r, hr1⟩ : ∃ r, rs[k]? = some r := ⟨_, List.getElem?_eq_getElem (by omega)⟩
   have hro : os[k]? = some r.o := by rw [← hrs, List.getElem?_map, hr1]; rfl
   have hdr : os.drop k = r.o :: os.drop (k + 1) := by
     rw [List.drop_eq_getElem_cons (by omega)]
     congr 1
     rw [List.getElem?_eq_getElem (by omega)] at hro
     exact Option.some.inj hro
   have Qe := hin r (List.mem_of_getElem? hr1)
   have hrb := Qb r.o (List.mem_of_getElem? hro)
   rw [hdr] at hto
   have NV : ∀ {X : au} {H : List au}, aT K (X :: Cells g1 296 (fQ rs ++ r1) :: H) g1 (0 + (k : Int).toNat * 3) r.cells := fun {X H} i v hi => by
     refine Rd.up (Rd.here ?_)
     have h1 := tT rs k r hr1 i v hi
     rw [show 0 + (k : Int).toNat * 3 = k * 3 by omega, List.getElem?_append_left (List.getElem?_eq_some_iff.1 h1).1]
     exact h1
   refine WC.region ?_
   refine WL.val (V.bP OT (OV.p rfl) (OV.p rfl) (fun hc => by first | omega | (simp at hc; omega))) rfl ?_
   refine WL.val (V.aU (vs := r.cells) ⟨Tryz.isAgg296, Tryz.sizeOf296⟩ (OV.p rfl) rfl (fun _ => NV)) rfl ?_
   refine WL.alloc (cs := [(.slice none 0 0), (.int .i64 0), (.int .i64 0)]) Tryz.zeroValue296 rfl rfl (fun b12 => ?_)
   refine WL.store (cs := [_, _, _]) Tryz.sizeOf296 (OV.p rfl) (OV.p rfl) rfl rfl rfl (by repeat (first | exact aQ.here (cs' := [_, _, _]) rfl rfl | apply aQ.up)) ?_
   refine WL.nil (WC.seq (WC.sr (WL.val (V.fieldAddr BF (OV.p rfl)) rfl (WL.ld Tryz.isAgg32 rfl rfl ?_))))
   refine WL.val (V.neq (OV.p rfl) (OV.p rfl)) rfl (WL.nil ?_)
   refine WC.cond rfl (fun hc2 => ?_) (fun hc2 => ?_)
   ·simp only [decide_eq_true_eq, decide_eq_false_iff_not, Bool.not_eq_true', Bool.not_eq_false'] at hc2
    have h2 := hc2
    refine WC.seq ?_
    refine WC.fK (by kernel_rfl) (by kernel_rfl) ?_
    refine WQ.val (V.fieldAddr BF (OV.p rfl)) rfl ?_
    refine WQ.val (V.load Tryz.isAgg32 (OV.p rfl) (fun _ => by repeat (first | exact Rd.here rfl | apply Rd.up))) rfl ?_
    refine WQ.val (V.assign (OV.p rfl)) rfl (WQ.val (V.assign (OV.p rfl)) rfl (WQ.val (V.assign (OV.p rfl)) rfl (WQ.nil (WC.ret ?_))))
    have hno : r.o = none := by
      cases ho : r.o with
      | none => rfl
      | some q => rw [ho] at h2; exact absurd rfl h2
    have hR2 : R = ⟨50, [], 0⟩ := by rw [hR, ← hto, hno]; rfl
    exact aj.ret (H' := bC (.slice none 0 0) 5 1 0 [] :: F) (aL.vD rfl rfl rfl (look_eq rfl (by rw [hno]))) (fun w h => Sat.iA (h.drop 5) _ _) ⟨none, 0, by rw [hR2]; rfl, by rw [hR2]; rfl⟩
   ·simp only [decide_eq_true_eq, decide_eq_false_iff_not, Bool.not_eq_true', Bool.not_eq_false'] at hc2
    have h2 := hc2
    refine WC.skip (WC.sr (WL.mv rfl rfl (WL.val (V.fieldAddr G6 (OV.p rfl)) rfl (WL.ld Tryz.isAgg34 rfl rfl ?_))))
    obtain ⟨q, hq⟩ : ∃ q, r.o = some q := by
      cases ho : r.o with
      | none => rw [ho] at h2; exact absurd h2 (by decide)
      | some q => exact ⟨q, rfl⟩
    refine WL.sub (Sub.refl _) (fun w h => h.p1) ?_
    refine WL.append (m := d.length) (q := (wO r.o).length) (news := aB .u8 (wO r.o)) Tryz.underlying34 vP (OV.p rfl) (OV.p rfl) (by repeat (first | exact eB.seq Qe | apply Seq.up)) (o9 _ _) (by omega) rfl rfl (fun RH RV Sd RX => ?_)
    refine WL.sg rfl rfl (WL.nil (WC.region (WL.mv rfl rfl (WL.val (V.fieldAddr GL (OV.p rfl)) rfl (WL.ld Tryz.isAgg3 rfl rfl ?_)))))
    refine WL.val (V.max (OV.p rfl) (OV.p rfl)) rfl (WL.sg rfl rfl (WL.nil (WC.region (WL.ad rfl rfl rfl ?_))))
    refine WL.mv rfl rfl (WL.nil ?_)
    refine ⟨rfl, ?_⟩
    obtain ⟨⟨p1, p2⟩, nq⟩ := q
    rw [hq] at hrb hto
    have QU : wO r.o = p1 := by rw [hq]; rfl
    have hnq : HY r.o = nq := by rw [hq]; rfl
    refine ⟨(k + 1, RH, RV, d ++ p1, max mx nq), ⟨Sc, by show (d ++ p1).length ≤ (k + 1) * 512; have := hrb.1; rw [List.length_append]; simp only [wO] at this; omega, by show max mx nq ≤ 5000; have := hrb.2; simp only [HY] at this; omega, by dsimp only; rw [← hto]; rfl⟩, (by show S - (k + 1) < S - k; omega), .cons rfl (.cons rfl (.cons (look_eq rfl (by simp)) (.cons (look_eq rfl (by dsimp only; rw [List.length_append, QU])) (.cons (look_eq rfl (by dsimp only; rw [hnq]; congr 1; omega)) (.nil _))))), fun w h => ?_⟩
    have h' := h.sel 5 [0, 2, 3, 4] rfl
    rw [QU, ← dx, ← List.length_append] at h'
    exact h'
  ·simp only [decide_eq_true_eq, decide_eq_false_iff_not] at hc1
   refine WC.exit (WC.sr (WL.mv rfl rfl (WL.mv rfl rfl (WL.sg rfl rfl (WL.sg rfl rfl (WL.sg rfl rfl (WL.nil (WC.ret ?_))))))))
   obtain rfl : k = S := by omega
   have hR2 : R = ⟨0, d, mx⟩ := by rw [hR, ← hto, List.drop_of_length_le (by omega)]; rfl
   exact aj.ret (H' := bC (.slice Ao d.length co) 5 1 d.length (aB .u8 d) :: F) (aL.vD rfl rfl rfl rfl) (fun w h => h.sel 4 [0] rfl) ⟨Ao, co, by rw [hR2]; rfl, by rw [hR2]⟩
end
end Go.Proofs.YtcedojacbhnbiaaGreat
