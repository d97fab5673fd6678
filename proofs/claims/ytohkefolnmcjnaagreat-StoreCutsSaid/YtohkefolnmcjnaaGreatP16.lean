import Derived.Test.YtohkefolnmcjnaaGreatP14
namespace Go.Proofs.YtohkefolnmcjnaaGreat
open Go.Sl Go.RowKit
set_option linter.unusedVariables false
set_option linter.unusedSimpArgs false
set_option maxRecDepth 20000
def decD : Option (LL × Nat) → List Nat
  | none => []
  | some (p, _) => p.1
def decN : Option (LL × Nat) → Nat
  | none => 0
  | some (_, n) => n
def decE : Option (LL × Nat) → Nat
  | none => 50
  | some _ => 0
theorem _root_.Go.Sl.Seq.pre {K : World} {H : List Assn} {b T m : Nat} {cs vs : List Value} (hl : vs.length = m) : Seq K (Cells b T (vs ++ cs) :: H) (some ⟨b, 0, none⟩) m 1 vs := Seq.here (by rw [hl, Nat.mul_one]) (by rw [List.drop_zero]; exact List.prefix_append _ _)
theorem _root_.Go.Sl.Does.post_ {P : Program} {K : World} {F : List Assn} {f : FuncId} {args : Array Value} {post post' : Value → List Assn → Prop} (h : Does P f args K F post) (hp : ∀ v H', post v H' → ∃ H'', (∀ w, Sat K w H' → Sat K w H'') ∧ post' v H'') : Does P f args K F post' := fun w hw =>
  (h w hw).mono fun e w' ⟨v, H', h1, h2, h3⟩ => by
    obtain ⟨H'', h4, h5⟩ := hp v H' h3
    exact ⟨v, H'', h1, h4 w' h2, h5⟩
section
variable {K : World} {F : List Assn}
theorem bch_Decode' {t : Nat} {A B : Option Addr} {m q cap cap' : Nat} {d mo : List Nat} (ht : 1 ≤ t ∧ t ≤ 8) (hd : Seq K F A m 1 (nats .u8 d)) (hm : Seq K F B q 1 (nats .u8 mo)) (hd8 : Small 256 d) (hm8 : Small 256 mo) (hdl : 1 ≤ m ∧ m ≤ 512) (hml : q = moreLen t) :
    Does Tryz.prog 124 #[.int .i64 (t : Int), .slice A m cap, .slice B q cap'] K F
      (fun v H' => ∃ A' c mA mm mc l, v = .tuple #[.slice A' (decD (decF t d mo)).length c, .slice mA mm mc, .int .i64 (decN (decF t d mo) : Nat), .int .i64 (decE (decF t d mo) : Nat)] ∧
        SeqIn l A' (decD (decF t d mo)).length 1 (nats .u8 (decD (decF t d mo))) ∧ H' = AllA l :: F) := by
  refine Does.post_ (bch_Decode ht hd hm hd8 hm8 hdl hml) (fun v H' h => ?_)
  cases ho : decF t d mo with
  | none =>
    rw [ho] at h
    obtain ⟨rfl, rfl⟩ := h
    exact ⟨AllA [] :: H', fun w hw => Sat.all hw, none, 0, none, 0, 0, [], rfl, SeqIn.nil, rfl⟩
  | some r =>
    obtain ⟨p, n⟩ := r
    rw [ho] at h
    obtain ⟨g1, c1, r1, g2, c2, r2, h1, h2, rfl, rfl⟩ := h
    exact ⟨AllA [Cells g1 5 (nats .u8 p.1 ++ r1)] :: F, fun w hw => Sat.all (Sat.sel 2 [0] rfl hw), _, _, _, _, _, _, rfl, SeqIn.here (fun K => Seq.pre (nats_length _ _)), rfl⟩
end
def tornS (n t : Nat) (raw : List Nat) (j : Nat) : Bool := decide (t < 8 * n - ones (sect n raw j))
def tornTo (n t : Nat) (raw : List Nat) : Nat → Bool
  | 0 => false
  | j + 1 => tornTo n t raw j || tornS n t raw j
theorem tornTo_mono {n t : Nat} {raw : List Nat} {j : Nat} (h : tornS n t raw j = true) : ∀ k, j < k → tornTo n t raw k = true
  | 0, hk => absurd hk (Nat.not_lt_zero _)
  | k + 1, hk => by
    rw [tornTo]
    rcases Nat.lt_or_ge j k with h1 | h1
    · rw [tornTo_mono h k h1]; rfl
    · have : j = k := by omega
      subst this; rw [h, Bool.or_true]
def stateF (t S n : Nat) (raw : List Nat) : Nat :=
  if raw.getD (S * n) 0 = 0 then 0 else if raw.getD (S * n) 0 ≠ 255 then 60 else if tornTo n t raw S = true then 60 else 61
section
variable {K : World} {F : List Assn}
theorem ecc_state {bl pg : Int} {S B t : Nat} {A : Option Addr} {m cap : Nat} {raw : List Nat} (hg : (NG bl pg S B t).mays) (hr : Seq K F A m 1 (nats .u8 raw)) (h8 : Small 256 raw) (hm : m = rawN S B t) (hmc : m ≤ cap) :
    Tells Tryz.prog 123 #[(NG bl pg S B t).v, .slice A m cap] K F (.int .i64 (stateF t S (B + moreLen t) raw : Nat)) := by
  have hl : raw.length = m := by simpa [nats] using hr.len
  have hN := NGood.of hg
  obtain ⟨hs, hb, ht⟩ := hN
  have hmore : 2 ≤ moreLen t ∧ moreLen t ≤ 13 := by unfold moreLen; omega
  obtain ⟨n, hn⟩ : ∃ n, n = B + moreLen t := ⟨_, rfl⟩
  have hm2 : m = S * n + 1 := by rw [hm, hn]; rfl
  have hSn : S * n ≤ 8 * 525 := Nat.mul_le_mul hs.2 (by omega)
  rw [← hn]
  obtain ⟨z, hz⟩ : ∃ z, z = raw.getD (S * n) 0 := ⟨_, rfl⟩
  have hst : stateF t S n raw = if z = 0 then 0 else if z ≠ 255 then 60 else if tornTo n t raw S = true then 60 else 61 := by unfold stateF; rw [hz]
  rw [hst]
  have hz8 : z < 256 := by rw [hz]; exact h8.at_ (by decide) _
  have hlast : ∀ {X : Assn}, Rd K (X :: F) (A.map (·.add (((m : Int) - 1).toNat * 1))) (.int .u8 (z : Nat)) := fun {X} => by
    rw [show ((m : Int) - 1).toNat = S * n by omega, hz]; exact (hr.nat_rd (by omega)).up
  refine Does.enter Tryz.func123 rfl Tryz.ntmps123 rfl ?_
  simp only [env0, Nat.reduceAdd]
  refine WC.sr ?_
  refine WL.box (cs := [_, _, _, _, _]) (OV.p rfl) rfl rfl (fun b2 => ?_)
  refine WL.sg rfl rfl ?_
  refine WL.nil ?_
  refine WC.seq ?_
  refine WC.sr ?_
  refine WL.mv rfl rfl ?_
  refine WL.mv rfl rfl ?_
  refine WL.val (V.len (t := 38) Tryz.runUnderlying38 (OV.p rfl)) rfl ?_
  refine WL.sb rfl rfl rfl ?_
  refine WL.val (V.idxS st38 (OV.p rfl) (OV.p rfl) (fun hc => by omega) (fun hc => hlast)) rfl ?_
  refine WL.val (V.load Tryz.isAgg5 (OV.p rfl) (fun hc => hlast)) rfl ?_
  refine WL.sg rfl rfl ?_
  refine WL.nil ?_
  refine WC.block ?_
  refine WC.sr ?_
  refine WL.mv rfl rfl ?_
  refine WL.val (V.eql (OV.p rfl) (OV.p rfl)) rfl ?_
  refine WL.sg rfl rfl ?_
  refine WL.nil ?_
  refine WC.cond rfl (fun hc0 => ?_) (fun hc0 => ?_)
  ·simp only [decide_eq_true_eq, decide_eq_false_iff_not] at hc0
   rw [if_pos (by omega)]
   refine WC.sr ?_
   refine WL.sg rfl rfl ?_
   refine WL.nil ?_
   refine WC.ret ?_
   exact BodyQ.ret (H' := F) (Res.tmp rfl rfl) (fun w h => h.drop 1) ⟨rfl, rfl⟩
  ·simp only [decide_eq_true_eq, decide_eq_false_iff_not] at hc0
   rw [if_neg (by omega)]
   refine WC.sr ?_
   refine WL.mv rfl rfl ?_
   refine WL.val (V.neq (OV.p rfl) (OV.p rfl)) rfl ?_
   refine WL.sg rfl rfl ?_
   refine WL.nil ?_
   refine WC.cond rfl (fun hc1 => ?_) (fun hc1 => ?_)
   ·simp only [decide_eq_true_eq, decide_eq_false_iff_not, Bool.not_eq_true', Bool.not_eq_false'] at hc1
    rw [if_pos (by omega)]
    refine WC.sr ?_
    refine WL.sg rfl rfl ?_
    refine WL.nil ?_
    refine WC.ret ?_
    exact BodyQ.ret (H' := F) (Res.tmp rfl rfl) (fun w h => h.drop 1) ⟨rfl, rfl⟩
   ·simp only [decide_eq_true_eq, decide_eq_false_iff_not, Bool.not_eq_true', Bool.not_eq_false'] at hc1
    rw [if_neg (by omega)]
    refine WC.skip ?_
    refine WC.sr ?_
    refine WL.val (V.loadA (vs := [_, _, _, _, _]) ⟨Tryz.isAgg23, Tryz.sizeOf23⟩ (OV.p rfl) rfl (fun _ => by repeat (first | exact Rds.gets ⟨rfl, rfl, rfl, rfl, rfl, trivial⟩ | apply Rds.up))) rfl ?_
    refine WL.call (vs := [_]) Tryz.call103 ⟨OV.p rfl, trivial⟩ (Tells.eq (v' := .int .i64 (n : Int)) (ecc_whole (NG bl pg S B t) hg _ _) (by rw [NG.whole, hn])) rfl ?_
    rintro _ H0 ⟨rfl, h0⟩
    subst H0
    refine WL.sg rfl rfl ?_
    refine WL.nil ?_
    refine WC.seq ?_
    refine WC.sr ?_
    refine WL.sg rfl rfl ?_
    refine WL.nil ?_
    refine WC.block ?_
    refine WC.loop (σ := Nat) (fun j => [(1, .slice A m cap), (2, ptr b2 0), (6, .int .i64 (n : Int)), (7, .int .i64 ((j * n : Nat) : Int))]) (fun _ => Cells b2 23 [.int .i64 bl, .int .i64 pg, .int .i64 (S : Int), .int .i64 (B : Int), .int .i64 (t : Int)] :: F) (fun j => j ≤ S ∧ tornTo n t raw j = false) (fun j => S - j) 0 ⟨Nat.zero_le _, rfl⟩ (.cons rfl (.cons rfl (.cons rfl (.cons (look_eq rfl (by simp)) (.nil _))))) (fun w h => h) ?_
    rintro j ⟨hj, hjt⟩
    have hjn : j * n ≤ S * n := Nat.mul_le_mul_right _ hj
    refine WC.seq ?_
    refine WC.sr ?_
    refine WL.mv rfl rfl ?_
    refine WL.mv rfl rfl ?_
    refine WL.val (V.addI (OV.p rfl) (OV.p rfl) (fun _ => by omega)) rfl ?_
    refine WL.mv rfl rfl ?_
    refine WL.val (V.len (t := 38) Tryz.runUnderlying38 (OV.p rfl)) rfl ?_
    refine WL.val (V.lss (OV.p rfl) (OV.p rfl)) rfl ?_
    refine WL.nil ?_
    refine WC.cond rfl (fun hc2 => ?_) (fun hc2 => ?_)
    ·simp only [decide_eq_true_eq, decide_eq_false_iff_not] at hc2
     have hjS : j < S := by
       rcases Nat.lt_or_ge j S with h | h
       · exact h
       · exfalso
         have : j = S := by omega
         rw [this] at hc2
         omega
     have hj1 : (j + 1) * n ≤ S * n := Nat.mul_le_mul_right _ hjS
     rw [Nat.succ_mul] at hj1
     have hsq : Seq K F (A.map (·.add (j * n * 1))) n 1 (nats .u8 (sect n raw j)) := by
       have h1 := Seq.dropS hr (l := j * n) (u := cap) (by omega) hmc
       rw [if_neg (by omega)] at h1
       have h2 := Seq.take h1 (show n ≤ m - j * n by omega)
       rw [nats_drop, nats_take] at h2; exact h2
     have hon := ones_le (sect n raw j)
     have hsl : (sect n raw j).length = n := by unfold sect; rw [List.length_take, List.length_drop]; omega
     rw [hsl] at hon
     refine WC.skip ?_
     refine WC.seq ?_
     refine WC.block ?_
     refine WC.seq ?_
     refine WC.regionQ (by kernel_rfl) (by kernel_rfl) ?_
     refine WQ.val (V.move (OV.p rfl)) rfl ?_
     refine WQ.val (V.mulI (OV.p rfl) (OV.p rfl) (fun hc => by first | omega | (simp at hc; omega))) rfl ?_
     refine WQ.val (V.move (OV.p rfl)) rfl ?_
     refine WQ.val (V.move (OV.p rfl)) rfl ?_
     refine WQ.val (V.move (OV.p rfl)) rfl ?_
     refine WQ.val (V.move (OV.p rfl)) rfl ?_
     refine WQ.val (V.addI (OV.p rfl) (OV.p rfl) (fun _ => by omega)) rfl ?_
     refine WQ.val (V.val_eq (v' := .slice (A.map (·.add (j * n * 1))) n (cap - j * n)) (V.slice (l := j * n) (h := j * n + n) (u := cap) st38 (OV.p rfl) (OO.some (OV.p rfl) (fun _ => rfl)) (OO.some (OV.p rfl) (fun _ => by omega)) OO.none (by simp) (by omega) (by omega) (Nat.le_refl _)) (fun _ => by rw [if_neg (by omega), Nat.add_sub_cancel_left])) rfl ?_
     refine WQ.call (vs := [_]) Tryz.call163 ⟨OV.p rfl, trivial⟩ (bits_Ones hsq.up (sect_small h8 j) (by omega)) rfl ?_
     refine WQ.val (V.subI (OV.p rfl) (OV.p rfl) (fun hc => by first | omega | (simp at hc; omega))) rfl ?_
     refine WQ.val (V.fieldAddr fo23_4 (OV.p rfl)) rfl ?_
     refine WQ.val (V.load Tryz.isAgg3 (OV.p rfl) (fun _ => by repeat (first | exact Rd.here rfl | apply Rd.up))) rfl ?_
     refine WQ.val (V.gtr (OV.p rfl) (OV.p rfl)) rfl ?_
     refine WQ.nil ?_
     refine WC.cond rfl (fun hc3 => ?_) (fun hc3 => ?_)
     ·simp only [decide_eq_true_eq, decide_eq_false_iff_not] at hc3
      have hto : tornS n t raw j = true := decide_eq_true (by omega)
      refine WC.sr ?_
      refine WL.sg rfl rfl ?_
      refine WL.nil ?_
      refine WC.ret ?_
      rw [if_pos (tornTo_mono hto S hjS)]
      exact BodyQ.ret (H' := F) (Res.tmp rfl rfl) (fun w h => h.drop 1) ⟨rfl, rfl⟩
     ·simp only [decide_eq_true_eq, decide_eq_false_iff_not] at hc3
      have hto : tornS n t raw j = false := decide_eq_false (by omega)
      refine WC.skip ?_
      refine WC.region ?_
      refine WL.mv rfl rfl ?_
      refine WL.mv rfl rfl ?_
      refine WL.val (V.val_eq (v' := .int .i64 (((j + 1) * n : Nat) : Int)) (V.addI (OV.p rfl) (OV.p rfl) (fun _ => by omega)) (fun _ => by rw [Nat.succ_mul]; simp)) rfl ?_
      refine WL.sg rfl rfl ?_
      refine WL.nil ?_
      refine ⟨rfl, ?_⟩
      exact ⟨j + 1, ⟨hjS, by rw [tornTo, hjt, hto]; rfl⟩, (by show S - (j + 1) < S - j; omega), .cons rfl (.cons rfl (.cons rfl (.cons rfl (.nil _)))), fun w h => h⟩
    ·simp only [decide_eq_true_eq, decide_eq_false_iff_not] at hc2
     refine WC.exit ?_
     refine WC.sr ?_
     refine WL.sg rfl rfl ?_
     refine WL.nil ?_
     refine WC.ret ?_
     obtain rfl : j = S := by
       rcases Nat.lt_or_ge j S with h | h
       · exfalso
         have hj1 : (j + 1) * n ≤ S * n := Nat.mul_le_mul_right _ h
         rw [Nat.succ_mul] at hj1
         omega
       · omega
     rw [hjt]
     exact BodyQ.ret (H' := F) (Res.tmp rfl rfl) (fun w h => h.drop 1) ⟨rfl, rfl⟩
end
def secD (B n : Nat) (raw : List Nat) (j : Nat) : List Nat := (raw.drop (j * n)).take B
def secM (B n : Nat) (raw : List Nat) (j : Nat) : List Nat := ((raw.drop (j * n)).drop B).take (n - B)
def uSec (t B n : Nat) (raw : List Nat) (j : Nat) : Option (LL × Nat) := decF t (secD B n raw j) (secM B n raw j)
structure URec where
  A : Option Addr
  c : Nat
  o : Option (LL × Nat)
abbrev URec.cells (r : URec) : List Value := [.slice r.A (decD r.o).length r.c, .int .i64 (decN r.o : Nat), .int .i64 (decE r.o : Nat)]
def recCells (rs : List URec) : List Value := rs.flatMap URec.cells
def RecsIn (l : List Assn) (rs : List URec) : Prop := ∀ r ∈ rs, SeqIn l r.A (decD r.o).length 1 (nats .u8 (decD r.o))
theorem recCells_append (rs ss : List URec) : recCells (rs ++ ss) = recCells rs ++ recCells ss := List.flatMap_append
theorem recCells_get : ∀ (rs : List URec) (k : Nat) (r : URec), rs[k]? = some r → ∀ i v, r.cells[i]? = some v → (recCells rs)[k * 3 + i]? = some v
  | [], k, r, h => by simp at h
  | r' :: rs, 0, r, h => fun i v hi => by
    simp only [List.getElem?_cons_zero, Option.some.injEq] at h
    subst h
    unfold recCells
    rw [List.flatMap_cons, Nat.zero_mul, Nat.zero_add, List.getElem?_append_left (List.getElem?_eq_some_iff.1 hi).1]
    exact hi
  | r' :: rs, k + 1, r, h => fun i v hi => by
    have ih := recCells_get rs k r (by simpa using h) i v hi
    unfold recCells at ih ⊢
    rw [List.flatMap_cons, List.getElem?_append_right (by simp [URec.cells]; omega)]
    rw [← ih]
    congr 1
    simp [URec.cells]; omega
section
variable {K : World} {F : List Assn}
theorem ecc_Unpack {bl pg : Int} {S B t : Nat} {A : Option Addr} {m cap : Nat} {raw : List Nat} (hg : (NG bl pg S B t).mays) (hr : Seq K F A m 1 (nats .u8 raw)) (h8 : Small 256 raw) (hm : m = rawN S B t) (hmc : m ≤ cap) :
    Does Tryz.prog 87 #[(NG bl pg S B t).v, .slice A m cap] K F
      (fun v H' => (stateF t S (B + moreLen t) raw ≠ 0 ∧ v = .tuple #[.slice none 0 0, .int .i64 (stateF t S (B + moreLen t) raw : Nat)] ∧ H' = F) ∨
        (stateF t S (B + moreLen t) raw = 0 ∧ ∃ A' cap' l rs, v = .tuple #[.slice A' S cap', .int .i64 0] ∧ rs.map URec.o = (List.range S).map (uSec t B (B + moreLen t) raw) ∧ RecsIn l rs ∧
          H' = SlA (.slice A' S cap') 151 3 S (recCells rs) :: AllA l :: F)) := by
  have hl : raw.length = m := by simpa [nats] using hr.len
  have hmay : (NG bl pg S B t).may = true := decide_eq_true hg
  have hN := NGood.of hg
  obtain ⟨hs, hb, ht⟩ := hN
  have hmore : 2 ≤ moreLen t ∧ moreLen t ≤ 13 := by unfold moreLen; omega
  have hst := fun (K : World) (F : List Assn) (hr : Seq K F A m 1 (nats .u8 raw)) => ecc_state hg hr h8 hm hmc
  obtain ⟨n, hn⟩ : ∃ n, n = B + moreLen t := ⟨_, rfl⟩
  have hm2 : m = S * n + 1 := by rw [hm, hn]; rfl
  have hSn : S * n ≤ 8 * 525 := Nat.mul_le_mul hs.2 (by omega)
  rw [← hn] at hst ⊢
  obtain ⟨st, hstv⟩ : ∃ st, st = stateF t S n raw := ⟨_, rfl⟩
  rw [← hstv] at hst ⊢
  have hst2 : st < 100 := by rw [hstv]; unfold stateF; repeat (first | split | decide)
  refine Does.enter Tryz.func87 rfl Tryz.ntmps87 rfl ?_
  simp only [env0, Nat.reduceAdd]
  refine WC.sr ?_
  refine WL.box (cs := [_, _, _, _, _]) (OV.p rfl) rfl rfl (fun b2 => ?_)
  refine WL.sg rfl rfl ?_
  refine WL.sg rfl rfl ?_
  refine WL.nil ?_
  refine WC.sr ?_
  refine WL.val (V.loadA (vs := [_, _, _, _, _]) ⟨Tryz.isAgg23, Tryz.sizeOf23⟩ (OV.p rfl) rfl (fun _ => by repeat (first | exact Rds.gets ⟨rfl, rfl, rfl, rfl, rfl, trivial⟩ | apply Rds.up))) rfl ?_
  refine WL.call (vs := [_]) Tryz.call54 ⟨OV.p rfl, trivial⟩ (Tells.eq (v' := .tuple #[.int .i64 (m : Int), .int .i64 0]) (ecc_Raw (NG bl pg S B t) _ _) (by rw [hmay, NG.raw, hm]; rfl)) rfl ?_
  rintro _ H0 ⟨rfl, h0⟩
  subst H0
  refine WL.mv rfl rfl ?_
  refine WL.xt rfl rfl rfl ?_
  refine WL.xt rfl rfl rfl ?_
  refine WL.sg rfl rfl ?_
  refine WL.sg rfl rfl ?_
  refine WL.nil ?_
  refine WC.seq ?_
  refine WC.sr ?_
  refine WL.mv rfl rfl ?_
  refine WL.val (V.neq (OV.p rfl) (OV.p rfl)) rfl ?_
  refine WL.mv rfl rfl ?_
  refine WL.valG (oj := _) rfl rfl rfl GC.f (V.move (OV.p rfl)) rfl ?_
  refine WL.valG (oj := _) rfl rfl rfl GC.f (V.len (t := 38) Tryz.runUnderlying38 (OV.g rfl id)) rfl ?_
  refine WL.valG (oj := _) rfl rfl rfl GC.f (V.move (OV.p rfl)) rfl ?_
  refine WL.valG (oj := _) rfl rfl rfl GC.f (V.neq (OV.g rfl id) (OV.g rfl id)) rfl ?_
  refine WL.val (V.pickOr (OV.p rfl) (OV.g rfl id)) rfl ?_
  refine WL.nil ?_
  refine WC.condF' rfl (by first | rfl | (simp; done) | (simp; omega)) ?_
  refine WC.skip ?_
  refine WC.seq ?_
  refine WC.sr ?_
  refine WL.val (V.loadA (vs := [_, _, _, _, _]) ⟨Tryz.isAgg23, Tryz.sizeOf23⟩ (OV.p rfl) rfl (fun _ => by repeat (first | exact Rds.gets ⟨rfl, rfl, rfl, rfl, rfl, trivial⟩ | apply Rds.up))) rfl ?_
  refine WL.mv rfl rfl ?_
  refine WL.call (vs := [_, _]) Tryz.call123 ⟨OV.p rfl, OV.p rfl, trivial⟩ (hst _ _ hr.up) rfl ?_
  rintro _ H0 ⟨rfl, h0⟩
  subst H0
  refine WL.sg rfl rfl ?_
  refine WL.nil ?_
  refine WC.sr ?_
  refine WL.mv rfl rfl ?_
  refine WL.val (V.neq (OV.p rfl) (OV.p rfl)) rfl ?_
  refine WL.nil ?_
  refine WC.cond rfl (fun hc1 => ?_) (fun hc1 => ?_)
  ·simp only [decide_eq_true_eq, decide_eq_false_iff_not, Bool.not_eq_true', Bool.not_eq_false'] at hc1
   have h1 := hc1
   refine WC.sr ?_
   refine WL.mv rfl rfl ?_
   refine WL.sg rfl rfl ?_
   refine WL.sg rfl rfl ?_
   refine WL.nil ?_
   refine WC.ret ?_
   exact BodyQ.ret (H' := F) (Res.tmp2 rfl rfl rfl) (fun w h => h.drop 1) (.inl ⟨by omega, rfl, rfl⟩)
  ·simp only [decide_eq_true_eq, decide_eq_false_iff_not, Bool.not_eq_true', Bool.not_eq_false'] at hc1
   have h1 := hc1
   refine WC.skip ?_
   refine WC.sr ?_
   refine WL.sg rfl rfl ?_
   refine WL.nil ?_
   refine WC.seq ?_
   refine WC.sr ?_
   refine WL.val (V.fieldAddr fo23_2 (OV.p rfl)) rfl ?_
   refine WL.ld Tryz.isAgg3 rfl rfl ?_
   refine WL.mv rfl rfl ?_
   refine WL.nil ?_
   refine WC.block ?_
   refine WC.loop (σ := Nat × Option Addr × Nat × Option Addr × Nat × List Assn × List URec) (fun x => [(1, .slice x.2.1 (m - x.1 * n) x.2.2.1), (2, ptr b2 0), (9, .slice x.2.2.2.1 x.1 x.2.2.2.2.1), (32, .int .i64 (S : Int)), (33, .int .i64 (x.1 : Int))]) (fun x => SlA (.slice x.2.2.2.1 x.1 x.2.2.2.2.1) 151 3 x.1 (recCells x.2.2.2.2.2.2) :: AllA x.2.2.2.2.2.1 :: Cells b2 23 [.int .i64 bl, .int .i64 pg, .int .i64 (S : Int), .int .i64 (B : Int), .int .i64 (t : Int)] :: F) (fun x => x.1 ≤ S ∧ m - x.1 * n ≤ x.2.2.1 ∧ Seq K F x.2.1 (m - x.1 * n) 1 (nats .u8 (raw.drop (x.1 * n))) ∧ x.2.2.2.2.2.2.map URec.o = (List.range x.1).map (uSec t B n raw) ∧ RecsIn x.2.2.2.2.2.1 x.2.2.2.2.2.2) (fun x => S - x.1) (0, A, cap, none, 0, [], []) ⟨Nat.zero_le _, by show m - 0 * n ≤ cap; omega, by simpa using hr, rfl, fun r hr => by simp at hr⟩ (.cons (look_eq rfl (by simp)) (.cons rfl (.cons rfl (.cons rfl (.cons rfl (.nil _)))))) (fun w h => Sat.slNil (Sat.all h) 151 3) ?_
   rintro ⟨j, Aj, cj, Ao, co, la, rs⟩ ⟨hj, hjc, hjs, hrs, hin⟩
   dsimp only at hj hjc hjs hrs hin ⊢
   have hjn : j * n ≤ S * n := Nat.mul_le_mul_right _ hj
   have hrl : rs.length = j := by have := congrArg List.length hrs; simpa using this
   refine WC.sr ?_
   refine WL.val (V.lss (OV.p rfl) (OV.p rfl)) rfl ?_
   refine WL.nil ?_
   refine WC.seq ?_
   refine WC.cond rfl (fun hc2 => ?_) (fun hc2 => ?_)
   ·simp only [decide_eq_true_eq, decide_eq_false_iff_not] at hc2
    refine WC.skip ?_
    refine WC.seq ?_
    refine WC.block ?_
    refine WC.seq ?_
    have hjS : j < S := by omega
    have hj1 : (j + 1) * n ≤ S * n := Nat.mul_le_mul_right _ hjS
    rw [Nat.succ_mul] at hj1
    have hsd : Seq K F Aj B 1 (nats .u8 (secD B n raw j)) := by
      have h1 := Seq.take hjs (show B ≤ m - j * n by omega)
      rw [nats_take] at h1; exact h1
    have hsm : Seq K F (Aj.map (·.add (B * 1))) (n - B) 1 (nats .u8 (secM B n raw j)) := by
      have h1 := Seq.dropS hjs (l := B) (u := cj) (by omega) hjc
      rw [if_neg (by omega)] at h1
      have h2 := Seq.take h1 (show n - B ≤ m - j * n - B by omega)
      rw [nats_drop, nats_take] at h2; exact h2
    refine WC.region ?_
    refine WL.val (V.loadA (vs := [_, _, _, _, _]) ⟨Tryz.isAgg23, Tryz.sizeOf23⟩ (OV.p rfl) rfl (fun _ => by repeat (first | exact Rds.gets ⟨rfl, rfl, rfl, rfl, rfl, trivial⟩ | apply Rds.up))) rfl ?_
    refine WL.call (vs := [_]) Tryz.call103 ⟨OV.p rfl, trivial⟩ (Tells.eq (v' := .int .i64 (n : Int)) (ecc_whole (NG bl pg S B t) hg _ _) (by rw [NG.whole, hn])) rfl ?_
    rintro _ H0 ⟨rfl, h0⟩
    subst H0
    refine WL.sg rfl rfl ?_
    refine WL.nil ?_
    refine WC.sr ?_
    refine WL.alloc (cs := [(.slice none 0 0), (.int .i64 0), (.int .i64 0)]) Tryz.zeroValue151 rfl rfl (fun b11 => ?_)
    refine WL.nil ?_
    refine WC.seq ?_
    refine WC.regionA (SlA (.slice Ao j co) 151 3 j (recCells rs) :: AllA la :: Cells b2 23 [.int .i64 bl, .int .i64 pg, .int .i64 (S : Int), .int .i64 (B : Int), .int .i64 (t : Int)] :: F) (by kernel_rfl) ?_
    refine WA.t 0 rfl (V.fieldAddr fo23_4 (OV.p rfl)) ?_
    refine WA.t 1 rfl (V.load Tryz.isAgg3 (OV.p rfl) (fun _ => by repeat (first | exact Rd.here rfl | apply Rd.up))) ?_
    refine WA.t 2 rfl (V.move (OV.p rfl)) ?_
    refine WA.t 3 rfl (V.fieldAddr fo23_3 (OV.p rfl)) ?_
    refine WA.t 4 rfl (V.load Tryz.isAgg3 (OV.p rfl) (fun _ => by repeat (first | exact Rd.here rfl | apply Rd.up))) ?_
    refine WA.t 5 rfl (V.fieldAddr fo23_3 (OV.p rfl)) ?_
    refine WA.t 6 rfl (V.load Tryz.isAgg3 (OV.p rfl) (fun _ => by repeat (first | exact Rd.here rfl | apply Rd.up))) ?_
    refine WA.t 7 rfl (V.val_eq (v' := .slice Aj B B) (V.slice (l := 0) (h := B) (u := B) st38 (OV.p rfl) OO.none (OO.some (OV.p rfl) (fun _ => rfl)) (OO.some (OV.p rfl) (fun _ => rfl)) (by simp) (Nat.zero_le _) (Nat.le_refl _) (by omega)) (fun _ => by rw [show (B - 0 : Nat) = B from rfl]; cases Aj <;> simp [Addr.add])) ?_
    refine WA.t 8 rfl (V.move (OV.p rfl)) ?_
    refine WA.t 9 rfl (V.fieldAddr fo23_3 (OV.p rfl)) ?_
    refine WA.t 10 rfl (V.load Tryz.isAgg3 (OV.p rfl) (fun _ => by repeat (first | exact Rd.here rfl | apply Rd.up))) ?_
    refine WA.t 11 rfl (V.move (OV.p rfl)) ?_
    refine WA.t 12 rfl (V.move (OV.p rfl)) ?_
    refine WA.t 13 rfl (V.val_eq (v' := .slice (Aj.map (·.add (B * 1))) (n - B) (n - B)) (V.slice (l := B) (h := n) (u := n) st38 (OV.p rfl) (OO.some (OV.p rfl) (fun _ => rfl)) (OO.some (OV.p rfl) (fun _ => rfl)) (OO.some (OV.p rfl) (fun _ => rfl)) (by simp) (by omega) (Nat.le_refl _) (by omega)) (fun _ => by rw [if_neg (by omega)])) ?_
    refine WA.o 14 rfl ?_
    refine WL.call (vs := [_, _, _]) Tryz.call124 ⟨OV.p rfl, OV.p rfl, OV.p rfl, trivial⟩ (bch_Decode' ht (by repeat (first | exact hsd | apply Seq.up)) (by repeat (first | exact hsm | apply Seq.up)) (Small.take (Small.drop h8)) (Small.take (Small.drop (Small.drop h8))) (by omega) (by omega)) rfl ?_
    rintro _ _ ⟨A1, c1, mA, mm, mc, l1, rfl, hin1, rfl⟩
    refine WL.nil ?_
    refine WA.t 15 rfl (V.move (OV.p rfl)) ?_
    refine WA.t 16 rfl (V.extract (OV.p rfl) rfl) ?_
    refine WA.t 17 rfl (V.extract (OV.p rfl) rfl) ?_
    refine WA.t 18 rfl (V.extract (OV.p rfl) rfl) ?_
    refine WA.t 19 rfl (V.extract (OV.p rfl) rfl) ?_
    refine WA.t 20 rfl (V.fieldAddr fo151_0 (OV.p rfl)) ?_
    refine WA.o 21 rfl ?_
    refine WL.store (cs := [_]) Tryz.sizeOf38 (OV.p rfl) (OV.p rfl) rfl rfl rfl (by repeat (first | exact Upd.here (cs' := [_, _, _]) rfl rfl | apply Upd.up)) ?_
    refine WL.nil ?_
    refine WA.t 22 rfl (V.fieldAddr fo151_1 (OV.p rfl)) ?_
    refine WA.o 23 rfl ?_
    refine WL.store (cs := [_]) Tryz.sizeOf3 (OV.p rfl) (OV.p rfl) rfl rfl rfl (by repeat (first | exact Upd.here (cs' := [_, _, _]) rfl rfl | apply Upd.up)) ?_
    refine WL.nil ?_
    refine WA.t 24 rfl (V.fieldAddr fo151_2 (OV.p rfl)) ?_
    refine WA.o 25 rfl ?_
    refine WL.store (cs := [_]) Tryz.sizeOf28 (OV.p rfl) (OV.p rfl) rfl rfl rfl (by repeat (first | exact Upd.here (cs' := [_, _, _]) rfl rfl | apply Upd.up)) ?_
    refine WL.nil ?_
    refine WA.fin ?_
    refine WC.sr ?_
    refine WL.mv rfl rfl ?_
    refine WL.val (V.loadA (vs := [_, _, _]) ⟨Tryz.isAgg151, Tryz.sizeOf151⟩ (OV.p rfl) rfl (fun _ => by repeat (first | exact Rds.gets ⟨rfl, rfl, rfl, trivial⟩ | apply Rds.up))) rfl ?_
    refine WL.buildSlice (E := 151) (cs := [_, _, _]) (vs := [(0, _)]) ⟨OV.p rfl, trivial⟩ rfl (bsl121_1_0 _ _ _) rfl (fun b62 => ?_)
    refine WL.sub (Sub.refl _) (fun w h => h.sel 6 [3, 0, 1, 4, 5] rfl) ?_
    refine WL.append (m := j) (q := 1) Tryz.underlying121 el151 (OV.p rfl) (OV.p rfl) (Seq.all rfl) (by simp [Value.oneCell']) (by omega) rfl rfl (fun A63 c63 hn63 hc63 => ?_)
    refine WL.sg rfl rfl ?_
    refine WL.nil ?_
    refine WC.region ?_
    refine WL.mv rfl rfl ?_
    refine WL.mv rfl rfl ?_
    refine WL.val (V.slice (l := n) (h := m - j * n) (u := cj) st38 (OV.p rfl) (OO.some (OV.p rfl) (fun _ => rfl)) OO.none OO.none (by simp) (by omega) (by omega) (Nat.le_refl _)) rfl ?_
    refine WL.sg rfl rfl ?_
    refine WL.nil ?_
    refine WC.region ?_
    refine WL.ad rfl rfl rfl ?_
    refine WL.mv rfl rfl ?_
    refine WL.nil ?_
    refine ⟨rfl, ?_⟩
    refine ⟨(j + 1, (if cj = n then Aj else Aj.map (·.add (n * 1))), cj - n, A63, c63, AllA l1 :: la, rs ++ [⟨A1, c1, uSec t B n raw j⟩]), ⟨hjS, by show m - (j + 1) * n ≤ cj - n; rw [Nat.succ_mul]; omega, ?_, ?_, ?_⟩, (by show S - (j + 1) < S - j; omega), .cons (look_eq rfl (by dsimp only; rw [Nat.succ_mul, Nat.sub_sub])) (.cons rfl (.cons rfl (.cons rfl (.cons (look_eq rfl (by simp)) (.nil _))))), fun w h => ?_⟩
    · have h1 := Seq.dropS hjs (show n ≤ m - j * n by omega) hjc
      rw [nats_drop, List.drop_drop, Nat.sub_sub] at h1
      dsimp only
      rw [Nat.succ_mul]
      exact h1
    · dsimp only
      rw [List.map_append, hrs, List.range_succ, List.map_append]
      rfl
    · intro r hr2
      rcases List.mem_append.1 hr2 with h | h
      · exact (hin r h).up
      · rw [List.mem_singleton] at h
        subst h
        exact SeqIn.here (fun K => SeqIn.seq hin1)
    · have h' := (Sat.absorb (h.sel 5 [2, 3, 0, 4] rfl)).p1
      dsimp only
      rw [recCells_append]
      exact h'
   ·simp only [decide_eq_true_eq, decide_eq_false_iff_not] at hc2
    refine WC.exit ?_
    refine WC.sr ?_
    refine WL.mv rfl rfl ?_
    refine WL.sg rfl rfl ?_
    refine WL.sg rfl rfl ?_
    refine WL.nil ?_
    refine WC.ret ?_
    obtain rfl : j = S := by omega
    exact BodyQ.ret (H' := SlA (.slice Ao j co) 151 3 j (recCells rs) :: AllA la :: F) (Res.tmp2 rfl rfl rfl) (fun w h => h.sel 3 [0, 1] rfl) (.inr ⟨by omega, Ao, co, la, rs, rfl, hrs, hin, rfl⟩)
end
end Go.Proofs.YtohkefolnmcjnaaGreat
namespace Go.Proofs.YtohkefolnmcjnaaGreat
open Go.Sl Go.RowKit
set_option linter.unusedVariables false
set_option linter.unusedSimpArgs false
set_option maxRecDepth 20000
structure RR where
  err : Nat
  d : List Nat
  n : Nat
def readTo : List (Option (LL × Nat)) → List Nat → Nat → RR
  | [], d, n => ⟨0, d, n⟩
  | none :: _, _, _ => ⟨50, [], 0⟩
  | some (p, k) :: rest, d, n => readTo rest (d ++ p.1) (max n k)
def readF (t S B : Nat) (raw : List Nat) : RR :=
  if stateF t S (B + moreLen t) raw ≠ 0 then ⟨stateF t S (B + moreLen t) raw, [], 0⟩ else readTo ((List.range S).map (uSec t B (B + moreLen t) raw)) [] 0
theorem decTo_n (t : Nat) (d m : List Nat) (h : d.length ≤ 512) (ht : t ≤ 8) : (decD (decF t d m)).length ≤ d.length ∧ decN (decF t d m) ≤ 5000 := by
  cases ho : decF t d m with
  | none => exact ⟨Nat.zero_le _, Nat.zero_le _⟩
  | some r =>
    unfold decF at ho
    split at ho
    · cases ho
    · split at ho
      · cases ho
      · split at ho
        · cases ho
        · injection ho with ho
          subst ho
          refine ⟨Nat.le_of_eq (decTo_len _ _ _ _ _).1, ?_⟩
          have := decTo_le t (locC (sums2 t (d, maskM t m))) (locL (sums2 t (d, maskM t m))) (d, maskM t m) (13 * t + 8 * d.length)
          show (decTo _ _ _ _ _).2 ≤ 5000
          omega
theorem slA_rows {K : World} {F : List Assn} {A : Option Addr} {m cap E s : Nat} {cs : List Value} (hm : 0 < m) : ∀ w, Sat K w (SlA (.slice A m cap) E s m cs :: F) → ∃ x : Nat × List Value, (A = some ⟨x.1, 0, none⟩) ∧ Sat K w (Cells x.1 E (cs ++ x.2) :: F) := fun w hw => by
  cases A with
  | none => have := (SlA.nilCs hw).1; omega
  | some a =>
    obtain ⟨g, rfl⟩ := SlA.addr hw
    obtain ⟨r, _, h5⟩ := Sat.slCells hw
    exact ⟨(g, r), rfl, h5⟩
section
variable {K : World} {F : List Assn}
theorem ecc_Read {bl pg : Int} {S B t : Nat} {A : Option Addr} {m cap : Nat} {raw : List Nat} (hg : (NG bl pg S B t).mays) (hr : Seq K F A m 1 (nats .u8 raw)) (h8 : Small 256 raw) (hm : m = rawN S B t) (hmc : m ≤ cap) :
    Does Tryz.prog 70 #[(NG bl pg S B t).v, .slice A m cap] K F
      (fun v H' => ∃ A' cap', v = .tuple #[.slice A' (readF t S B raw).d.length cap', .int .i64 ((readF t S B raw).n : Nat), .int .i64 ((readF t S B raw).err : Nat)] ∧
        H' = SlA (.slice A' (readF t S B raw).d.length cap') 5 1 (readF t S B raw).d.length (nats .u8 (readF t S B raw).d) :: F) := by
  have hl : raw.length = m := by simpa [nats] using hr.len
  have hN := NGood.of hg
  obtain ⟨hs, hb, ht⟩ := hN
  obtain ⟨R, hR⟩ : ∃ R, R = readF t S B raw := ⟨_, rfl⟩
  rw [← hR]
  unfold readF at hR
  refine Does.enter Tryz.func70 rfl Tryz.ntmps70 rfl ?_
  simp only [env0, Nat.reduceAdd]
  refine WC.sr ?_
  refine WL.box (cs := [_, _, _, _, _]) (OV.p rfl) rfl rfl (fun b2 => ?_)
  refine WL.sg rfl rfl ?_
  refine WL.sg rfl rfl ?_
  refine WL.sg rfl rfl ?_
  refine WL.nil ?_
  refine WC.sr ?_
  refine WL.val (V.loadA (vs := [_, _, _, _, _]) ⟨Tryz.isAgg23, Tryz.sizeOf23⟩ (OV.p rfl) rfl (fun _ => by repeat (first | exact Rds.gets ⟨rfl, rfl, rfl, rfl, rfl, trivial⟩ | apply Rds.up))) rfl ?_
  refine WL.mv rfl rfl ?_
  refine WL.call (vs := [_, _]) Tryz.call87 ⟨OV.p rfl, OV.p rfl, trivial⟩ (ecc_Unpack hg hr.up h8 hm hmc) rfl ?_
  rintro _ _ (⟨hst, rfl, rfl⟩ | ⟨hst, A1, c1, la, rs, rfl, hrs, hin, rfl⟩)
  · rw [if_pos hst] at hR
    obtain ⟨st, hstv⟩ : ∃ st, st = stateF t S (B + moreLen t) raw := ⟨_, rfl⟩
    rw [← hstv] at hst hR ⊢
    refine WL.val (V.move (OV.p rfl)) rfl ?_
    refine WL.val (V.extract (OV.p rfl) rfl) rfl ?_
    refine WL.val (V.extract (OV.p rfl) rfl) rfl ?_
    refine WL.val (V.assign (OV.p rfl)) rfl ?_
    refine WL.val (V.assign (OV.p rfl)) rfl ?_
    refine WL.nil ?_
    refine WC.seq ?_
    refine WC.seq ?_
    refine WC.region ?_
    refine WL.val (V.move (OV.p rfl)) rfl ?_
    refine WL.val (V.neq (OV.p rfl) (OV.p rfl)) rfl ?_
    refine WL.nil ?_
    refine WC.condT' rfl (by simp; omega) ?_
    refine WC.seq ?_
    refine WC.region ?_
    refine WL.val (V.move (OV.p rfl)) rfl ?_
    refine WL.val (V.assign (OV.p rfl)) rfl ?_
    refine WL.val (V.assign (OV.p rfl)) rfl ?_
    refine WL.val (V.assign (OV.p rfl)) rfl ?_
    refine WL.nil ?_
    refine WC.ret ?_
    exact BodyQ.ret (H' := SlA (.slice none 0 0) 5 1 0 [] :: F) (Res.tmp3 rfl rfl rfl rfl) (fun w h => Sat.slNil (h.drop 1) _ _) ⟨none, 0, by rw [hR]; rfl, by rw [hR]; rfl⟩
  rw [if_neg (fun h => h hst)] at hR
  refine WL.ex (slA_rows (by omega)) (fun ⟨g1, r1⟩ e1 => ?_)
  dsimp only at e1 ⊢
  subst e1
  refine WL.mv rfl rfl ?_
  refine WL.xt rfl rfl rfl ?_
  refine WL.xt rfl rfl rfl ?_
  refine WL.sg rfl rfl ?_
  refine WL.sg rfl rfl ?_
  refine WL.nil ?_
  refine WC.seq ?_
  refine WC.sr ?_
  refine WL.mv rfl rfl ?_
  refine WL.val (V.neq (OV.p rfl) (OV.p rfl)) rfl ?_
  refine WL.nil ?_
  refine WC.condF' rfl (by first | rfl | (simp; done) | (simp; omega)) ?_
  refine WC.skip ?_
  refine WC.sr ?_
  refine WL.sg rfl rfl ?_
  refine WL.nil ?_
  refine WC.sr ?_
  refine WL.sg rfl rfl ?_
  refine WL.nil ?_
  refine WC.seq ?_
  refine WC.seq ?_
  obtain ⟨os, hos⟩ : ∃ os, os = (List.range S).map (uSec t B (B + moreLen t) raw) := ⟨_, rfl⟩
  rw [← hos] at hrs hR
  have hol : os.length = S := by rw [hos]; simp
  have hrl : rs.length = S := by rw [← hol, ← hrs, List.length_map]
  have hob : ∀ o ∈ os, (decD o).length ≤ 512 ∧ decN o ≤ 5000 := fun o ho => by
    rw [hos] at ho
    obtain ⟨j, hj, rfl⟩ := List.mem_map.1 ho
    have := decTo_n t (secD B (B + moreLen t) raw j) (secM B (B + moreLen t) raw j) (by unfold secD; rw [List.length_take]; omega) ht.2
    have h2 : (secD B (B + moreLen t) raw j).length ≤ 512 := by unfold secD; rw [List.length_take]; omega
    exact ⟨Nat.le_trans this.1 h2, this.2⟩
  refine WC.region ?_
  refine WL.mv rfl rfl ?_
  refine WL.val (V.len (t := 121) Tryz.runUnderlying121 (OV.p rfl)) rfl ?_
  refine WL.mv rfl rfl ?_
  refine WL.nil ?_
  refine WC.block ?_
  refine WC.loop (σ := Nat × Option Addr × Nat × List Nat × Nat) (fun x => [(22, .slice (some ⟨g1, 0, none⟩) S c1), (23, .int .i64 (S : Int)), (24, .int .i64 (x.1 : Int)), (9, .slice x.2.1 x.2.2.2.1.length x.2.2.1), (10, .int .i64 (x.2.2.2.2 : Int))]) (fun x => SlA (.slice x.2.1 x.2.2.2.1.length x.2.2.1) 5 1 x.2.2.2.1.length (nats .u8 x.2.2.2.1) :: Cells g1 151 (recCells rs ++ r1) :: AllA la :: Cells b2 23 [.int .i64 bl, .int .i64 pg, .int .i64 (S : Int), .int .i64 (B : Int), .int .i64 (t : Int)] :: F) (fun x => x.1 ≤ S ∧ x.2.2.2.1.length ≤ x.1 * 512 ∧ x.2.2.2.2 ≤ 5000 ∧ readTo (os.drop x.1) x.2.2.2.1 x.2.2.2.2 = readTo os [] 0) (fun x => S - x.1) (0, none, 0, [], 0) ⟨Nat.zero_le _, Nat.zero_le _, Nat.zero_le _, rfl⟩ (.cons rfl (.cons rfl (.cons rfl (.cons rfl (.cons rfl (.nil _)))))) (fun w h => Sat.slNil h 5 1) ?_
  rintro ⟨k, Ao, co, d, mx⟩ ⟨hk, hdl, hmx, hto⟩
  dsimp only at hk hdl hmx hto ⊢
  refine WC.sr ?_
  refine WL.val (V.lss (OV.p rfl) (OV.p rfl)) rfl ?_
  refine WL.nil ?_
  refine WC.seq ?_
  refine WC.cond rfl (fun hc1 => ?_) (fun hc1 => ?_)
  ·simp only [decide_eq_true_eq, decide_eq_false_iff_not] at hc1
   refine WC.skip ?_
   refine WC.seq ?_
   refine WC.block ?_
   refine WC.seq ?_
   have hkS : k < S := by omega
   obtain ⟨r, hr1⟩ : ∃ r, rs[k]? = some r := ⟨_, List.getElem?_eq_getElem (by omega)⟩
   have hro : os[k]? = some r.o := by rw [← hrs, List.getElem?_map, hr1]; rfl
   have hdr : os.drop k = r.o :: os.drop (k + 1) := by
     rw [List.drop_eq_getElem_cons (by omega)]
     congr 1
     rw [List.getElem?_eq_getElem (by omega)] at hro
     exact Option.some.inj hro
   have hrin := hin r (List.mem_of_getElem? hr1)
   have hrb := hob r.o (List.mem_of_getElem? hro)
   rw [hdr] at hto
   have hsec : ∀ {X : Assn} {H : List Assn}, Rds K (X :: Cells g1 151 (recCells rs ++ r1) :: H) g1 (0 + (k : Int).toNat * 3) r.cells := fun {X H} i v hi => by
     refine Rd.up (Rd.here ?_)
     have h1 := recCells_get rs k r hr1 i v hi
     rw [show 0 + (k : Int).toNat * 3 = k * 3 by omega, List.getElem?_append_left (List.getElem?_eq_some_iff.1 h1).1]
     exact h1
   refine WC.region ?_
   refine WL.val (V.idxB st121 (OV.p rfl) (OV.p rfl) (fun hc => by first | omega | (simp at hc; omega))) rfl ?_
   refine WL.val (V.loadA (vs := r.cells) ⟨Tryz.isAgg151, Tryz.sizeOf151⟩ (OV.p rfl) rfl (fun _ => hsec)) rfl ?_
   refine WL.alloc (cs := [(.slice none 0 0), (.int .i64 0), (.int .i64 0)]) Tryz.zeroValue151 rfl rfl (fun b12 => ?_)
   refine WL.store (cs := [_, _, _]) Tryz.sizeOf151 (OV.p rfl) (OV.p rfl) rfl rfl rfl (by repeat (first | exact Upd.here (cs' := [_, _, _]) rfl rfl | apply Upd.up)) ?_
   refine WL.nil ?_
   refine WC.seq ?_
   refine WC.sr ?_
   refine WL.val (V.fieldAddr fo151_2 (OV.p rfl)) rfl ?_
   refine WL.ld Tryz.isAgg28 rfl rfl ?_
   refine WL.val (V.neq (OV.p rfl) (OV.p rfl)) rfl ?_
   refine WL.nil ?_
   refine WC.cond rfl (fun hc2 => ?_) (fun hc2 => ?_)
   ·simp only [decide_eq_true_eq, decide_eq_false_iff_not, Bool.not_eq_true', Bool.not_eq_false'] at hc2
    have h2 := hc2
    refine WC.seq ?_
    refine WC.regionQ (by kernel_rfl) (by kernel_rfl) ?_
    refine WQ.val (V.fieldAddr fo151_2 (OV.p rfl)) rfl ?_
    refine WQ.val (V.load Tryz.isAgg28 (OV.p rfl) (fun _ => by repeat (first | exact Rd.here rfl | apply Rd.up))) rfl ?_
    refine WQ.val (V.assign (OV.p rfl)) rfl ?_
    refine WQ.val (V.assign (OV.p rfl)) rfl ?_
    refine WQ.val (V.assign (OV.p rfl)) rfl ?_
    refine WQ.nil ?_
    refine WC.ret ?_
    have hno : r.o = none := by
      cases ho : r.o with
      | none => rfl
      | some q => rw [ho] at h2; exact absurd rfl h2
    have hR2 : R = ⟨50, [], 0⟩ := by rw [hR, ← hto, hno]; rfl
    exact BodyQ.ret (H' := SlA (.slice none 0 0) 5 1 0 [] :: F) (Res.tmp3 rfl rfl rfl (look_eq rfl (by rw [hno]))) (fun w h => Sat.slNil (h.drop 5) _ _) ⟨none, 0, by rw [hR2]; rfl, by rw [hR2]; rfl⟩
   ·simp only [decide_eq_true_eq, decide_eq_false_iff_not, Bool.not_eq_true', Bool.not_eq_false'] at hc2
    have h2 := hc2
    refine WC.skip ?_
    refine WC.sr ?_
    refine WL.mv rfl rfl ?_
    refine WL.val (V.fieldAddr fo151_0 (OV.p rfl)) rfl ?_
    refine WL.ld Tryz.isAgg38 rfl rfl ?_
    obtain ⟨q, hq⟩ : ∃ q, r.o = some q := by
      cases ho : r.o with
      | none => rw [ho] at h2; exact absurd h2 (by decide)
      | some q => exact ⟨q, rfl⟩
    refine WL.sub (Sub.refl _) (fun w h => h.p1) ?_
    refine WL.append (m := d.length) (q := (decD r.o).length) (news := nats .u8 (decD r.o)) Tryz.underlying38 el5 (OV.p rfl) (OV.p rfl) (by repeat (first | exact SeqIn.seq hrin | apply Seq.up)) (nats_one _ _) (by omega) rfl rfl (fun A36 c36 hn36 hc36 => ?_)
    refine WL.sg rfl rfl ?_
    refine WL.nil ?_
    refine WC.region ?_
    refine WL.mv rfl rfl ?_
    refine WL.val (V.fieldAddr fo151_1 (OV.p rfl)) rfl ?_
    refine WL.ld Tryz.isAgg3 rfl rfl ?_
    refine WL.val (V.max (OV.p rfl) (OV.p rfl)) rfl ?_
    refine WL.sg rfl rfl ?_
    refine WL.nil ?_
    refine WC.region ?_
    refine WL.ad rfl rfl rfl ?_
    refine WL.mv rfl rfl ?_
    refine WL.nil ?_
    refine ⟨rfl, ?_⟩
    obtain ⟨⟨p1, p2⟩, nq⟩ := q
    rw [hq] at hrb hto
    have hdq : decD r.o = p1 := by rw [hq]; rfl
    have hnq : decN r.o = nq := by rw [hq]; rfl
    refine ⟨(k + 1, A36, c36, d ++ p1, max mx nq), ⟨hkS, by show (d ++ p1).length ≤ (k + 1) * 512; have := hrb.1; rw [List.length_append]; simp only [decD] at this; omega, by show max mx nq ≤ 5000; have := hrb.2; simp only [decN] at this; omega, by dsimp only; rw [← hto]; rfl⟩, (by show S - (k + 1) < S - k; omega), .cons rfl (.cons rfl (.cons (look_eq rfl (by simp)) (.cons (look_eq rfl (by dsimp only; rw [List.length_append, hdq])) (.cons (look_eq rfl (by dsimp only; rw [hnq]; congr 1; omega)) (.nil _))))), fun w h => ?_⟩
    have h' := h.sel 5 [0, 2, 3, 4] rfl
    rw [hdq, ← nats_append, ← List.length_append] at h'
    exact h'
  ·simp only [decide_eq_true_eq, decide_eq_false_iff_not] at hc1
   refine WC.exit ?_
   refine WC.sr ?_
   refine WL.mv rfl rfl ?_
   refine WL.mv rfl rfl ?_
   refine WL.sg rfl rfl ?_
   refine WL.sg rfl rfl ?_
   refine WL.sg rfl rfl ?_
   refine WL.nil ?_
   refine WC.ret ?_
   obtain rfl : k = S := by omega
   have hR2 : R = ⟨0, d, mx⟩ := by rw [hR, ← hto, List.drop_of_length_le (by omega)]; rfl
   exact BodyQ.ret (H' := SlA (.slice Ao d.length co) 5 1 d.length (nats .u8 d) :: F) (Res.tmp3 rfl rfl rfl rfl) (fun w h => h.sel 4 [0] rfl) ⟨Ao, co, by rw [hR2]; rfl, by rw [hR2]⟩
end
end Go.Proofs.YtohkefolnmcjnaaGreat
namespace Go.Proofs.YtohkefolnmcjnaaGreat
open Go.Sl Go.RowKit
set_option linter.unusedVariables false
set_option linter.unusedSimpArgs false
set_option maxRecDepth 20000
theorem pkTo_split {t B : Nat} {d : List Nat} : ∀ (S j : Nat), j < S → ∃ rest, pkTo t B d S = pkTo t B d j ++ ((sect B d j ++ encB t (sect B d j)) ++ rest)
  | 0, j, h => absurd h (Nat.not_lt_zero _)
  | S + 1, j, h => by
    rw [pkTo]
    rcases Nat.lt_or_ge j S with h1 | h1
    · obtain ⟨r, hr⟩ := pkTo_split S j h1
      exact ⟨r ++ (sect B d S ++ encB t (sect B d S)), by rw [hr]; simp only [List.append_assoc]⟩
    · have : j = S := by omega
      subst this
      exact ⟨[], by simp only [List.append_assoc, List.append_nil]⟩
section
variable {t B S : Nat} {d : List Nat}
theorem packF_split (ht : 1 ≤ t ∧ t ≤ 8) (h8 : Small 256 d) (hl : d.length = S * B) {j : Nat} (hj : j < S) :
    secD B (B + moreLen t) (packF t S B d) j = sect B d j ∧ secM B (B + moreLen t) (packF t S B d) j = encB t (sect B d j) := by
  obtain ⟨r, hr⟩ := pkTo_split (t := t) (B := B) (d := d) S j hj
  have h1 := pkTo_length ht h8 hl j (by omega)
  have h2 := sect_length hl hj
  have h3 := encB_length ht (sect_small h8 j (B := B))
  have hdrop : (packF t S B d).drop (j * (B + moreLen t)) = sect B d j ++ (encB t (sect B d j) ++ (r ++ [0])) := by
    unfold packF
    rw [hr, List.append_assoc, List.drop_left' h1]
    simp only [List.append_assoc]
  unfold secD secM
  rw [hdrop]
  refine ⟨List.take_left' h2, ?_⟩
  rw [List.drop_left' h2, Nat.add_sub_cancel_left]
  exact List.take_left' h3
theorem packF_state (ht : 1 ≤ t ∧ t ≤ 8) (h8 : Small 256 d) (hl : d.length = S * B) : stateF t S (B + moreLen t) (packF t S B d) = 0 := by
  have h1 := pkTo_length ht h8 hl S (Nat.le_refl _)
  unfold stateF packF
  rw [if_pos]
  rw [List.getD, List.getElem?_append_right (by omega), h1, Nat.sub_self]; rfl
theorem readTo_secs (ht : 1 ≤ t ∧ t ≤ 8) (h8 : Small 256 d) : ∀ (k j : Nat) (acc : List Nat), readTo ((List.range' j k).map fun i => some ((sect B d i, encB t (sect B d i)), 0)) acc 0 = ⟨0, acc ++ (d.drop (j * B)).take (k * B), 0⟩
  | 0, j, acc => by simp [readTo]
  | k + 1, j, acc => by
    rw [List.range'_succ, List.map_cons, readTo, Nat.max_self, readTo_secs ht h8 k (j + 1) _]
    congr 1
    rw [List.append_assoc]
    congr 1
    unfold sect
    rw [show (k + 1) * B = B + k * B by rw [Nat.succ_mul, Nat.add_comm], List.take_add, List.drop_drop, Nat.succ_mul]
theorem read_pack (ht : 1 ≤ t ∧ t ≤ 8) (h8 : Small 256 d) (hl : d.length = S * B) : readF t S B (packF t S B d) = ⟨0, d, 0⟩ := by
  unfold readF
  rw [if_neg (fun h => h (packF_state ht h8 hl))]
  have h1 : (List.range S).map (uSec t B (B + moreLen t) (packF t S B d)) = (List.range' 0 S).map fun i => some ((sect B d i, encB t (sect B d i)), 0) := by
    rw [← List.range_eq_range']
    apply List.map_congr_left
    intro j hj
    have hj := List.mem_range.1 hj
    unfold uSec
    obtain ⟨e1, e2⟩ := packF_split ht h8 hl hj
    rw [e1, e2, dec_enc ht (sect_small h8 j)]
  rw [h1, readTo_secs ht h8 S 0 []]
  rw [Nat.zero_mul, List.drop_zero, List.nil_append, ← hl, List.take_length]
end
end Go.Proofs.YtohkefolnmcjnaaGreat
