/- ecc: state, Unpack. -/
import Derived.Test.YtohkefolnmcjnaaD1
namespace Go.Proofs.Ytohkefolnmcjnaa
open Go.Sl Go.RowKit
set_option linter.unusedVariables false
set_option linter.unusedSimpArgs false
set_option maxRecDepth 20000

def decD : Option (LL × Nat) → List Nat
  | none => []
  | some (p, _) => p.1
def decN : Option (LL × Nat) → Nat
  | none => 0
  | some (_, n) => n
def decE : Option (LL × Nat) → Nat
  | none => 50
  | some _ => 0
theorem _root_.Go.Sl.Seq.pre {K : World} {H : List Assn} {b T m : Nat} {cs vs : List Value} (hl : vs.length = m) : Seq K (Cells b T (vs ++ cs) :: H) (some ⟨b, 0, none⟩) m 1 vs := Seq.here (by rw [hl, Nat.mul_one]) (by rw [List.drop_zero]; exact List.prefix_append _ _)
theorem _root_.Go.Sl.Does.post_ {P : Program} {K : World} {F : List Assn} {f : FuncId} {args : Array Value} {post post' : Value → List Assn → Prop} (h : Does P f args K F post) (hp : ∀ v H', post v H' → ∃ H'', (∀ w, Sat K w H' → Sat K w H'') ∧ post' v H'') : Does P f args K F post' := fun w hw =>
  (h w hw).mono fun e w' ⟨v, H', h1, h2, h3⟩ => by
    obtain ⟨H'', h4, h5⟩ := hp v H' h3
    exact ⟨v, H'', h1, h4 w' h2, h5⟩
section
variable {K : World} {F : List Assn}
/-- Decode, its row in one entry. -/
theorem bch_Decode' {t : Nat} {A B : Option Addr} {m q cap cap' : Nat} {d mo : List Nat} (ht : 1 ≤ t ∧ t ≤ 8) (hd : Seq K F A m 1 (nats .u8 d)) (hm : Seq K F B q 1 (nats .u8 mo)) (hd8 : Small 256 d) (hm8 : Small 256 mo) (hdl : 1 ≤ m ∧ m ≤ 512) (hml : q = moreLen t) :
    Does Try.prog 53 #[.int .i64 (t : Int), .slice A m cap, .slice B q cap'] K F
      (fun v H' => ∃ A' c mA mm mc l, v = .tuple #[.slice A' (decD (decF t d mo)).length c, .slice mA mm mc, .int .i64 (decN (decF t d mo) : Nat), .int .i64 (decE (decF t d mo) : Nat)] ∧
        SeqIn l A' (decD (decF t d mo)).length 1 (nats .u8 (decD (decF t d mo))) ∧ H' = AllA l :: F) := by
  refine Does.post_ (bch_Decode ht hd hm hd8 hm8 hdl hml) (fun v H' h => ?_)
  cases ho : decF t d mo with
  | none =>
    rw [ho] at h
    obtain ⟨rfl, rfl⟩ := h
    exact ⟨AllA [] :: H', fun w hw => Sat.all hw, none, 0, none, 0, 0, [], rfl, SeqIn.nil, rfl⟩
  | some r =>
    obtain ⟨p, n⟩ := r
    rw [ho] at h
    obtain ⟨g1, c1, r1, g2, c2, r2, h1, h2, rfl, rfl⟩ := h
    exact ⟨AllA [Cells g1 5 (nats .u8 p.1 ++ r1)] :: F, fun w hw => Sat.all (Sat.sel 2 [0] rfl hw), _, _, _, _, _, _, rfl, SeqIn.here (fun K => Seq.pre (nats_length _ _)), rfl⟩
end
def tornS (n t : Nat) (raw : List Nat) (j : Nat) : Bool := decide (t < 8 * n - ones (sect n raw j))
def tornTo (n t : Nat) (raw : List Nat) : Nat → Bool
  | 0 => false
  | j + 1 => tornTo n t raw j || tornS n t raw j
theorem tornTo_mono {n t : Nat} {raw : List Nat} {j : Nat} (h : tornS n t raw j = true) : ∀ k, j < k → tornTo n t raw k = true
  | 0, hk => absurd hk (Nat.not_lt_zero _)
  | k + 1, hk => by
    rw [tornTo]
    rcases Nat.lt_or_ge j k with h1 | h1
    · rw [tornTo_mono h k h1]; rfl
    · have : j = k := by omega
      subst this; rw [h, Bool.or_true]
def stateF (t S n : Nat) (raw : List Nat) : Nat :=
  if raw.getD (S * n) 0 = 0 then 0 else if raw.getD (S * n) 0 ≠ 255 then 60 else if tornTo n t raw S = true then 60 else 61
section
variable {K : World} {F : List Assn}
theorem ecc_state {bl pg : Int} {S B t : Nat} {A : Option Addr} {m cap : Nat} {raw : List Nat} (hg : (NG bl pg S B t).mays) (hr : Seq K F A m 1 (nats .u8 raw)) (h8 : Small 256 raw) (hm : m = rawN S B t) (hmc : m ≤ cap) :
    Tells Try.prog 52 #[(NG bl pg S B t).v, .slice A m cap] K F (.int .i64 (stateF t S (B + moreLen t) raw : Nat)) := by
  have hl : raw.length = m := by simpa [nats] using hr.len
  have hN := NGood.of hg
  obtain ⟨hs, hb, ht⟩ := hN
  have hmore : 2 ≤ moreLen t ∧ moreLen t ≤ 13 := by unfold moreLen; omega
  obtain ⟨n, hn⟩ : ∃ n, n = B + moreLen t := ⟨_, rfl⟩
  have hm2 : m = S * n + 1 := by rw [hm, hn]; rfl
  have hSn : S * n ≤ 8 * 525 := Nat.mul_le_mul hs.2 (by omega)
  rw [← hn]
  obtain ⟨z, hz⟩ : ∃ z, z = raw.getD (S * n) 0 := ⟨_, rfl⟩
  have hst : stateF t S n raw = if z = 0 then 0 else if z ≠ 255 then 60 else if tornTo n t raw S = true then 60 else 61 := by unfold stateF; rw [hz]
  rw [hst]
  have hz8 : z < 256 := by rw [hz]; exact h8.at_ (by decide) _
  have hlast : ∀ {X : Assn}, Rd K (X :: F) (A.map (·.add (((m : Int) - 1).toNat * 1))) (.int .u8 (z : Nat)) := fun {X} => by
    rw [show ((m : Int) - 1).toNat = S * n by omega, hz]; exact (hr.nat_rd (by omega)).up
  refine Does.enter Try.func52 rfl Try.ntmps52 rfl ?_
  simp only [env0, Nat.reduceAdd]
  refine WC.seq ?_
  refine WC.region ?_
  refine WL.box (cs := [_, _, _, _, _]) (OV.p rfl) rfl rfl (fun b2 => ?_)
  refine WL.val (V.assign (OV.p rfl)) rfl ?_
  refine WL.nil ?_
  refine WC.seq ?_
  refine WC.seq ?_
  refine WC.region ?_
  refine WL.val (V.move (OV.p rfl)) rfl ?_
  refine WL.val (V.move (OV.p rfl)) rfl ?_
  refine WL.val (V.len (t := 24) Try.runUnderlying24 (OV.p rfl)) rfl ?_
  refine WL.val (V.subI (OV.p rfl) (OV.p rfl) (fun hc => by first | omega | (simp at hc; omega))) rfl ?_
  refine WL.val (V.idxS st24 (OV.p rfl) (OV.p rfl) (fun hc => by omega) (fun hc => hlast)) rfl ?_
  refine WL.val (V.load Try.isAgg5 (OV.p rfl) (fun hc => hlast)) rfl ?_
  refine WL.val (V.assign (OV.p rfl)) rfl ?_
  refine WL.nil ?_
  refine WC.block ?_
  refine WC.seq ?_
  refine WC.region ?_
  refine WL.val (V.move (OV.p rfl)) rfl ?_
  refine WL.val (V.eql (OV.p rfl) (OV.p rfl)) rfl ?_
  refine WL.val (V.assign (OV.p rfl)) rfl ?_
  refine WL.nil ?_
  refine WC.cond rfl (fun hc0 => ?_) (fun hc0 => ?_)
  · simp only [decide_eq_true_eq, decide_eq_false_iff_not] at hc0
    rw [if_pos (by omega)]
    refine WC.seq ?_
    refine WC.region ?_
    refine WL.val (V.assign (OV.p rfl)) rfl ?_
    refine WL.nil ?_
    refine WC.ret ?_
    exact BodyQ.ret (H' := F) (Res.tmp rfl rfl) (fun w h => h.drop 1) ⟨rfl, rfl⟩
  · simp only [decide_eq_true_eq, decide_eq_false_iff_not] at hc0
    rw [if_neg (by omega)]
    refine WC.seq ?_
    refine WC.region ?_
    refine WL.val (V.move (OV.p rfl)) rfl ?_
    refine WL.val (V.neq (OV.p rfl) (OV.p rfl)) rfl ?_
    refine WL.val (V.assign (OV.p rfl)) rfl ?_
    refine WL.nil ?_
    refine WC.cond rfl (fun hc1 => ?_) (fun hc1 => ?_)
    · simp only [decide_eq_true_eq, decide_eq_false_iff_not, Bool.not_eq_true', Bool.not_eq_false'] at hc1
      rw [if_pos (by omega)]
      refine WC.seq ?_
      refine WC.region ?_
      refine WL.val (V.assign (OV.p rfl)) rfl ?_
      refine WL.nil ?_
      refine WC.ret ?_
      exact BodyQ.ret (H' := F) (Res.tmp rfl rfl) (fun w h => h.drop 1) ⟨rfl, rfl⟩
    · simp only [decide_eq_true_eq, decide_eq_false_iff_not, Bool.not_eq_true', Bool.not_eq_false'] at hc1
      rw [if_neg (by omega)]
      refine WC.skip ?_
      refine WC.seq ?_
      refine WC.region ?_
      refine WL.val (V.loadA (vs := [_, _, _, _, _]) ⟨Try.isAgg23, Try.sizeOf23⟩ (OV.p rfl) rfl (fun _ => by repeat (first | exact Rds.gets ⟨rfl, rfl, rfl, rfl, rfl, trivial⟩ | apply Rds.up))) rfl ?_
      refine WL.call (vs := [_]) Try.call42 ⟨OV.p rfl, trivial⟩ (Tells.eq (v' := .int .i64 (n : Int)) (ecc_whole (NG bl pg S B t) hg _ _) (by rw [NG.whole, hn])) rfl ?_
      rintro _ H0 ⟨rfl, h0⟩
      subst H0
      refine WL.val (V.assign (OV.p rfl)) rfl ?_
      refine WL.nil ?_
      refine WC.seq ?_
      refine WC.seq ?_
      refine WC.region ?_
      refine WL.val (V.assign (OV.p rfl)) rfl ?_
      refine WL.nil ?_
      refine WC.block ?_
      refine WC.loop (σ := Nat) (fun j => [(1, .slice A m cap), (2, ptr b2 0), (6, .int .i64 (n : Int)), (7, .int .i64 ((j * n : Nat) : Int))]) (fun _ => Cells b2 23 [.int .i64 bl, .int .i64 pg, .int .i64 (S : Int), .int .i64 (B : Int), .int .i64 (t : Int)] :: F) (fun j => j ≤ S ∧ tornTo n t raw j = false) (fun j => S - j) 0 ⟨Nat.zero_le _, rfl⟩ (.cons rfl (.cons rfl (.cons rfl (.cons (look_eq rfl (by simp)) (.nil _))))) (fun w h => h) ?_
      rintro j ⟨hj, hjt⟩
      have hjn : j * n ≤ S * n := Nat.mul_le_mul_right _ hj
      refine WC.seq ?_
      refine WC.seq ?_
      refine WC.region ?_
      refine WL.val (V.move (OV.p rfl)) rfl ?_
      refine WL.val (V.move (OV.p rfl)) rfl ?_
      refine WL.val (V.addI (OV.p rfl) (OV.p rfl) (fun _ => by omega)) rfl ?_
      refine WL.val (V.move (OV.p rfl)) rfl ?_
      refine WL.val (V.len (t := 24) Try.runUnderlying24 (OV.p rfl)) rfl ?_
      refine WL.val (V.lss (OV.p rfl) (OV.p rfl)) rfl ?_
      refine WL.nil ?_
      refine WC.cond rfl (fun hc2 => ?_) (fun hc2 => ?_)
      · simp only [decide_eq_true_eq, decide_eq_false_iff_not] at hc2
        have hjS : j < S := by
          rcases Nat.lt_or_ge j S with h | h
          · exact h
          · exfalso
            have : j = S := by omega
            rw [this] at hc2
            omega
        have hj1 : (j + 1) * n ≤ S * n := Nat.mul_le_mul_right _ hjS
        rw [Nat.succ_mul] at hj1
        have hsq : Seq K F (A.map (·.add (j * n * 1))) n 1 (nats .u8 (sect n raw j)) := by
          have h1 := Seq.dropS hr (l := j * n) (u := cap) (by omega) hmc
          rw [if_neg (by omega)] at h1
          have h2 := Seq.take h1 (show n ≤ m - j * n by omega)
          rw [nats_drop, nats_take] at h2; exact h2
        have hon := ones_le (sect n raw j)
        have hsl : (sect n raw j).length = n := by unfold sect; rw [List.length_take, List.length_drop]; omega
        rw [hsl] at hon
        refine WC.skip ?_
        refine WC.seq ?_
        refine WC.block ?_
        refine WC.seq ?_
        refine WC.regionQ (by kernel_rfl) (by kernel_rfl) ?_
        refine WQ.val (V.move (OV.p rfl)) rfl ?_
        refine WQ.val (V.mulI (OV.p rfl) (OV.p rfl) (fun hc => by first | omega | (simp at hc; omega))) rfl ?_
        refine WQ.val (V.move (OV.p rfl)) rfl ?_
        refine WQ.val (V.move (OV.p rfl)) rfl ?_
        refine WQ.val (V.move (OV.p rfl)) rfl ?_
        refine WQ.val (V.move (OV.p rfl)) rfl ?_
        refine WQ.val (V.addI (OV.p rfl) (OV.p rfl) (fun _ => by omega)) rfl ?_
        refine WQ.val (V.val_eq (v' := .slice (A.map (·.add (j * n * 1))) n (cap - j * n)) (V.slice (l := j * n) (h := j * n + n) (u := cap) st24 (OV.p rfl) (OO.some (OV.p rfl) (fun _ => rfl)) (OO.some (OV.p rfl) (fun _ => by omega)) OO.none (by simp) (by omega) (by omega) (Nat.le_refl _)) (fun _ => by rw [if_neg (by omega), Nat.add_sub_cancel_left])) rfl ?_
        refine WQ.call (vs := [_]) Try.call61 ⟨OV.p rfl, trivial⟩ (bits_Ones hsq.up (sect_small h8 j) (by omega)) rfl ?_
        refine WQ.val (V.subI (OV.p rfl) (OV.p rfl) (fun hc => by first | omega | (simp at hc; omega))) rfl ?_
        refine WQ.val (V.fieldAddr fo23_4 (OV.p rfl)) rfl ?_
        refine WQ.val (V.load Try.isAgg3 (OV.p rfl) (fun _ => by repeat (first | exact Rd.here rfl | apply Rd.up))) rfl ?_
        refine WQ.val (V.gtr (OV.p rfl) (OV.p rfl)) rfl ?_
        refine WQ.nil ?_
        refine WC.cond rfl (fun hc3 => ?_) (fun hc3 => ?_)
        · simp only [decide_eq_true_eq, decide_eq_false_iff_not] at hc3
          have hto : tornS n t raw j = true := decide_eq_true (by omega)
          refine WC.seq ?_
          refine WC.region ?_
          refine WL.val (V.assign (OV.p rfl)) rfl ?_
          refine WL.nil ?_
          refine WC.ret ?_
          rw [if_pos (tornTo_mono hto S hjS)]
          exact BodyQ.ret (H' := F) (Res.tmp rfl rfl) (fun w h => h.drop 1) ⟨rfl, rfl⟩
        · simp only [decide_eq_true_eq, decide_eq_false_iff_not] at hc3
          have hto : tornS n t raw j = false := decide_eq_false (by omega)
          refine WC.skip ?_
          refine WC.region ?_
          refine WL.val (V.move (OV.p rfl)) rfl ?_
          refine WL.val (V.move (OV.p rfl)) rfl ?_
          refine WL.val (V.val_eq (v' := .int .i64 (((j + 1) * n : Nat) : Int)) (V.addI (OV.p rfl) (OV.p rfl) (fun _ => by omega)) (fun _ => by rw [Nat.succ_mul]; simp)) rfl ?_
          refine WL.val (V.assign (OV.p rfl)) rfl ?_
          refine WL.nil ?_
          refine ⟨rfl, ?_⟩
          exact ⟨j + 1, ⟨hjS, by rw [tornTo, hjt, hto]; rfl⟩, (by show S - (j + 1) < S - j; omega), .cons rfl (.cons rfl (.cons rfl (.cons rfl (.nil _)))), fun w h => h⟩
      · simp only [decide_eq_true_eq, decide_eq_false_iff_not] at hc2
        refine WC.exit ?_
        refine WC.seq ?_
        refine WC.region ?_
        refine WL.val (V.assign (OV.p rfl)) rfl ?_
        refine WL.nil ?_
        refine WC.ret ?_
        obtain rfl : j = S := by
          rcases Nat.lt_or_ge j S with h | h
          · exfalso
            have hj1 : (j + 1) * n ≤ S * n := Nat.mul_le_mul_right _ h
            rw [Nat.succ_mul] at hj1
            omega
          · omega
        rw [hjt]
        exact BodyQ.ret (H' := F) (Res.tmp rfl rfl) (fun w h => h.drop 1) ⟨rfl, rfl⟩
end
def secD (B n : Nat) (raw : List Nat) (j : Nat) : List Nat := (raw.drop (j * n)).take B
def secM (B n : Nat) (raw : List Nat) (j : Nat) : List Nat := ((raw.drop (j * n)).drop B).take (n - B)
def uSec (t B n : Nat) (raw : List Nat) (j : Nat) : Option (LL × Nat) := decF t (secD B n raw j) (secM B n raw j)
/-- A sector that was read, in memory. -/
structure URec where
  A : Option Addr
  c : Nat
  o : Option (LL × Nat)
abbrev URec.cells (r : URec) : List Value := [.slice r.A (decD r.o).length r.c, .int .i64 (decN r.o : Nat), .int .i64 (decE r.o : Nat)]
def recCells (rs : List URec) : List Value := rs.flatMap URec.cells
def RecsIn (l : List Assn) (rs : List URec) : Prop := ∀ r ∈ rs, SeqIn l r.A (decD r.o).length 1 (nats .u8 (decD r.o))
theorem recCells_append (rs ss : List URec) : recCells (rs ++ ss) = recCells rs ++ recCells ss := List.flatMap_append
theorem recCells_length : ∀ rs : List URec, (recCells rs).length = rs.length * 3
  | [] => rfl
  | r :: rs => by
    have := recCells_length rs
    unfold recCells at this ⊢
    rw [List.flatMap_cons, List.length_append, this, List.length_cons]
    simp [URec.cells]; omega
theorem recCells_get : ∀ (rs : List URec) (k : Nat) (r : URec), rs[k]? = some r → ∀ i v, r.cells[i]? = some v → (recCells rs)[k * 3 + i]? = some v
  | [], k, r, h => by simp at h
  | r' :: rs, 0, r, h => fun i v hi => by
    simp only [List.getElem?_cons_zero, Option.some.injEq] at h
    subst h
    unfold recCells
    rw [List.flatMap_cons, Nat.zero_mul, Nat.zero_add, List.getElem?_append_left (List.getElem?_eq_some_iff.1 hi).1]
    exact hi
  | r' :: rs, k + 1, r, h => fun i v hi => by
    have ih := recCells_get rs k r (by simpa using h) i v hi
    unfold recCells at ih ⊢
    rw [List.flatMap_cons, List.getElem?_append_right (by simp [URec.cells]; omega)]
    rw [← ih]
    congr 1
    simp [URec.cells]; omega
section
variable {K : World} {F : List Assn}
theorem ecc_Unpack {bl pg : Int} {S B t : Nat} {A : Option Addr} {m cap : Nat} {raw : List Nat} (hg : (NG bl pg S B t).mays) (hr : Seq K F A m 1 (nats .u8 raw)) (h8 : Small 256 raw) (hm : m = rawN S B t) (hmc : m ≤ cap) :
    Does Try.prog 39 #[(NG bl pg S B t).v, .slice A m cap] K F
      (fun v H' => (stateF t S (B + moreLen t) raw ≠ 0 ∧ v = .tuple #[.slice none 0 0, .int .i64 (stateF t S (B + moreLen t) raw : Nat)] ∧ H' = F) ∨
        (stateF t S (B + moreLen t) raw = 0 ∧ ∃ A' cap' l rs, v = .tuple #[.slice A' S cap', .int .i64 0] ∧ rs.map URec.o = (List.range S).map (uSec t B (B + moreLen t) raw) ∧ RecsIn l rs ∧
          H' = SlA (.slice A' S cap') 82 3 S (recCells rs) :: AllA l :: F)) := by
  have hl : raw.length = m := by simpa [nats] using hr.len
  have hmay : (NG bl pg S B t).may = true := decide_eq_true hg
  have hN := NGood.of hg
  obtain ⟨hs, hb, ht⟩ := hN
  have hmore : 2 ≤ moreLen t ∧ moreLen t ≤ 13 := by unfold moreLen; omega
  have hst := fun (K : World) (F : List Assn) (hr : Seq K F A m 1 (nats .u8 raw)) => ecc_state hg hr h8 hm hmc
  obtain ⟨n, hn⟩ : ∃ n, n = B + moreLen t := ⟨_, rfl⟩
  have hm2 : m = S * n + 1 := by rw [hm, hn]; rfl
  have hSn : S * n ≤ 8 * 525 := Nat.mul_le_mul hs.2 (by omega)
  rw [← hn] at hst ⊢
  obtain ⟨st, hstv⟩ : ∃ st, st = stateF t S n raw := ⟨_, rfl⟩
  rw [← hstv] at hst ⊢
  have hst2 : st < 100 := by rw [hstv]; unfold stateF; repeat (first | split | decide)
  refine Does.enter Try.func39 rfl Try.ntmps39 rfl ?_
  simp only [env0, Nat.reduceAdd]
  refine WC.seq ?_
  refine WC.region ?_
  refine WL.box (cs := [_, _, _, _, _]) (OV.p rfl) rfl rfl (fun b2 => ?_)
  refine WL.val (V.assign (OV.p rfl)) rfl ?_
  refine WL.val (V.assign (OV.p rfl)) rfl ?_
  refine WL.nil ?_
  refine WC.seq ?_
  refine WC.region ?_
  refine WL.val (V.loadA (vs := [_, _, _, _, _]) ⟨Try.isAgg23, Try.sizeOf23⟩ (OV.p rfl) rfl (fun _ => by repeat (first | exact Rds.gets ⟨rfl, rfl, rfl, rfl, rfl, trivial⟩ | apply Rds.up))) rfl ?_
  refine WL.call (vs := [_]) Try.call23 ⟨OV.p rfl, trivial⟩ (Tells.eq (v' := .tuple #[.int .i64 (m : Int), .int .i64 0]) (ecc_Raw (NG bl pg S B t) _ _) (by rw [hmay, NG.raw, hm]; rfl)) rfl ?_
  rintro _ H0 ⟨rfl, h0⟩
  subst H0
  refine WL.val (V.move (OV.p rfl)) rfl ?_
  refine WL.val (V.extract (OV.p rfl) rfl) rfl ?_
  refine WL.val (V.extract (OV.p rfl) rfl) rfl ?_
  refine WL.val (V.assign (OV.p rfl)) rfl ?_
  refine WL.val (V.assign (OV.p rfl)) rfl ?_
  refine WL.nil ?_
  refine WC.seq ?_
  refine WC.seq ?_
  refine WC.region ?_
  refine WL.val (V.move (OV.p rfl)) rfl ?_
  refine WL.val (V.neq (OV.p rfl) (OV.p rfl)) rfl ?_
  refine WL.val (V.move (OV.p rfl)) rfl ?_
  refine WL.valG (oj := _) rfl rfl rfl GC.f (V.move (OV.p rfl)) rfl ?_
  refine WL.valG (oj := _) rfl rfl rfl GC.f (V.len (t := 24) Try.runUnderlying24 (OV.g rfl id)) rfl ?_
  refine WL.valG (oj := _) rfl rfl rfl GC.f (V.move (OV.p rfl)) rfl ?_
  refine WL.valG (oj := _) rfl rfl rfl GC.f (V.neq (OV.g rfl id) (OV.g rfl id)) rfl ?_
  refine WL.val (V.pickOr (OV.p rfl) (OV.g rfl id)) rfl ?_
  refine WL.nil ?_
  refine WC.condF' rfl (by first | rfl | (simp; done) | (simp; omega)) ?_
  refine WC.skip ?_
  refine WC.seq ?_
  refine WC.seq ?_
  refine WC.region ?_
  refine WL.val (V.loadA (vs := [_, _, _, _, _]) ⟨Try.isAgg23, Try.sizeOf23⟩ (OV.p rfl) rfl (fun _ => by repeat (first | exact Rds.gets ⟨rfl, rfl, rfl, rfl, rfl, trivial⟩ | apply Rds.up))) rfl ?_
  refine WL.val (V.move (OV.p rfl)) rfl ?_
  refine WL.call (vs := [_, _]) Try.call52 ⟨OV.p rfl, OV.p rfl, trivial⟩ (hst _ _ hr.up) rfl ?_
  rintro _ H0 ⟨rfl, h0⟩
  subst H0
  refine WL.val (V.assign (OV.p rfl)) rfl ?_
  refine WL.nil ?_
  refine WC.seq ?_
  refine WC.region ?_
  refine WL.val (V.move (OV.p rfl)) rfl ?_
  refine WL.val (V.neq (OV.p rfl) (OV.p rfl)) rfl ?_
  refine WL.nil ?_
  refine WC.cond rfl (fun hc1 => ?_) (fun hc1 => ?_)
  · simp only [decide_eq_true_eq, decide_eq_false_iff_not, Bool.not_eq_true', Bool.not_eq_false'] at hc1
    have h1 := hc1
    refine WC.seq ?_
    refine WC.region ?_
    refine WL.val (V.move (OV.p rfl)) rfl ?_
    refine WL.val (V.assign (OV.p rfl)) rfl ?_
    refine WL.val (V.assign (OV.p rfl)) rfl ?_
    refine WL.nil ?_
    refine WC.ret ?_
    exact BodyQ.ret (H' := F) (Res.tmp2 rfl rfl rfl) (fun w h => h.drop 1) (.inl ⟨by omega, rfl, rfl⟩)
  · simp only [decide_eq_true_eq, decide_eq_false_iff_not, Bool.not_eq_true', Bool.not_eq_false'] at hc1
    have h1 := hc1
    refine WC.skip ?_
    refine WC.seq ?_
    refine WC.region ?_
    refine WL.val (V.assign (OV.p rfl)) rfl ?_
    refine WL.nil ?_
    refine WC.seq ?_
    refine WC.seq ?_
    refine WC.region ?_
    refine WL.val (V.fieldAddr fo23_2 (OV.p rfl)) rfl ?_
    refine WL.val (V.load Try.isAgg3 (OV.p rfl) (fun _ => by repeat (first | exact Rd.here rfl | apply Rd.up))) rfl ?_
    refine WL.val (V.move (OV.p rfl)) rfl ?_
    refine WL.nil ?_
    refine WC.block ?_
    refine WC.loop (σ := Nat × Option Addr × Nat × Option Addr × Nat × List Assn × List URec) (fun x => [(1, .slice x.2.1 (m - x.1 * n) x.2.2.1), (2, ptr b2 0), (9, .slice x.2.2.2.1 x.1 x.2.2.2.2.1), (32, .int .i64 (S : Int)), (33, .int .i64 (x.1 : Int))]) (fun x => SlA (.slice x.2.2.2.1 x.1 x.2.2.2.2.1) 82 3 x.1 (recCells x.2.2.2.2.2.2) :: AllA x.2.2.2.2.2.1 :: Cells b2 23 [.int .i64 bl, .int .i64 pg, .int .i64 (S : Int), .int .i64 (B : Int), .int .i64 (t : Int)] :: F) (fun x => x.1 ≤ S ∧ m - x.1 * n ≤ x.2.2.1 ∧ Seq K F x.2.1 (m - x.1 * n) 1 (nats .u8 (raw.drop (x.1 * n))) ∧ x.2.2.2.2.2.2.map URec.o = (List.range x.1).map (uSec t B n raw) ∧ RecsIn x.2.2.2.2.2.1 x.2.2.2.2.2.2) (fun x => S - x.1) (0, A, cap, none, 0, [], []) ⟨Nat.zero_le _, by show m - 0 * n ≤ cap; omega, by simpa using hr, rfl, fun r hr => by simp at hr⟩ (.cons (look_eq rfl (by simp)) (.cons rfl (.cons rfl (.cons rfl (.cons rfl (.nil _)))))) (fun w h => Sat.slNil (Sat.all h) 82 3) ?_
    rintro ⟨j, Aj, cj, Ao, co, la, rs⟩ ⟨hj, hjc, hjs, hrs, hin⟩
    dsimp only at hj hjc hjs hrs hin ⊢
    have hjn : j * n ≤ S * n := Nat.mul_le_mul_right _ hj
    have hrl : rs.length = j := by have := congrArg List.length hrs; simpa using this
    refine WC.seq ?_
    refine WC.region ?_
    refine WL.val (V.lss (OV.p rfl) (OV.p rfl)) rfl ?_
    refine WL.nil ?_
    refine WC.seq ?_
    refine WC.cond rfl (fun hc2 => ?_) (fun hc2 => ?_)
    · simp only [decide_eq_true_eq, decide_eq_false_iff_not] at hc2
      refine WC.skip ?_
      refine WC.seq ?_
      refine WC.block ?_
      refine WC.seq ?_
      have hjS : j < S := by omega
      have hj1 : (j + 1) * n ≤ S * n := Nat.mul_le_mul_right _ hjS
      rw [Nat.succ_mul] at hj1
      have hsd : Seq K F Aj B 1 (nats .u8 (secD B n raw j)) := by
        have h1 := Seq.take hjs (show B ≤ m - j * n by omega)
        rw [nats_take] at h1; exact h1
      have hsm : Seq K F (Aj.map (·.add (B * 1))) (n - B) 1 (nats .u8 (secM B n raw j)) := by
        have h1 := Seq.dropS hjs (l := B) (u := cj) (by omega) hjc
        rw [if_neg (by omega)] at h1
        have h2 := Seq.take h1 (show n - B ≤ m - j * n - B by omega)
        rw [nats_drop, nats_take] at h2; exact h2
      refine WC.region ?_
      refine WL.val (V.loadA (vs := [_, _, _, _, _]) ⟨Try.isAgg23, Try.sizeOf23⟩ (OV.p rfl) rfl (fun _ => by repeat (first | exact Rds.gets ⟨rfl, rfl, rfl, rfl, rfl, trivial⟩ | apply Rds.up))) rfl ?_
      refine WL.call (vs := [_]) Try.call42 ⟨OV.p rfl, trivial⟩ (Tells.eq (v' := .int .i64 (n : Int)) (ecc_whole (NG bl pg S B t) hg _ _) (by rw [NG.whole, hn])) rfl ?_
      rintro _ H0 ⟨rfl, h0⟩
      subst H0
      refine WL.val (V.assign (OV.p rfl)) rfl ?_
      refine WL.nil ?_
      refine WC.seq ?_
      refine WC.region ?_
      refine WL.alloc (cs := [(.slice none 0 0), (.int .i64 0), (.int .i64 0)]) Try.zeroValue82 rfl rfl (fun b11 => ?_)
      refine WL.nil ?_
      refine WC.seq ?_
      refine WC.regionA (SlA (.slice Ao j co) 82 3 j (recCells rs) :: AllA la :: Cells b2 23 [.int .i64 bl, .int .i64 pg, .int .i64 (S : Int), .int .i64 (B : Int), .int .i64 (t : Int)] :: F) (by kernel_rfl) ?_
      refine WA.take 0 (fun w h => by repeat (first | exact h | replace h := h.tail)) rfl (by kernel_rfl) (by kernel_rfl) (by kernel_rfl) (fun _ _ _ h => h) (V.fieldAddr fo23_4 (OV.p rfl)) rfl ?_
      refine WA.take 1 (fun w h => by repeat (first | exact h | replace h := h.tail)) rfl (by kernel_rfl) (by kernel_rfl) (by kernel_rfl) (fun _ _ _ h => h) (V.load Try.isAgg3 (OV.p rfl) (fun _ => by repeat (first | exact Rd.here rfl | apply Rd.up))) rfl ?_
      refine WA.take 2 (fun w h => by repeat (first | exact h | replace h := h.tail)) rfl (by kernel_rfl) (by kernel_rfl) (by kernel_rfl) (fun _ _ _ h => h) (V.move (OV.p rfl)) rfl ?_
      refine WA.take 3 (fun w h => by repeat (first | exact h | replace h := h.tail)) rfl (by kernel_rfl) (by kernel_rfl) (by kernel_rfl) (fun _ _ _ h => h) (V.fieldAddr fo23_3 (OV.p rfl)) rfl ?_
      refine WA.take 4 (fun w h => by repeat (first | exact h | replace h := h.tail)) rfl (by kernel_rfl) (by kernel_rfl) (by kernel_rfl) (fun _ _ _ h => h) (V.load Try.isAgg3 (OV.p rfl) (fun _ => by repeat (first | exact Rd.here rfl | apply Rd.up))) rfl ?_
      refine WA.take 5 (fun w h => by repeat (first | exact h | replace h := h.tail)) rfl (by kernel_rfl) (by kernel_rfl) (by kernel_rfl) (fun _ _ _ h => h) (V.fieldAddr fo23_3 (OV.p rfl)) rfl ?_
      refine WA.take 6 (fun w h => by repeat (first | exact h | replace h := h.tail)) rfl (by kernel_rfl) (by kernel_rfl) (by kernel_rfl) (fun _ _ _ h => h) (V.load Try.isAgg3 (OV.p rfl) (fun _ => by repeat (first | exact Rd.here rfl | apply Rd.up))) rfl ?_
      refine WA.take 7 (fun w h => by repeat (first | exact h | replace h := h.tail)) rfl (by kernel_rfl) (by kernel_rfl) (by kernel_rfl) (fun _ _ _ h => h) (V.val_eq (v' := .slice Aj B B) (V.slice (l := 0) (h := B) (u := B) st24 (OV.p rfl) OO.none (OO.some (OV.p rfl) (fun _ => rfl)) (OO.some (OV.p rfl) (fun _ => rfl)) (by simp) (Nat.zero_le _) (Nat.le_refl _) (by omega)) (fun _ => by rw [show (B - 0 : Nat) = B from rfl]; cases Aj <;> simp [Addr.add])) rfl ?_
      refine WA.take 8 (fun w h => by repeat (first | exact h | replace h := h.tail)) rfl (by kernel_rfl) (by kernel_rfl) (by kernel_rfl) (fun _ _ _ h => h) (V.move (OV.p rfl)) rfl ?_
      refine WA.take 9 (fun w h => by repeat (first | exact h | replace h := h.tail)) rfl (by kernel_rfl) (by kernel_rfl) (by kernel_rfl) (fun _ _ _ h => h) (V.fieldAddr fo23_3 (OV.p rfl)) rfl ?_
      refine WA.take 10 (fun w h => by repeat (first | exact h | replace h := h.tail)) rfl (by kernel_rfl) (by kernel_rfl) (by kernel_rfl) (fun _ _ _ h => h) (V.load Try.isAgg3 (OV.p rfl) (fun _ => by repeat (first | exact Rd.here rfl | apply Rd.up))) rfl ?_
      refine WA.take 11 (fun w h => by repeat (first | exact h | replace h := h.tail)) rfl (by kernel_rfl) (by kernel_rfl) (by kernel_rfl) (fun _ _ _ h => h) (V.move (OV.p rfl)) rfl ?_
      refine WA.take 12 (fun w h => by repeat (first | exact h | replace h := h.tail)) rfl (by kernel_rfl) (by kernel_rfl) (by kernel_rfl) (fun _ _ _ h => h) (V.move (OV.p rfl)) rfl ?_
      refine WA.take 13 (fun w h => by repeat (first | exact h | replace h := h.tail)) rfl (by kernel_rfl) (by kernel_rfl) (by kernel_rfl) (fun _ _ _ h => h) (V.val_eq (v' := .slice (Aj.map (·.add (B * 1))) (n - B) (n - B)) (V.slice (l := B) (h := n) (u := n) st24 (OV.p rfl) (OO.some (OV.p rfl) (fun _ => rfl)) (OO.some (OV.p rfl) (fun _ => rfl)) (OO.some (OV.p rfl) (fun _ => rfl)) (by simp) (by omega) (Nat.le_refl _) (by omega)) (fun _ => by rw [if_neg (by omega)])) rfl ?_
      refine WA.one (i := 14) (fun w h => by repeat (first | exact h | replace h := h.tail)) (by kernel_rfl) rfl ?_
      refine WL.call (vs := [_, _, _]) Try.call53 ⟨OV.p rfl, OV.p rfl, OV.p rfl, trivial⟩ (bch_Decode' ht (by repeat (first | exact hsd | apply Seq.up)) (by repeat (first | exact hsm | apply Seq.up)) (Small.take (Small.drop h8)) (Small.take (Small.drop (Small.drop h8))) (by omega) (by omega)) rfl ?_
      rintro _ _ ⟨A1, c1, mA, mm, mc, l1, rfl, hin1, rfl⟩
      refine WL.nil ?_
      refine WA.take 15 (fun w h => by repeat (first | exact h | replace h := h.tail)) rfl (by kernel_rfl) (by kernel_rfl) (by kernel_rfl) (fun _ _ _ h => h) (V.move (OV.p rfl)) rfl ?_
      refine WA.take 16 (fun w h => by repeat (first | exact h | replace h := h.tail)) rfl (by kernel_rfl) (by kernel_rfl) (by kernel_rfl) (fun _ _ _ h => h) (V.extract (OV.p rfl) rfl) rfl ?_
      refine WA.take 17 (fun w h => by repeat (first | exact h | replace h := h.tail)) rfl (by kernel_rfl) (by kernel_rfl) (by kernel_rfl) (fun _ _ _ h => h) (V.extract (OV.p rfl) rfl) rfl ?_
      refine WA.take 18 (fun w h => by repeat (first | exact h | replace h := h.tail)) rfl (by kernel_rfl) (by kernel_rfl) (by kernel_rfl) (fun _ _ _ h => h) (V.extract (OV.p rfl) rfl) rfl ?_
      refine WA.take 19 (fun w h => by repeat (first | exact h | replace h := h.tail)) rfl (by kernel_rfl) (by kernel_rfl) (by kernel_rfl) (fun _ _ _ h => h) (V.extract (OV.p rfl) rfl) rfl ?_
      refine WA.take 20 (fun w h => by repeat (first | exact h | replace h := h.tail)) rfl (by kernel_rfl) (by kernel_rfl) (by kernel_rfl) (fun _ _ _ h => h) (V.fieldAddr fo82_0 (OV.p rfl)) rfl ?_
      refine WA.one (i := 21) (fun w h => by repeat (first | exact h | replace h := h.tail)) (by kernel_rfl) rfl ?_
      refine WL.store (cs := [_]) Try.sizeOf24 (OV.p rfl) (OV.p rfl) rfl rfl rfl (by repeat (first | exact Upd.here (cs' := [_, _, _]) rfl rfl | apply Upd.up)) ?_
      refine WL.nil ?_
      refine WA.take 22 (fun w h => by repeat (first | exact h | replace h := h.tail)) rfl (by kernel_rfl) (by kernel_rfl) (by kernel_rfl) (fun _ _ _ h => h) (V.fieldAddr fo82_1 (OV.p rfl)) rfl ?_
      refine WA.one (i := 23) (fun w h => by repeat (first | exact h | replace h := h.tail)) (by kernel_rfl) rfl ?_
      refine WL.store (cs := [_]) Try.sizeOf3 (OV.p rfl) (OV.p rfl) rfl rfl rfl (by repeat (first | exact Upd.here (cs' := [_, _, _]) rfl rfl | apply Upd.up)) ?_
      refine WL.nil ?_
      refine WA.take 24 (fun w h => by repeat (first | exact h | replace h := h.tail)) rfl (by kernel_rfl) (by kernel_rfl) (by kernel_rfl) (fun _ _ _ h => h) (V.fieldAddr fo82_2 (OV.p rfl)) rfl ?_
      refine WA.one (i := 25) (fun w h => by repeat (first | exact h | replace h := h.tail)) (by kernel_rfl) rfl ?_
      refine WL.store (cs := [_]) Try.sizeOf28 (OV.p rfl) (OV.p rfl) rfl rfl rfl (by repeat (first | exact Upd.here (cs' := [_, _, _]) rfl rfl | apply Upd.up)) ?_
      refine WL.nil ?_
      refine WA.done (by kernel_rfl) (fun w h => by repeat (first | exact h | replace h := h.tail)) ?_
      refine WC.seq ?_
      refine WC.region ?_
      refine WL.val (V.move (OV.p rfl)) rfl ?_
      refine WL.val (V.loadA (vs := [_, _, _]) ⟨Try.isAgg82, Try.sizeOf82⟩ (OV.p rfl) rfl (fun _ => by repeat (first | exact Rds.gets ⟨rfl, rfl, rfl, trivial⟩ | apply Rds.up))) rfl ?_
      refine WL.buildSlice (E := 82) (cs := [_, _, _]) (vs := [(0, _)]) ⟨OV.p rfl, trivial⟩ rfl (bsl67_1_0 _ _ _) rfl (fun b62 => ?_)
      refine WL.sub (Sub.refl _) (fun w h => h.sel 6 [3, 0, 1, 4, 5] rfl) ?_
      refine WL.append (m := j) (q := 1) Try.underlying67 el82 (OV.p rfl) (OV.p rfl) (Seq.all rfl) (by simp [Value.oneCell']) (by omega) rfl rfl (fun A63 c63 hn63 hc63 => ?_)
      refine WL.val (V.assign (OV.p rfl)) rfl ?_
      refine WL.nil ?_
      refine WC.region ?_
      refine WL.val (V.move (OV.p rfl)) rfl ?_
      refine WL.val (V.move (OV.p rfl)) rfl ?_
      refine WL.val (V.slice (l := n) (h := m - j * n) (u := cj) st24 (OV.p rfl) (OO.some (OV.p rfl) (fun _ => rfl)) OO.none OO.none (by simp) (by omega) (by omega) (Nat.le_refl _)) rfl ?_
      refine WL.val (V.assign (OV.p rfl)) rfl ?_
      refine WL.nil ?_
      refine WC.region ?_
      refine WL.val (V.addI (OV.p rfl) (OV.p rfl) (fun hc => by first | omega | (simp at hc; omega))) rfl ?_
      refine WL.val (V.move (OV.p rfl)) rfl ?_
      refine WL.nil ?_
      refine ⟨rfl, ?_⟩
      refine ⟨(j + 1, (if cj = n then Aj else Aj.map (·.add (n * 1))), cj - n, A63, c63, AllA l1 :: la, rs ++ [⟨A1, c1, uSec t B n raw j⟩]), ⟨hjS, by show m - (j + 1) * n ≤ cj - n; rw [Nat.succ_mul]; omega, ?_, ?_, ?_⟩, (by show S - (j + 1) < S - j; omega), .cons (look_eq rfl (by dsimp only; rw [Nat.succ_mul, Nat.sub_sub])) (.cons rfl (.cons rfl (.cons rfl (.cons (look_eq rfl (by simp)) (.nil _))))), fun w h => ?_⟩
      · have h1 := Seq.dropS hjs (show n ≤ m - j * n by omega) hjc
        rw [nats_drop, List.drop_drop, Nat.sub_sub] at h1
        dsimp only
        rw [Nat.succ_mul]
        exact h1
      · dsimp only
        rw [List.map_append, hrs, List.range_succ, List.map_append]
        rfl
      · intro r hr2
        rcases List.mem_append.1 hr2 with h | h
        · exact (hin r h).up
        · rw [List.mem_singleton] at h
          subst h
          exact SeqIn.here (fun K => SeqIn.seq hin1)
      · have h' := (Sat.absorb (h.sel 5 [2, 3, 0, 4] rfl)).p1
        dsimp only
        rw [recCells_append]
        exact h'
    · simp only [decide_eq_true_eq, decide_eq_false_iff_not] at hc2
      refine WC.exit ?_
      refine WC.seq ?_
      refine WC.region ?_
      refine WL.val (V.move (OV.p rfl)) rfl ?_
      refine WL.val (V.assign (OV.p rfl)) rfl ?_
      refine WL.val (V.assign (OV.p rfl)) rfl ?_
      refine WL.nil ?_
      refine WC.ret ?_
      obtain rfl : j = S := by omega
      exact BodyQ.ret (H' := SlA (.slice Ao j co) 82 3 j (recCells rs) :: AllA la :: F) (Res.tmp2 rfl rfl rfl) (fun w h => h.sel 3 [0, 1] rfl) (.inr ⟨by omega, Ao, co, la, rs, rfl, hrs, hin, rfl⟩)
end
end Go.Proofs.Ytohkefolnmcjnaa
