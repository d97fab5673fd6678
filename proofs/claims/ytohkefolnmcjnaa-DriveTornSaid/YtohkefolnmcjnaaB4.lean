/- bpoly: norm; the least polynomial of a power of w. -/
import Derived.Test.YtohkefolnmcjnaaB3
namespace Go.Proofs.Ytohkefolnmcjnaa
open Go.Sl Go.RowKit
set_option linter.unusedVariables false
set_option linter.unusedSimpArgs false
set_option maxRecDepth 20000

section
variable {K : World} {F : List Assn}
theorem bpoly_norm {A : Option Addr} {m cap : Nat} {xs : List Nat} (hs : Seq K F A m 1 (nats .u8 xs)) (hcap : m ≤ cap) (hm : m ≤ 1000000) : Tells Try.prog 71 #[.slice A m cap] K F (.slice A (normLen xs m) cap) := by
  refine Does.enter Try.func71 rfl Try.ntmps71 rfl ?_
  simp only [env0, Nat.reduceAdd]
  refine WC.seq ?_
  refine WC.region ?_
  refine WL.val (V.assign (OV.p rfl)) rfl ?_
  refine WL.nil ?_
  refine WC.seq ?_
  refine WC.block ?_
  refine WC.loop (σ := Nat) (fun j => [(0, .slice A j cap)]) (fun _ => F) (fun j => j ≤ m ∧ normLen xs j = normLen xs m) (fun j => j) m ⟨Nat.le_refl _, rfl⟩ (.cons rfl (.nil _)) (fun w h => h) ?_
  rintro j ⟨hj, hn⟩
  have hrd : 0 < j → Rd K F (A.map (·.add (((j : Int) - 1).toNat * 1))) (.int .u8 (xs.getD (j - 1) 0 : Nat)) := fun h => by
    rw [show ((j : Int) - 1).toNat = j - 1 by omega]; exact hs.nat_rd (by omega)
  refine WC.seq ?_
  refine WC.seq ?_
  refine WC.region ?_
  refine WL.val (V.move (OV.p rfl)) rfl ?_
  refine WL.val (V.len (t := 24) Try.runUnderlying24 (OV.p rfl)) rfl ?_
  refine WL.val (V.gtr (OV.p rfl) (OV.p rfl)) rfl ?_
  refine WL.val (V.move (OV.p rfl)) rfl ?_
  refine WL.valG (oj := _) rfl rfl rfl GC.t (V.move (OV.p rfl)) rfl ?_
  refine WL.valG (oj := _) rfl rfl rfl GC.t (V.move (OV.p rfl)) rfl ?_
  refine WL.valG (oj := _) rfl rfl rfl GC.t (V.len (t := 24) Try.runUnderlying24 (OV.g rfl id)) rfl ?_
  refine WL.valG (oj := _) rfl rfl rfl GC.t (V.subI (OV.g rfl id) (OV.p rfl) (fun hc => by first | omega | (simp at hc; omega))) rfl ?_
  refine WL.valG (oj := _) rfl rfl rfl GC.t (V.idxS st24 (OV.g rfl id) (OV.g rfl id) (fun hc => by simp at hc; omega) (fun hc => hrd (by simp at hc; omega))) rfl ?_
  refine WL.valG (oj := _) rfl rfl rfl GC.t (V.load Try.isAgg5 (OV.g rfl id) (fun hc => hrd (by simp at hc; omega))) rfl ?_
  refine WL.valG (oj := _) rfl rfl rfl GC.t (V.eql (OV.g rfl id) (OV.p rfl)) rfl ?_
  refine WL.val (V.pickAnd (OV.p rfl) (OV.g rfl id)) rfl ?_
  refine WL.nil ?_
  refine WC.cond rfl (fun hc0 => ?_) (fun hc0 => ?_)
  · simp only [Bool.and_eq_true, Bool.and_eq_false_iff, decide_eq_true_eq, decide_eq_false_iff_not] at hc0
    have h0 := hc0
    refine WC.skip ?_
    refine WC.block ?_
    refine WC.region ?_
    refine WL.val (V.move (OV.p rfl)) rfl ?_
    refine WL.val (V.move (OV.p rfl)) rfl ?_
    refine WL.val (V.len (t := 24) Try.runUnderlying24 (OV.p rfl)) rfl ?_
    refine WL.val (V.subI (OV.p rfl) (OV.p rfl) (fun hc => by first | omega | (simp at hc; omega))) rfl ?_
    refine WL.val (V.val_eq (v' := .slice A (j - 1) cap) (V.slice (l := 0) (h := j - 1) (u := cap) st24 (OV.p rfl) OO.none (OO.some (OV.p rfl) (fun _ => by omega)) OO.none (by simp) (Nat.zero_le _) (by omega) (Nat.le_refl _)) (fun _ => by rw [sub0]; rfl)) rfl ?_
    refine WL.val (V.assign (OV.p rfl)) rfl ?_
    refine WL.nil ?_
    refine ⟨rfl, ?_⟩
    refine ⟨j - 1, ⟨by show j - 1 ≤ m; omega, ?_⟩, (by show j - 1 < j; omega), .cons rfl (.nil _), fun w h => h⟩
    obtain ⟨i, rfl⟩ : ∃ i, j = i + 1 := ⟨j - 1, by omega⟩
    rw [← hn, normLen, if_pos (by have := h0.2; simp at this ⊢; omega)]; rfl
  · simp only [Bool.and_eq_true, Bool.and_eq_false_iff, decide_eq_true_eq, decide_eq_false_iff_not] at hc0
    have h0 := hc0
    refine WC.exit ?_
    refine WC.seq ?_
    refine WC.region ?_
    refine WL.val (V.move (OV.p rfl)) rfl ?_
    refine WL.val (V.assign (OV.p rfl)) rfl ?_
    refine WL.nil ?_
    refine WC.ret ?_
    refine BodyQ.ret (H' := F) (Res.tmp rfl rfl) (fun w h => h) ⟨?_, rfl⟩
    have : normLen xs m = j := by
      rw [← hn]
      cases j with
      | zero => rfl
      | succ i =>
        rw [normLen, if_neg]
        intro hz
        rcases h0 with h1 | h1
        · omega
        · have h2 : ¬ ((xs.getD i 0 : Nat) : Int) = 0 := h1
          exact h2 (by rw [hz]; rfl)
    rw [this]
end
theorem u8_wrap (v : Nat) : IntKind.u8.wrap (v : Int) = ((v % 256 : Nat) : Int) := by
  simp only [IntKind.wrap, IntKind.bits, IntKind.signed]
  simp
theorem shl_u8 {a j : Nat} (ha : a < 8192) : IntKind.u8.wrap (IntKind.i64.wrap ((a : Int) * 2 ^ (min ((j : Int) % 8).toNat IntKind.i64.bits))) = ((a * 2 ^ (j % 8) % 256 : Nat) : Int) := by
  have e1 : min ((j : Int) % 8).toNat IntKind.i64.bits = j % 8 := by show min _ 64 = _; omega
  have e2 : (a : Int) * 2 ^ (j % 8) = ((a * 2 ^ (j % 8) : Nat) : Int) := by simp
  have h1 : 2 ^ (j % 8) ≤ 2 ^ 7 := Nat.pow_le_pow_right (by decide) (by omega)
  have h2 : a * 2 ^ (j % 8) ≤ 8192 * 128 := Nat.mul_le_mul (by omega) h1
  rw [e1, e2, wrap_i64 (by omega), u8_wrap]
/-- What is reckoned, round by round. -/
def pk (i : Int) : Nat → List Nat
  | 0 => [1]
  | k + 1 => (mulFull (pk i k) [conj (gexp i) k, 1]).take (normLen (mulFull (pk i k) [conj (gexp i) k, 1]) ((pk i k).length + 2))
def packTo (p : List Nat) : Nat → List Nat
  | 0 => List.replicate (p.length / 8 + 1) 0
  | j + 1 => (packTo p j).set (j / 8) ((packTo p j).getD (j / 8) 0 ||| (p.getD j 0 * 2 ^ (j % 8)) % 256)
theorem packTo_length (p : List Nat) : ∀ j, (packTo p j).length = p.length / 8 + 1
  | 0 => List.length_replicate
  | j + 1 => by rw [packTo, List.length_set, packTo_length]
theorem packTo_small (p : List Nat) : ∀ j, Small 256 (packTo p j)
  | 0 => Small.repl (by decide)
  | j + 1 => by
    have ih := packTo_small p j
    rw [packTo]
    exact ih.set (Nat.or_lt_two_pow (n := 8) (ih.at_ (by decide) _) (Nat.mod_lt _ (by decide)))
def packP (p : List Nat) : List Nat := packTo p p.length
def minB (i : Int) : List Nat := (packP (pk i 13)).take (normLen (packP (pk i 13)) ((pk i 13).length / 8 + 1))
/-- What was asked of the powers that are used. -/
def cycleOk (i : Int) : Bool := decide (conj (gexp i) 13 = gexp i) && (List.range 13).all (fun j => j = 0 || decide (conj (gexp i) j ≠ gexp i)) && decide ((pk i 13).length ≤ 1000) && (List.range 14).all (fun j => decide ((pk i j).length ≤ 1000))
theorem cycle_ok : [1, 3, 5, 7, 9, 11, 13, 15].all cycleOk = true := by kernel_rfl

theorem or_u8 {a b : Nat} (ha : a < 256) (hb : b < 256) : bitsOf .or .u8 (a : Int) (b : Int) = ((a ||| b : Nat) : Int) := by
  have h : a ||| b < 2 ^ 8 := Nat.or_lt_two_pow ha hb
  unfold bitsOf
  dsimp only
  rw [ofInt_nat, ofInt_nat, BitVec.toNat_or, BitVec.toNat_ofNat, BitVec.toNat_ofNat]
  have e1 : a % 2 ^ IntKind.u8.bits = a := Nat.mod_eq_of_lt (by show a < 2 ^ 8; omega)
  have e2 : b % 2 ^ IntKind.u8.bits = b := Nat.mod_eq_of_lt (by show b < 2 ^ 8; omega)
  rw [e1, e2]
  show IntKind.u8.wrap _ = _
  simp only [IntKind.wrap, IntKind.bits, IntKind.signed]
  simp
  omega

section
variable {K : World} {F : List Assn}
theorem conj_make (i : Int) : Does Try.prog 82 #[.int .i64 i] K F (fun v H' => ∃ b1, v = .func (.func 87) #[] #[ptr b1 0] ∧ H' = Cells b1 3 [.int .i64 i] :: F) := by
  refine Does.enter Try.func82 rfl Try.ntmps82 rfl ?_
  simp only [env0, Nat.reduceAdd]
  refine WC.seq ?_
  refine WC.region ?_
  refine WL.box (cs := [_]) (OV.p rfl) rfl rfl (fun b1 => ?_)
  refine WL.val (V.assign (OV.p rfl)) rfl ?_
  refine WL.nil ?_
  refine WC.seq ?_
  refine WC.region ?_
  refine WL.val (V.makeFunc (us := []) (vs := [_]) trivial ⟨OV.p rfl, trivial⟩) rfl ?_
  refine WL.val (V.assign (OV.p rfl)) rfl ?_
  refine WL.nil ?_
  refine WC.ret ?_
  exact BodyQ.ret (H' := Cells b1 _ _ :: F) (Res.tmp rfl rfl) (fun w h => h) ⟨b1, rfl, rfl⟩
theorem bpoly_Minimal {i : Int} (hi : -9223372036854775808 ≤ i ∧ i ≤ 9223372036854775807) (hc : cycleOk i = true) :
    Does Try.prog 70 #[.int .i64 i] K F (fun v H' => ∃ g cap, (minB i).length ≤ cap ∧ cap = (pk i 13).length / 8 + 1 ∧ v = .slice (some ⟨g, 0, none⟩) (minB i).length cap ∧ H' = Cells g 5 (nats .u8 (packP (pk i 13))) :: F) := by
  simp only [cycleOk, Bool.and_eq_true, decide_eq_true_eq, List.all_eq_true, List.mem_range, Bool.or_eq_true] at hc
  obtain ⟨⟨⟨hc1, hc2⟩, hc3⟩, hc4⟩ := hc
  have hlt := fun j => conj_lt (x := gexp i) (gexp_lt i) j
  have hps : ∀ j, Small 8192 (pk i j) := fun j => by
    cases j with
    | zero => intro x hx; simp [pk] at hx; omega
    | succ j => exact Small.take (mulTo_small (fun x hx => by simp at hx; rcases hx with rfl | rfl; exact hlt j; decide) _)
  refine Does.enterM Try.func70 rfl Try.ntmps70 rfl ?_
  simp only [env0, Nat.reduceAdd]
  refine WC.seq ?_
  refine WC.region ?_
  refine WL.val (V.assign (OV.p rfl)) rfl ?_
  refine WL.nil ?_
  refine WC.seq ?_
  refine WC.region ?_
  refine WL.buildSlice (E := 3) (cs := [_]) (vs := [(0, _)]) ⟨OV.p rfl, trivial⟩ rfl (bsl39_1_0 _) rfl (fun b8 => ?_)
  refine WL.alloc (cs := [(.slice none 0 0)]) Try.zeroValue39 rfl rfl (fun b3 => ?_)
  refine WL.store (cs := [_]) Try.sizeOf39 (OV.p rfl) (OV.p rfl) rfl rfl rfl (by repeat (first | exact Upd.here (cs' := [_]) rfl rfl | apply Upd.up)) ?_
  refine WL.nil ?_
  refine WC.seq ?_
  refine WC.seq ?_
  refine WC.region ?_
  refine WL.val (V.move (OV.p rfl)) rfl ?_
  refine WL.call (vs := [_]) Try.call82 ⟨OV.p rfl, trivial⟩ (conj_make i) rfl ?_
  rintro _ _ ⟨b1, rfl, rfl⟩
  refine WL.nil ?_
  refine WC.block ?_
  obtain ⟨M0, hM0⟩ : ∃ M0 : Nat × List Nat × Nat × Nat → List Assn, M0 = fun s => Cells b3 39 [.slice (some ⟨s.1, 0, none⟩) s.2.2.1 s.2.2.2] :: Cells s.1 3 (nats .i64 s.2.1) :: Cells b1 3 [.int .i64 i] :: F := ⟨_, rfl⟩
  obtain ⟨I0, hI0⟩ : ∃ I0 : Nat → Nat × List Nat × Nat × Nat → Prop, I0 = fun j s => s.2.1.take s.2.2.1 = pk i j ∧ s.2.2.1 ≤ s.2.1.length ∧ s.2.2.1 ≤ s.2.2.2 := ⟨_, rfl⟩
  refine WC.range (gf := 87) (lb := [ptr b1 0]) (Done := fun H1 => ∃ s, I0 13 s ∧ H1 = M0 s) (X := fun _ _ => False) rfl Try.call87 (fun r l e1 e2 e3 hA => ?_) (fun D H1 hd => ?_) (fun D c H1 h => h.elim)
  suffices hround : ∀ j s, j < 13 → I0 j s → YieldsTo Try.prog K none l #[.int .i64 (conj (gexp i) j : Nat)] (r.A l .ready none :: DefA r.D :: M0 s) (fun b H' => b = true ∧ ∃ s', I0 (j + 1) s' ∧ H' = r.A l .ready none :: DefA r.D :: M0 s') from by
    have hconj : Does Try.prog 87 #[.func (.yield l) #[] #[], ptr b1 0] K (r.A l .ready none :: DefA r.D :: M0 (b8, [1], 1, 1)) (fun v H' => ∃ s, I0 13 s ∧ H' = r.A l .ready none :: DefA r.D :: M0 s) :=
      conj_does (r := none) hi (by decide) hc1 (fun j h1 h2 => by rcases hc2 j h2 with h | h; omega; exact h) I0 (fun s => r.A l .ready none :: DefA r.D :: M0 s) (fun j s h => by rw [hM0]; exact (Rd.here rfl).up.up.up.up) hround (b8, [1], 1, 1) (by rw [hI0]; exact ⟨rfl, Nat.le_refl _, Nat.le_refl _⟩)
    exact (hconj.sat fun w h => by rw [hM0]; exact h.sel 5 [0, 1, 3, 4, 2] rfl).mono fun v H' ⟨s, hs, e⟩ => ⟨none, _, e, s, hs, rfl⟩
  rintro j ⟨g, full, m1, cp⟩ hj hI
  refine YieldsTo.mono (yields_round (n := 46) (args := [.int .i64 (conj (gexp i) j : Nat)]) (post := fun jj H1 => jj = none ∧ ∃ s, I0 (j + 1) s ∧ H1 = DefA r.D :: M0 s) (by rw [e1]; rfl) (by rw [e1]; simp) hA ?_) (fun b H' ⟨jj, H1, hb, ⟨hj, s, hs, e⟩, eH⟩ => by
    subst hj hb e eH
    exact ⟨rfl, s, hs, rfl⟩)
  rw [e1, e2]
  rw [hI0] at hI
  obtain ⟨hI1, hI2, hI3⟩ := hI
  dsimp only at hI1 hI2 hI3
  rw [hM0, hI0]
  dsimp only
  refine WC.sub (E := (11, _) :: _) (Sub.refl _) (fun w h => h) ?_
  have hpl : (pk i j).length = m1 := by rw [← hI1, List.length_take]; omega
  have hp1000 := hc4 j (by omega)
  have hml : (mulFull (pk i j) [conj (gexp i) j, 1]).length = m1 + 2 := by unfold mulFull; rw [mulTo_length, hpl]; rfl
  have hnl := normLen_le (mulFull (pk i j) [conj (gexp i) j, 1]) (m1 + 2)
  have hsq : ∀ {H : List Assn}, Seq K (Cells g 3 (nats .i64 full) :: H) (some ⟨g, 0, none⟩) m1 1 (nats .i64 (pk i j)) := fun {H} => Seq.here (by rw [nats_length, hpl]; omega) (by rw [← hI1, ← nats_take, List.drop_zero]; exact List.take_prefix _ _)
  · skip
    refine WC.region ?_
    refine WL.val (V.assign (OV.p rfl)) rfl ?_
    refine WL.nil ?_
    refine ⟨_, fun w h => h, ?_⟩
    rw [e3]
    refine WC.block ?_
    refine WC.region ?_
    refine WL.val (V.load Try.isAgg39 (OV.p rfl) (fun _ => by repeat (first | exact Rd.here rfl | apply Rd.up))) rfl ?_
    refine WL.val (V.move (OV.p rfl)) rfl ?_
    refine WL.buildSlice (E := 3) (cs := [_, _]) (vs := [(0, _), (1, _)]) ⟨OV.p rfl, OV.p rfl, trivial⟩ rfl (bsl39_2_0_1 _ _) rfl (fun b15 => ?_)
    refine WL.call (vs := [_, _]) Try.call83 ⟨OV.p rfl, OV.p rfl, trivial⟩ (poly_Mul (ps := pk i j) (qs := [conj (gexp i) j, 1]) (by repeat (first | exact hsq | apply Seq.up)) (Seq.allN (k := .i64) (xs := [conj (gexp i) j, 1]) rfl) (hps j) (fun x hx => by simp at hx; rcases hx with rfl | rfl; exact hlt j; decide) (by show (pk i j).length + 2 ≤ 1000000; omega)) rfl ?_
    rintro _ _ ⟨g2, rfl, rfl⟩
    refine WL.val (V.move (OV.p rfl)) rfl ?_
    refine WL.val (V.extract (OV.p rfl) rfl) rfl ?_
    refine WL.val (V.extract (OV.p rfl) rfl) rfl ?_
    refine WL.store (cs := [_]) Try.sizeOf39 (OV.p rfl) (OV.p rfl) rfl rfl rfl (by repeat (first | exact Upd.here rfl rfl | apply Upd.up)) ?_
    refine WL.nil ?_
    refine ⟨_, fun w h => h.sel 7 [2, 3, 4, 0, 6] rfl, rfl, (g2, mulFull (pk i j) [conj (gexp i) j, 1], normLen (mulFull (pk i j) [conj (gexp i) j, 1]) ((pk i j).length + 2), (pk i j).length + 2), ⟨rfl, ?_, ?_⟩, rfl⟩
    · show normLen _ _ ≤ (mulFull _ _).length; rw [hml, hpl]; exact hnl
    · show normLen _ _ ≤ (pk i j).length + 2; rw [hpl]; exact hnl
  · skip
    obtain ⟨⟨g, full, m1, cp⟩, hI, rfl⟩ := hd
    rw [hI0] at hI
    obtain ⟨hI1, hI2, hI3⟩ := hI
    dsimp only at hI1 hI2 hI3
    rw [hM0]
    have hpl : (pk i 13).length = m1 := by rw [← hI1, List.length_take]; omega
    have hsq : ∀ {H : List Assn}, Seq K (Cells g 3 (nats .i64 full) :: H) (some ⟨g, 0, none⟩) m1 1 (nats .i64 (pk i 13)) := fun {H} => Seq.here (by rw [nats_length, hpl]; omega) (by rw [← hI1, ← nats_take, List.drop_zero]; exact List.take_prefix _ _)
    refine WC.sub (E := _) (H' := DefA D :: Cells b3 39 [.slice (some ⟨g, 0, none⟩) m1 cp] :: Cells g 3 (nats .i64 full) :: F) (Sub.refl _) (fun w h => h.sel 4 [0, 1, 2] rfl) ?_
    refine WC.seq ?_
    refine WC.region ?_
    refine WL.val (V.load Try.isAgg39 (OV.p rfl) (fun _ => by repeat (first | exact Rd.here rfl | apply Rd.up))) rfl ?_
    refine WL.val (V.len (t := 39) Try.runUnderlying39 (OV.p rfl)) rfl ?_
    refine WL.val (V.quoI (OV.p rfl) (OV.p rfl) (fun hc => by first | omega | (simp at hc; omega))) rfl ?_
    refine WL.val (V.addI (OV.p rfl) (OV.p rfl) (fun hc => by first | omega | (simp at hc; omega))) rfl ?_
    refine WL.make1 (m := m1 / 8 + 1) Try.underlying24 el5 (OV.p rfl) (OV.p rfl) (by omega) (by omega) (by omega) rfl rfl rfl (fun b23 => ?_)
    refine WL.val (V.assign (OV.p rfl)) rfl ?_
    refine WL.nil ?_
    refine WC.seq ?_
    refine WC.seq ?_
    refine WC.region ?_
    refine WL.val (V.load Try.isAgg39 (OV.p rfl) (fun _ => by repeat (first | exact Rd.here rfl | apply Rd.up))) rfl ?_
    refine WL.val (V.len (t := 39) Try.runUnderlying39 (OV.p rfl)) rfl ?_
    refine WL.val (V.move (OV.p rfl)) rfl ?_
    refine WL.nil ?_
    refine WC.block ?_
    refine WC.loop (σ := Nat) (fun j => [(5, .slice (some ⟨b23, 0, none⟩) (m1 / 8 + 1) (m1 / 8 + 1)), (24, .slice (some ⟨g, 0, none⟩) m1 cp), (25, .int .i64 (m1 : Int)), (26, .int .i64 (j : Int))]) (fun j => Cells b23 5 (nats .u8 (packTo (pk i 13) j)) :: DefA D :: Cells g 3 (nats .i64 full) :: F) (fun j => j ≤ m1) (fun j => m1 - j) 0 (Nat.zero_le _) (.cons rfl (.cons rfl (.cons rfl (.cons rfl (.nil _))))) (fun w h => (h.sel 4 [0, 1, 3] rfl).cells_eq (by rw [packTo, hpl, nats_replicate]; rfl)) ?_
    rintro j hj
    refine WC.seq ?_
    refine WC.region ?_
    refine WL.val (V.lss (OV.p rfl) (OV.p rfl)) rfl ?_
    refine WL.nil ?_
    refine WC.seq ?_
    refine WC.cond rfl (fun hc0 => ?_) (fun hc0 => ?_)
    · simp only [decide_eq_true_eq, decide_eq_false_iff_not] at hc0
      refine WC.skip ?_
      refine WC.seq ?_
      refine WC.block ?_
      refine WC.seq ?_
      have hjm : j < m1 := by omega
      have hrd2 : ∀ {X Y : Assn}, Rd K (X :: Y :: Cells g 3 (nats .i64 full) :: F) ((some ⟨g, 0, none⟩ : Option Addr).map (·.add ((j : Int).toNat * 1))) (.int .i64 ((pk i 13).getD j 0 : Nat)) := fun {X Y} => by
        rw [show (j : Int).toNat = j by omega]; exact (hsq.nat_rd (by omega)).up.up
      have hpj := (hps 13).at_ (by decide) j
      have hto := packTo_length (pk i 13) j
      have hgo : (nats .u8 (packTo (pk i 13) j))[0 + ((j : Int) / 8).toNat * 1]? = some (.int .u8 ((packTo (pk i 13) j).getD (j / 8) 0 : Nat)) := by rw [show 0 + ((j : Int) / 8).toNat * 1 = j / 8 by omega]; exact nats_get _ _ (by omega)
      refine WC.region ?_
      refine WL.val (V.move (OV.p rfl)) rfl ?_
      refine WL.val (V.idxS st39 (OV.p rfl) (OV.p rfl) (fun hc => by omega) (fun hc => hrd2)) rfl ?_
      refine WL.val (V.load Try.isAgg3 (OV.p rfl) (fun hc => hrd2)) rfl ?_
      refine WL.val (V.assign (OV.p rfl)) rfl ?_
      refine WL.val (V.assign (OV.p rfl)) rfl ?_
      refine WL.nil ?_
      refine WC.regionA (DefA D :: Cells g 3 (nats .i64 full) :: F) (by kernel_rfl) ?_
      refine WA.take 0 (fun w h => by repeat (first | exact h | replace h := h.tail)) rfl (by kernel_rfl) (by kernel_rfl) (by kernel_rfl) (fun _ _ _ h => h) (V.move (OV.p rfl)) rfl ?_
      refine WA.take 1 (fun w h => by repeat (first | exact h | replace h := h.tail)) rfl (by kernel_rfl) (by kernel_rfl) (by kernel_rfl) (fun _ _ _ h => h) (V.move (OV.p rfl)) rfl ?_
      refine WA.take 2 (fun w h => by repeat (first | exact h | replace h := h.tail)) rfl (by kernel_rfl) (by kernel_rfl) (by kernel_rfl) (fun _ _ _ h => h) (V.quoI (OV.p rfl) (OV.p rfl) (fun hc => by first | omega | (simp at hc; omega))) rfl ?_
      refine WA.take 3 (fun w h => by repeat (first | exact h | replace h := h.tail)) rfl (by kernel_rfl) (by kernel_rfl) (by kernel_rfl) (fun _ _ _ h => h) (V.idxB st24 (OV.p rfl) (OV.p rfl) (fun hc => by omega)) rfl ?_
      refine WA.take 5 (fun w h => by repeat (first | exact h | replace h := h.tail)) rfl (by kernel_rfl) (by kernel_rfl) (by kernel_rfl) (fun _ _ _ h => h) (V.move (OV.p rfl)) rfl ?_
      refine WA.take 6 (fun w h => by repeat (first | exact h | replace h := h.tail)) rfl (by kernel_rfl) (by kernel_rfl) (by kernel_rfl) (fun _ _ _ h => h) (V.move (OV.p rfl)) rfl ?_
      refine WA.take 7 (fun w h => by repeat (first | exact h | replace h := h.tail)) rfl (by kernel_rfl) (by kernel_rfl) (by kernel_rfl) (fun _ _ _ h => h) (V.remI (OV.p rfl) (OV.p rfl) (fun hc => by first | omega | (simp at hc; omega))) rfl ?_
      refine WA.take 8 (fun w h => by repeat (first | exact h | replace h := h.tail)) rfl (by kernel_rfl) (by kernel_rfl) (by kernel_rfl) (fun _ _ _ h => h) (V.shl (OV.p rfl) (OV.p rfl) (by omega)) rfl ?_
      refine WA.take 9 (fun w h => by repeat (first | exact h | replace h := h.tail)) rfl (by kernel_rfl) (by kernel_rfl) (by kernel_rfl) (fun _ _ _ h => h) (V.val_eq (v' := .int .u8 (((pk i 13).getD j 0 * 2 ^ (j % 8) % 256 : Nat) : Int)) (V.convI Try.runUnderlying3 Try.runUnderlying5 (OV.p rfl)) (fun _ => by rw [shl_u8 hpj])) rfl ?_
      refine WA.one (i := 4) (fun w h => by repeat (first | exact h | replace h := h.tail)) (by kernel_rfl) rfl ?_
      refine WL.val (V.load Try.isAgg5 (OV.p rfl) (fun hc => Rd.here hgo)) rfl ?_
      refine WL.nil ?_
      refine WA.take 10 (fun w h => by repeat (first | exact h | replace h := h.tail)) rfl (by kernel_rfl) (by kernel_rfl) (by kernel_rfl) (fun _ _ _ h => h) (V.val_eq (v' := .int .u8 (((packTo (pk i 13) j).getD (j / 8) 0 ||| ((pk i 13).getD j 0 * 2 ^ (j % 8)) % 256 : Nat) : Int)) (V.or (OV.p rfl) (OV.p rfl)) (fun _ => by rw [or_u8 ((packTo_small _ j).at_ (by decide) _) (Nat.mod_lt _ (by decide))])) rfl ?_
      refine WA.take 11 (fun w h => by repeat (first | exact h | replace h := h.tail)) rfl (by kernel_rfl) (by kernel_rfl) (by kernel_rfl) (fun _ _ _ h => h) (V.idxB st24 (OV.p rfl) (OV.p rfl) (fun hc => by omega)) rfl ?_
      refine WA.one (i := 12) (fun w h => by repeat (first | exact h | replace h := h.tail)) (by kernel_rfl) rfl ?_
      refine WL.store (cs := [_]) Try.sizeOf5 (OV.p rfl) (OV.p rfl) rfl rfl rfl (Upd.at_ (by rw [nats_length]; omega)) ?_
      refine WL.nil ?_
      refine WA.done (by kernel_rfl) (fun w h => by repeat (first | exact h | replace h := h.tail)) ?_
      refine WC.region ?_
      refine WL.val (V.addI (OV.p rfl) (OV.p rfl) (fun hc => by first | omega | (simp at hc; omega))) rfl ?_
      refine WL.val (V.move (OV.p rfl)) rfl ?_
      refine WL.nil ?_
      refine ⟨rfl, ?_⟩
      refine ⟨j + 1, (by show j + 1 ≤ m1; omega), (by show m1 - (j + 1) < m1 - j; omega), .cons rfl (.cons rfl (.cons rfl (.cons (look_eq rfl (by simp)) (.nil _)))), fun w h => Sat.cells_eq h ?_⟩
      rw [show 0 + ((j : Int) / 8).toNat * 1 = j / 8 by omega, nats_set, packTo]
    · simp only [decide_eq_true_eq, decide_eq_false_iff_not] at hc0
      refine WC.exit ?_
      refine WC.seq ?_
      obtain rfl : j = m1 := by omega
      have hpp : packTo (pk i 13) j = packP (pk i 13) := by unfold packP; rw [hpl]
      rw [hpp]
      have hppl : (packP (pk i 13)).length = j / 8 + 1 := by unfold packP; rw [packTo_length, hpl]
      refine WC.region ?_
      refine WL.val (V.move (OV.p rfl)) rfl ?_
      refine WL.call (vs := [_]) Try.call71 ⟨OV.p rfl, trivial⟩ (bpoly_norm (xs := packP (pk i 13)) (Seq.allN hppl) (Nat.le_refl _) (by omega)) rfl ?_
      rintro _ H0 ⟨rfl, h0⟩
      subst H0
      refine WL.val (V.assign (OV.p rfl)) rfl ?_
      refine WL.nil ?_
      refine WC.ret ?_
      have hmb : (minB i).length = normLen (packP (pk i 13)) (j / 8 + 1) := by
        unfold minB
        have := normLen_le (packP (pk i 13)) (j / 8 + 1)
        rw [List.length_take, hpl, hppl]; omega
      exact BodyQM.retD (Cells b23 5 (nats .u8 (packP (pk i 13))) :: F) (fun w h => h.sel 3 [1, 0] rfl) (Res.tmp rfl rfl) (fun w h => h) ⟨b23, j / 8 + 1, by rw [hmb]; exact normLen_le _ _, by rw [hpl], by rw [hmb], rfl⟩
end
end Go.Proofs.Ytohkefolnmcjnaa
