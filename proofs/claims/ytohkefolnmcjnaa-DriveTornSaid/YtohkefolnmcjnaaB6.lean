/- bch: words, their sums. -/
import Derived.Test.YtohkefolnmcjnaaB5
import Derived.Test.YtohkefolnmcjnaaG1
namespace Go.Proofs.Ytohkefolnmcjnaa
open Go.Sl Go.RowKit
set_option linter.unusedVariables false
set_option linter.unusedSimpArgs false
set_option maxRecDepth 20000

def clr8 (x j : Nat) : Nat := x &&& (255 ^^^ 2 ^ j)
theorem clr8_code {x j : Nat} (hx : x < 256) (hj : j < 8) : bitsOf .andNot .u8 (x : Int) (IntKind.u8.wrap (1 * 2 ^ (min (j : Int).toNat IntKind.u8.bits))) = (clr8 x j : Nat) ∧ clr8 x j < 256 := by
  have h : ((List.range 256).all fun a => (List.range 8).all fun j => decide (bitsOf .andNot .u8 ((a : Nat) : Int) (IntKind.u8.wrap (1 * 2 ^ (min ((j : Nat) : Int).toNat IntKind.u8.bits))) = (clr8 a j : Nat)) && decide (clr8 a j < 256)) = true := by kernel_rfl
  have h1 := List.all_eq_true.1 h x (List.mem_range.2 hx)
  have h2 := List.all_eq_true.1 h1 j (List.mem_range.2 hj)
  simp only [Bool.and_eq_true, decide_eq_true_eq] at h2
  exact h2
theorem shl8_one {j : Nat} (hj : j < 8) : IntKind.u8.wrap (1 * 2 ^ (min (j : Int).toNat IntKind.u8.bits)) = ((2 ^ j : Nat) : Int) := by
  have h : ((List.range 8).all fun j => decide (IntKind.u8.wrap (1 * 2 ^ (min ((j : Nat) : Int).toNat IntKind.u8.bits)) = ((2 ^ j : Nat) : Int))) = true := by kernel_rfl
  have h1 := List.all_eq_true.1 h j (List.mem_range.2 hj)
  exact of_decide_eq_true h1
theorem pow8_lt {j : Nat} (hj : j < 8) : 2 ^ j < 256 := Nat.pow_lt_pow_right (by decide) (show j < 8 from hj)

/-! ### Words -/
/-- A bit of a word: of t, data, more. -/
def wAt (t : Nat) (d m : List Nat) (i : Nat) : Bool := if 13 * t ≤ i then bitAt d (i - 13 * t) else bitAt m i
def bit1 (b : Bool) : Nat := if b then 1 else 0
/-- From bit i - 1 down. -/
def hor (bit : Nat → Bool) (x : Nat) : Nat → Nat → Nat
  | 0, v => v
  | i + 1, v => hor bit x i (gmul v x ^^^ bit1 (bit i))
def sumsW (t : Nat) (len : Nat) (bit : Nat → Bool) : List Nat := (List.range (2 * t)).map fun k => hor bit (gexp ((k + 1 : Nat) : Int)) len 0
theorem hor_lt {bit : Nat → Bool} {x : Nat} : ∀ (i v : Nat), v < 8192 → hor bit x i v < 8192
  | 0, v, h => h
  | i + 1, v, h => by
    rw [hor]
    refine hor_lt i _ (xor_lt (k := 13) (gmul_lt h) ?_)
    unfold bit1; split <;> decide
/-- What lies behind more's last bit is struck. -/
def maskTo (m : List Nat) (i0 : Nat) : Nat → List Nat
  | 0 => m
  | k + 1 => (maskTo m i0 k).set ((i0 + k) / 8) (clr8 ((maskTo m i0 k).getD ((i0 + k) / 8) 0) ((i0 + k) % 8))
theorem maskTo_length (m : List Nat) (i0 : Nat) : ∀ k, (maskTo m i0 k).length = m.length
  | 0 => rfl
  | k + 1 => by rw [maskTo, List.length_set, maskTo_length]
theorem maskTo_small {m : List Nat} {i0 : Nat} (h : Small 256 m) : ∀ k, Small 256 (maskTo m i0 k)
  | 0 => h
  | k + 1 => by
    have ih := maskTo_small (i0 := i0) h k
    rw [maskTo]
    exact ih.set (clr8_code (ih.at_ (by decide) _) (Nat.mod_lt _ (by decide))).2
def moreLen (t : Nat) : Nat := (13 * t + 7) / 8
def maskM (t : Nat) (m : List Nat) : List Nat := maskTo m (13 * t) (8 * moreLen t - 13 * t)
def flipB (xs : List Nat) (i : Nat) : List Nat := xs.set (i / 8) (xs.getD (i / 8) 0 ^^^ 2 ^ (i % 8))
theorem flipB_length (xs : List Nat) (i : Nat) : (flipB xs i).length = xs.length := by simp [flipB]
theorem flipB_small {xs : List Nat} (h : Small 256 xs) (i : Nat) : Small 256 (flipB xs i) := h.set (xor_lt (k := 8) (h.at_ (by decide) _) (pow8_lt (Nat.mod_lt _ (by decide))))

/-- A word in memory. -/
structure Wd where
  t : Nat
  d : List Nat
  m : List Nat
  (g1 c1 g2 c2 : Nat)
  r1 : List Value
  r2 : List Value
namespace Wd
abbrev cells (W : Wd) : List Value := [.int .i64 (W.t : Int), .slice (some ⟨W.g1, 0, none⟩) W.d.length W.c1, .slice (some ⟨W.g2, 0, none⟩) W.m.length W.c2]
abbrev parts (bw : Nat) (W : Wd) : List Assn := [Cells bw 102 W.cells, Cells W.g1 5 (nats .u8 W.d ++ W.r1), Cells W.g2 5 (nats .u8 W.m ++ W.r2)]
structure Ok (W : Wd) : Prop where
  t : 1 ≤ W.t ∧ W.t ≤ 8
  d : 1 ≤ W.d.length ∧ W.d.length ≤ 512
  m : W.m.length = moreLen W.t
  ds : Small 256 W.d
  ms : Small 256 W.m
def len (W : Wd) : Nat := 13 * W.t + 8 * W.d.length
def bit (W : Wd) (i : Nat) : Bool := wAt W.t W.d W.m i
def flip (W : Wd) (i : Nat) : Wd := if 13 * W.t ≤ i then { W with d := flipB W.d (i - 13 * W.t) } else { W with m := flipB W.m i }
theorem Ok.flip {W : Wd} (h : W.Ok) (i : Nat) : (W.flip i).Ok := by
  unfold Wd.flip
  split
  · exact ⟨h.t, by show 1 ≤ (flipB _ _).length ∧ (flipB _ _).length ≤ 512; rw [flipB_length]; exact h.d, h.m, flipB_small h.ds _, h.ms⟩
  · exact ⟨h.t, h.d, by show (flipB _ _).length = _; rw [flipB_length]; exact h.m, h.ds, flipB_small h.ms _⟩
end Wd
theorem nats_getA (k : IntKind) (xs : List Nat) (r : List Value) {i : Nat} (h : i < xs.length) : (nats k xs ++ r)[i]? = some (.int k (xs.getD i 0 : Nat)) := by
  rw [List.getElem?_append_left (by rw [nats_length]; exact h)]; exact nats_get k xs h
theorem nats_setA (k : IntKind) (xs : List Nat) (r : List Value) {i x : Nat} (h : i < xs.length) : (nats k xs ++ r).set i (.int k (x : Int)) = nats k (xs.set i x) ++ r := by
  rw [List.set_append, if_pos (by rw [nats_length]; exact h), nats_set]

section
variable {K : World} {F : List Assn}
theorem bch_size {A : Option Addr} {t m cap : Nat} (ht : 1 ≤ t ∧ t ≤ 8) (hm : 1 ≤ m ∧ m ≤ 512) : Tells Try.prog 57 #[.int .i64 (t : Int), .slice A m cap] K F (.tuple #[.int .i64 (moreLen t : Nat), .int .i64 0]) := by
  refine Does.enter Try.func57 rfl Try.ntmps57 rfl ?_
  simp only [env0, Nat.reduceAdd]
  refine WC.seq ?_
  refine WC.region ?_
  refine WL.val (V.assign (OV.p rfl)) rfl ?_
  refine WL.val (V.assign (OV.p rfl)) rfl ?_
  refine WL.nil ?_
  refine WC.seq ?_
  refine WC.region ?_
  refine WL.val (V.move (OV.p rfl)) rfl ?_
  refine WL.call (vs := [_]) Try.call56 ⟨OV.p rfl, trivial⟩ (bch_Bits t (by omega) _ _) rfl ?_
  rintro _ H0 ⟨rfl, h0⟩
  subst H0
  refine WL.val (V.move (OV.p rfl)) rfl ?_
  refine WL.val (V.extract (OV.p rfl) rfl) rfl ?_
  refine WL.val (V.extract (OV.p rfl) rfl) rfl ?_
  refine WL.val (V.assign (OV.p rfl)) rfl ?_
  refine WL.val (V.assign (OV.p rfl)) rfl ?_
  refine WL.nil ?_
  refine WC.seq ?_
  refine WC.seq ?_
  refine WC.region ?_
  refine WL.val (V.move (OV.p rfl)) rfl ?_
  refine WL.val (V.eql (OV.p rfl) (OV.p rfl)) rfl ?_
  refine WL.val (V.move (OV.p rfl)) rfl ?_
  refine WL.valG (oj := _) rfl rfl rfl GC.t (V.move (OV.p rfl)) rfl ?_
  refine WL.valG (oj := _) rfl rfl rfl GC.t (V.len (t := 24) Try.runUnderlying24 (OV.g rfl id)) rfl ?_
  refine WL.valG (oj := _) rfl rfl rfl GC.t (V.lss (OV.g rfl id) (OV.p rfl)) rfl ?_
  refine WL.valG (oj := _) rfl rfl rfl GC.t (V.move (OV.g rfl id)) rfl ?_
  refine WL.valG (oj := _) rfl rfl rfl GC.cf (V.move (OV.p rfl)) rfl ?_
  refine WL.valG (oj := _) rfl rfl rfl GC.cf (V.len (t := 24) Try.runUnderlying24 (OV.g rfl id)) rfl ?_
  refine WL.valG (oj := _) rfl rfl rfl GC.cf (V.gtr (OV.g rfl id) (OV.p rfl)) rfl ?_
  refine WL.valG (oj := _) rfl rfl rfl GC.t (V.pickOr (OV.g rfl id) (OV.g rfl id)) rfl ?_
  refine WL.val (V.pickAnd (OV.p rfl) (OV.g rfl id)) rfl ?_
  refine WL.nil ?_
  refine WC.condF' rfl ((by simp; omega)) ?_
  refine WC.skip ?_
  refine WC.seq ?_
  refine WC.region ?_
  refine WL.val (V.move (OV.p rfl)) rfl ?_
  refine WL.val (V.addI (OV.p rfl) (OV.p rfl) (fun hc => by first | omega | (simp at hc; omega))) rfl ?_
  refine WL.val (V.quoI (OV.p rfl) (OV.p rfl) (fun hc => by first | omega | (simp at hc; omega))) rfl ?_
  refine WL.val (V.move (OV.p rfl)) rfl ?_
  refine WL.val (V.assign (OV.p rfl)) rfl ?_
  refine WL.val (V.assign (OV.p rfl)) rfl ?_
  refine WL.nil ?_
  refine WC.ret ?_
  refine BodyQ.ret (H' := F) (Res.tmp2 rfl rfl rfl) (fun w h => h) ⟨?_, rfl⟩
  unfold moreLen
  simp
theorem word_len {bw : Nat} {W : Wd} (h : W.Ok) (hR : Rds K F bw 0 W.cells) : Tells Try.prog 65 #[ptr bw 0] K F (.int .i64 (W.len : Nat)) := by
  have h1 := h.t
  have h2 := h.d
  have e0 : Rd K F (some ⟨bw, 0, none⟩) (.int .i64 (W.t : Int)) := hR 0 _ rfl
  have e1 : Rd K F (some ⟨bw, 1, none⟩) (.slice (some ⟨W.g1, 0, none⟩) W.d.length W.c1) := hR 1 _ rfl
  refine Does.enter Try.func65 rfl Try.ntmps65 rfl ?_
  simp only [env0, Nat.reduceAdd]
  refine WC.seq ?_
  refine WC.region ?_
  refine WL.val (V.assign (OV.p rfl)) rfl ?_
  refine WL.nil ?_
  refine WC.seq ?_
  refine WC.regionQ (by kernel_rfl) (by kernel_rfl) ?_
  refine WQ.val (V.move (OV.p rfl)) rfl ?_
  refine WQ.val (V.nilCheck (OV.p rfl)) rfl ?_
  refine WQ.val (V.fieldAddr fo102_0 (OV.p rfl)) rfl ?_
  refine WQ.val (V.load Try.isAgg3 (OV.p rfl) (fun hc => e0)) rfl ?_
  refine WQ.val (V.mulI (OV.p rfl) (OV.p rfl) (fun hc => by first | omega | (simp at hc; omega))) rfl ?_
  refine WQ.val (V.move (OV.p rfl)) rfl ?_
  refine WQ.val (V.nilCheck (OV.p rfl)) rfl ?_
  refine WQ.val (V.fieldAddr fo102_1 (OV.p rfl)) rfl ?_
  refine WQ.val (V.load Try.isAgg24 (OV.p rfl) (fun hc => e1)) rfl ?_
  refine WQ.val (V.len (t := 24) Try.runUnderlying24 (OV.p rfl)) rfl ?_
  refine WQ.val (V.mulI (OV.p rfl) (OV.p rfl) (fun hc => by first | omega | (simp at hc; omega))) rfl ?_
  refine WQ.val (V.addI (OV.p rfl) (OV.p rfl) (fun hc => by first | omega | (simp at hc; omega))) rfl ?_
  refine WQ.val (V.assign (OV.p rfl)) rfl ?_
  refine WQ.nil ?_
  refine WC.ret ?_
  refine BodyQ.ret (H' := F) (Res.tmp rfl rfl) (fun w h => h) ⟨?_, rfl⟩
  unfold Wd.len
  simp
theorem word_at {bw : Nat} {W : Wd} (h : W.Ok) {i : Nat} (hi : i < W.len) (hR : Rds K F bw 0 W.cells) (hd : Seq K F (some ⟨W.g1, 0, none⟩) W.d.length 1 (nats .u8 W.d)) (hm : Seq K F (some ⟨W.g2, 0, none⟩) W.m.length 1 (nats .u8 W.m)) :
    Tells Try.prog 78 #[ptr bw 0, .int .i64 (i : Int)] K F (.bool (W.bit i)) := by
  have h1 := h.t
  have h2 := h.d
  have h3 := h.m
  unfold moreLen at h3
  unfold Wd.len at hi
  have e0 : Rd K F (some ⟨bw, 0, none⟩) (.int .i64 (W.t : Int)) := hR 0 _ rfl
  have e1 : Rd K F (some ⟨bw, 1, none⟩) (.slice (some ⟨W.g1, 0, none⟩) W.d.length W.c1) := hR 1 _ rfl
  have e2 : Rd K F (some ⟨bw, 2, none⟩) (.slice (some ⟨W.g2, 0, none⟩) W.m.length W.c2) := hR 2 _ rfl
  have key : ∀ (xs : List Nat) (j : Nat), decide ((((xs.getD (j / 8) 0 / 2 ^ (j % 8) % 2 : Nat) : Int)) = 1) = bitAt xs j := fun xs j => by
    unfold bitAt
    rw [Nat.testBit_eq_decide_div_mod_eq]
    apply decide_eq_decide.2
    omega
  refine Does.enter Try.func78 rfl Try.ntmps78 rfl ?_
  simp only [env0, Nat.reduceAdd]
  refine WC.seq ?_
  refine WC.region ?_
  refine WL.val (V.assign (OV.p rfl)) rfl ?_
  refine WL.nil ?_
  refine WC.seq ?_
  refine WC.seq ?_
  refine WC.region ?_
  refine WL.val (V.move (OV.p rfl)) rfl ?_
  refine WL.val (V.move (OV.p rfl)) rfl ?_
  refine WL.val (V.nilCheck (OV.p rfl)) rfl ?_
  refine WL.val (V.fieldAddr fo102_0 (OV.p rfl)) rfl ?_
  refine WL.val (V.load Try.isAgg3 (OV.p rfl) (fun hc => e0)) rfl ?_
  refine WL.val (V.mulI (OV.p rfl) (OV.p rfl) (fun hc => by first | omega | (simp at hc; omega))) rfl ?_
  refine WL.val (V.subI (OV.p rfl) (OV.p rfl) (fun hc => by first | omega | (simp at hc; omega))) rfl ?_
  refine WL.val (V.assign (OV.p rfl)) rfl ?_
  refine WL.nil ?_
  refine WC.seq ?_
  refine WC.region ?_
  refine WL.val (V.move (OV.p rfl)) rfl ?_
  refine WL.val (V.geq (OV.p rfl) (OV.p rfl)) rfl ?_
  refine WL.nil ?_
  refine WC.cond rfl (fun hc0 => ?_) (fun hc0 => ?_)
  · simp only [decide_eq_true_eq, decide_eq_false_iff_not] at hc0
    refine WC.seq ?_
    obtain ⟨k, hk⟩ : ∃ k, k = i - 13 * W.t := ⟨_, rfl⟩
    have hki : (i : Int) - 13 * (W.t : Int) = (k : Int) := by omega
    rw [hki]
    have hrd : Rd K F (some ⟨W.g1, 0 + ((k : Int) / 8).toNat * 1, none⟩) (.int .u8 (W.d.getD (k / 8) 0 : Nat)) := by
      have := hd.nat_rd (j := k / 8) (by omega)
      rw [show 0 + ((k : Int) / 8).toNat * 1 = 0 + k / 8 * 1 by omega]
      simpa [add_mk] using this
    have hb := h.ds.at_ (by decide) (k / 8)
    refine WC.region ?_
    refine WL.val (V.move (OV.p rfl)) rfl ?_
    refine WL.val (V.nilCheck (OV.p rfl)) rfl ?_
    refine WL.val (V.fieldAddr fo102_1 (OV.p rfl)) rfl ?_
    refine WL.val (V.load Try.isAgg24 (OV.p rfl) (fun hc => e1)) rfl ?_
    refine WL.val (V.move (OV.p rfl)) rfl ?_
    refine WL.val (V.quoI (OV.p rfl) (OV.p rfl) (fun hc => by first | omega | (simp at hc; omega))) rfl ?_
    refine WL.val (V.idxB st24 (OV.p rfl) (OV.p rfl) (fun hc => by omega)) rfl ?_
    refine WL.val (V.load Try.isAgg5 (OV.p rfl) (fun hc => hrd)) rfl ?_
    refine WL.val (V.move (OV.p rfl)) rfl ?_
    refine WL.val (V.val_eq (v' := .int .i64 ((k % 8 : Nat) : Int)) (V.remI (OV.p rfl) (OV.p rfl) (fun _ => by omega)) (fun _ => by simp)) rfl ?_
    refine WL.val (V.val_eq (v' := .int .u8 ((W.d.getD (k / 8) 0 / 2 ^ (k % 8) : Nat) : Int)) (V.shr (OV.p rfl) (OV.p rfl) (by omega)) (fun _ => by rw [shr_nat (by show k % 8 ≤ 8; omega)])) rfl ?_
    refine WL.val (V.val_eq (v' := .int .u8 ((W.d.getD (k / 8) 0 / 2 ^ (k % 8) % 2 : Nat) : Int)) (V.and (OV.p rfl) (OV.p rfl)) (fun _ => by rw [and_u8_one (Nat.lt_of_le_of_lt (Nat.div_le_self _ _) hb)])) rfl ?_
    refine WL.val (V.eql (OV.p rfl) (OV.p rfl)) rfl ?_
    refine WL.val (V.assign (OV.p rfl)) rfl ?_
    refine WL.nil ?_
    refine WC.ret ?_
    refine BodyQ.ret (H' := F) (Res.tmp rfl rfl) (fun w h => h) ⟨?_, rfl⟩
    rw [key]; unfold Wd.bit wAt; rw [if_pos (by omega), ← hk]
  · simp only [decide_eq_true_eq, decide_eq_false_iff_not] at hc0
    refine WC.skip ?_
    refine WC.seq ?_
    have hrd : Rd K F (some ⟨W.g2, 0 + ((i : Int) / 8).toNat * 1, none⟩) (.int .u8 (W.m.getD (i / 8) 0 : Nat)) := by
      have := hm.nat_rd (j := i / 8) (by omega)
      rw [show 0 + ((i : Int) / 8).toNat * 1 = 0 + i / 8 * 1 by omega]
      simpa [add_mk] using this
    have hb := h.ms.at_ (by decide) (i / 8)
    refine WC.region ?_
    refine WL.val (V.move (OV.p rfl)) rfl ?_
    refine WL.val (V.nilCheck (OV.p rfl)) rfl ?_
    refine WL.val (V.fieldAddr fo102_2 (OV.p rfl)) rfl ?_
    refine WL.val (V.load Try.isAgg24 (OV.p rfl) (fun hc => e2)) rfl ?_
    refine WL.val (V.move (OV.p rfl)) rfl ?_
    refine WL.val (V.quoI (OV.p rfl) (OV.p rfl) (fun hc => by first | omega | (simp at hc; omega))) rfl ?_
    refine WL.val (V.idxB st24 (OV.p rfl) (OV.p rfl) (fun hc => by omega)) rfl ?_
    refine WL.val (V.load Try.isAgg5 (OV.p rfl) (fun hc => hrd)) rfl ?_
    refine WL.val (V.move (OV.p rfl)) rfl ?_
    refine WL.val (V.val_eq (v' := .int .i64 ((i % 8 : Nat) : Int)) (V.remI (OV.p rfl) (OV.p rfl) (fun _ => by omega)) (fun _ => by simp)) rfl ?_
    refine WL.val (V.val_eq (v' := .int .u8 ((W.m.getD (i / 8) 0 / 2 ^ (i % 8) : Nat) : Int)) (V.shr (OV.p rfl) (OV.p rfl) (by omega)) (fun _ => by rw [shr_nat (by show i % 8 ≤ 8; omega)])) rfl ?_
    refine WL.val (V.val_eq (v' := .int .u8 ((W.m.getD (i / 8) 0 / 2 ^ (i % 8) % 2 : Nat) : Int)) (V.and (OV.p rfl) (OV.p rfl)) (fun _ => by rw [and_u8_one (Nat.lt_of_le_of_lt (Nat.div_le_self _ _) hb)])) rfl ?_
    refine WL.val (V.eql (OV.p rfl) (OV.p rfl)) rfl ?_
    refine WL.val (V.assign (OV.p rfl)) rfl ?_
    refine WL.nil ?_
    refine WC.ret ?_
    refine BodyQ.ret (H' := F) (Res.tmp rfl rfl) (fun w h => h) ⟨?_, rfl⟩
    rw [key]; unfold Wd.bit wAt; rw [if_neg (by omega)]
theorem word_flip {bw : Nat} {W : Wd} (h : W.Ok) {i : Nat} (hi : i < W.len) :
    Does Try.prog 68 #[ptr bw 0, .int .i64 (i : Int)] K (W.parts bw ++ F) (fun v H' => H' = (W.flip i).parts bw ++ F) := by
  have h1 := h.t
  have h2 := h.d
  have h3 := h.m
  unfold moreLen at h3
  unfold Wd.len at hi
  dsimp only [Wd.parts, List.cons_append, List.nil_append]
  refine Does.enter Try.func68 rfl Try.ntmps68 rfl ?_
  simp only [env0, Nat.reduceAdd]
  refine WC.seq ?_
  refine WC.region ?_
  refine WL.val (V.move (OV.p rfl)) rfl ?_
  refine WL.val (V.move (OV.p rfl)) rfl ?_
  refine WL.val (V.nilCheck (OV.p rfl)) rfl ?_
  refine WL.val (V.fieldAddr fo102_0 (OV.p rfl)) rfl ?_
  refine WL.val (V.load Try.isAgg3 (OV.p rfl) (fun _ => by repeat (first | exact Rd.here rfl | apply Rd.up))) rfl ?_
  refine WL.val (V.mulI (OV.p rfl) (OV.p rfl) (fun hc => by first | omega | (simp at hc; omega))) rfl ?_
  refine WL.val (V.subI (OV.p rfl) (OV.p rfl) (fun hc => by first | omega | (simp at hc; omega))) rfl ?_
  refine WL.val (V.assign (OV.p rfl)) rfl ?_
  refine WL.nil ?_
  refine WC.seq ?_
  refine WC.region ?_
  refine WL.val (V.move (OV.p rfl)) rfl ?_
  refine WL.val (V.geq (OV.p rfl) (OV.p rfl)) rfl ?_
  refine WL.nil ?_
  refine WC.cond rfl (fun hc0 => ?_) (fun hc0 => ?_)
  · simp only [decide_eq_true_eq, decide_eq_false_iff_not] at hc0
    obtain ⟨k, hk⟩ : ∃ k, k = i - 13 * W.t := ⟨_, rfl⟩
    have hki : (i : Int) - 13 * (W.t : Int) = (k : Int) := by omega
    rw [hki]
    have hg1 : (nats .u8 W.d ++ W.r1)[0 + ((k : Int) / 8).toNat * 1]? = some (.int .u8 (W.d.getD (k / 8) 0 : Nat)) := by rw [show 0 + ((k : Int) / 8).toNat * 1 = k / 8 by omega]; exact nats_getA _ _ _ (by omega)
    have hb := h.ds.at_ (by decide) (k / 8)
    have hWf : W.flip i = { W with d := flipB W.d k } := by unfold Wd.flip; rw [if_pos (by omega), ← hk]
    refine WC.sub (Sub.refl _) (fun w h => h.p1) ?_
    refine WC.regionA (Cells bw 102 W.cells :: Cells W.g2 5 (nats .u8 W.m ++ W.r2) :: F) (by kernel_rfl) ?_
    refine WA.take 0 (fun w h => by repeat (first | exact h | replace h := h.tail)) rfl (by kernel_rfl) (by kernel_rfl) (by kernel_rfl) (fun _ _ _ h => h) (V.move (OV.p rfl)) rfl ?_
    refine WA.take 1 (fun w h => by repeat (first | exact h | replace h := h.tail)) rfl (by kernel_rfl) (by kernel_rfl) (by kernel_rfl) (fun _ _ _ h => h) (V.nilCheck (OV.p rfl)) rfl ?_
    refine WA.take 2 (fun w h => by repeat (first | exact h | replace h := h.tail)) rfl (by kernel_rfl) (by kernel_rfl) (by kernel_rfl) (fun _ _ _ h => h) (V.fieldAddr fo102_1 (OV.p rfl)) rfl ?_
    refine WA.take 3 (fun w h => by repeat (first | exact h | replace h := h.tail)) rfl (by kernel_rfl) (by kernel_rfl) (by kernel_rfl) (fun _ _ _ h => h) (V.load Try.isAgg24 (OV.p rfl) (fun _ => by repeat (first | exact Rd.here rfl | apply Rd.up))) rfl ?_
    refine WA.take 4 (fun w h => by repeat (first | exact h | replace h := h.tail)) rfl (by kernel_rfl) (by kernel_rfl) (by kernel_rfl) (fun _ _ _ h => h) (V.move (OV.p rfl)) rfl ?_
    refine WA.take 5 (fun w h => by repeat (first | exact h | replace h := h.tail)) rfl (by kernel_rfl) (by kernel_rfl) (by kernel_rfl) (fun _ _ _ h => h) (V.quoI (OV.p rfl) (OV.p rfl) (fun hc => by first | omega | (simp at hc; omega))) rfl ?_
    refine WA.take 6 (fun w h => by repeat (first | exact h | replace h := h.tail)) rfl (by kernel_rfl) (by kernel_rfl) (by kernel_rfl) (fun _ _ _ h => h) (V.idxB st24 (OV.p rfl) (OV.p rfl) (fun hc => by omega)) rfl ?_
    refine WA.take 8 (fun w h => by repeat (first | exact h | replace h := h.tail)) rfl (by kernel_rfl) (by kernel_rfl) (by kernel_rfl) (fun _ _ _ h => h) (V.move (OV.p rfl)) rfl ?_
    refine WA.take 9 (fun w h => by repeat (first | exact h | replace h := h.tail)) rfl (by kernel_rfl) (by kernel_rfl) (by kernel_rfl) (fun _ _ _ h => h) (V.val_eq (v' := .int .i64 ((k % 8 : Nat) : Int)) (V.remI (OV.p rfl) (OV.p rfl) (fun _ => by omega)) (fun _ => by simp)) rfl ?_
    refine WA.take 10 (fun w h => by repeat (first | exact h | replace h := h.tail)) rfl (by kernel_rfl) (by kernel_rfl) (by kernel_rfl) (fun _ _ _ h => h) (V.val_eq (v' := .int .u8 ((2 ^ (k % 8) : Nat) : Int)) (V.shl (OV.p rfl) (OV.p rfl) (by omega)) (fun _ => by rw [shl8_one (by omega)])) rfl ?_
    refine WA.one (i := 7) (fun w h => by repeat (first | exact h | replace h := h.tail)) (by kernel_rfl) rfl ?_
    refine WL.val (V.load Try.isAgg5 (OV.p rfl) (fun hc => by repeat (first | exact Rd.here hg1 | apply Rd.up))) rfl ?_
    refine WL.nil ?_
    refine WA.take 11 (fun w h => by repeat (first | exact h | replace h := h.tail)) rfl (by kernel_rfl) (by kernel_rfl) (by kernel_rfl) (fun _ _ _ h => h) (V.val_eq (v' := .int .u8 ((W.d.getD (k / 8) 0 ^^^ 2 ^ (k % 8) : Nat) : Int)) (V.xor (OV.p rfl) (OV.p rfl)) (fun _ => by rw [xor_u8 hb (pow8_lt (by omega))])) rfl ?_
    refine WA.take 12 (fun w h => by repeat (first | exact h | replace h := h.tail)) rfl (by kernel_rfl) (by kernel_rfl) (by kernel_rfl) (fun _ _ _ h => h) (V.idxB st24 (OV.p rfl) (OV.p rfl) (fun hc => by omega)) rfl ?_
    refine WA.one (i := 13) (fun w h => by repeat (first | exact h | replace h := h.tail)) (by kernel_rfl) rfl ?_
    refine WL.store (cs := [_]) Try.sizeOf5 (OV.p rfl) (OV.p rfl) rfl rfl rfl (Upd.at_ (by rw [List.length_append, nats_length]; omega)) ?_
    refine WL.nil ?_
    refine WA.done (by kernel_rfl) (fun w h => by repeat (first | exact h | replace h := h.tail)) ?_
    first
    | (refine BodyQ.normal (H' := (W.flip i).parts bw ++ F) (Res.none rfl) (fun w h => ?_) rfl
       rw [hWf]
       rw [show 0 + ((k : Int) / 8).toNat * 1 = k / 8 by omega, nats_setA _ _ _ (by omega)] at h
       have h' := h.p1
       dsimp only [Wd.parts, Wd.cells, List.cons_append, List.nil_append]
       rw [flipB_length]
       exact h')
    | (refine BodyQ.normal (H' := (W.flip i).parts bw ++ F) (Res.none rfl) (fun w h => ?_) rfl
       rw [hWf]
       rw [show 0 + ((i : Int) / 8).toNat * 1 = i / 8 by omega, nats_setA _ _ _ (by omega)] at h
       have h' := h.sel 3 [1, 2, 0] rfl
       dsimp only [Wd.parts, Wd.cells, List.cons_append, List.nil_append]
       rw [flipB_length]
       exact h')
  · simp only [decide_eq_true_eq, decide_eq_false_iff_not] at hc0
    have hWf : W.flip i = { W with m := flipB W.m i } := by unfold Wd.flip; rw [if_neg (by omega)]
    have hg1 : (nats .u8 W.m ++ W.r2)[0 + ((i : Int) / 8).toNat * 1]? = some (.int .u8 (W.m.getD (i / 8) 0 : Nat)) := by rw [show 0 + ((i : Int) / 8).toNat * 1 = i / 8 by omega]; exact nats_getA _ _ _ (by omega)
    have hb := h.ms.at_ (by decide) (i / 8)
    refine WC.sub (Sub.refl _) (fun w h => h.p2) ?_
    refine WC.regionA (Cells bw 102 W.cells :: Cells W.g1 5 (nats .u8 W.d ++ W.r1) :: F) (by kernel_rfl) ?_
    refine WA.take 0 (fun w h => by repeat (first | exact h | replace h := h.tail)) rfl (by kernel_rfl) (by kernel_rfl) (by kernel_rfl) (fun _ _ _ h => h) (V.move (OV.p rfl)) rfl ?_
    refine WA.take 1 (fun w h => by repeat (first | exact h | replace h := h.tail)) rfl (by kernel_rfl) (by kernel_rfl) (by kernel_rfl) (fun _ _ _ h => h) (V.nilCheck (OV.p rfl)) rfl ?_
    refine WA.take 2 (fun w h => by repeat (first | exact h | replace h := h.tail)) rfl (by kernel_rfl) (by kernel_rfl) (by kernel_rfl) (fun _ _ _ h => h) (V.fieldAddr fo102_2 (OV.p rfl)) rfl ?_
    refine WA.take 3 (fun w h => by repeat (first | exact h | replace h := h.tail)) rfl (by kernel_rfl) (by kernel_rfl) (by kernel_rfl) (fun _ _ _ h => h) (V.load Try.isAgg24 (OV.p rfl) (fun _ => by repeat (first | exact Rd.here rfl | apply Rd.up))) rfl ?_
    refine WA.take 4 (fun w h => by repeat (first | exact h | replace h := h.tail)) rfl (by kernel_rfl) (by kernel_rfl) (by kernel_rfl) (fun _ _ _ h => h) (V.move (OV.p rfl)) rfl ?_
    refine WA.take 5 (fun w h => by repeat (first | exact h | replace h := h.tail)) rfl (by kernel_rfl) (by kernel_rfl) (by kernel_rfl) (fun _ _ _ h => h) (V.quoI (OV.p rfl) (OV.p rfl) (fun hc => by first | omega | (simp at hc; omega))) rfl ?_
    refine WA.take 6 (fun w h => by repeat (first | exact h | replace h := h.tail)) rfl (by kernel_rfl) (by kernel_rfl) (by kernel_rfl) (fun _ _ _ h => h) (V.idxB st24 (OV.p rfl) (OV.p rfl) (fun hc => by omega)) rfl ?_
    refine WA.take 8 (fun w h => by repeat (first | exact h | replace h := h.tail)) rfl (by kernel_rfl) (by kernel_rfl) (by kernel_rfl) (fun _ _ _ h => h) (V.move (OV.p rfl)) rfl ?_
    refine WA.take 9 (fun w h => by repeat (first | exact h | replace h := h.tail)) rfl (by kernel_rfl) (by kernel_rfl) (by kernel_rfl) (fun _ _ _ h => h) (V.val_eq (v' := .int .i64 ((i % 8 : Nat) : Int)) (V.remI (OV.p rfl) (OV.p rfl) (fun _ => by omega)) (fun _ => by simp)) rfl ?_
    refine WA.take 10 (fun w h => by repeat (first | exact h | replace h := h.tail)) rfl (by kernel_rfl) (by kernel_rfl) (by kernel_rfl) (fun _ _ _ h => h) (V.val_eq (v' := .int .u8 ((2 ^ (i % 8) : Nat) : Int)) (V.shl (OV.p rfl) (OV.p rfl) (by omega)) (fun _ => by rw [shl8_one (by omega)])) rfl ?_
    refine WA.one (i := 7) (fun w h => by repeat (first | exact h | replace h := h.tail)) (by kernel_rfl) rfl ?_
    refine WL.val (V.load Try.isAgg5 (OV.p rfl) (fun hc => by repeat (first | exact Rd.here hg1 | apply Rd.up))) rfl ?_
    refine WL.nil ?_
    refine WA.take 11 (fun w h => by repeat (first | exact h | replace h := h.tail)) rfl (by kernel_rfl) (by kernel_rfl) (by kernel_rfl) (fun _ _ _ h => h) (V.val_eq (v' := .int .u8 ((W.m.getD (i / 8) 0 ^^^ 2 ^ (i % 8) : Nat) : Int)) (V.xor (OV.p rfl) (OV.p rfl)) (fun _ => by rw [xor_u8 hb (pow8_lt (by omega))])) rfl ?_
    refine WA.take 12 (fun w h => by repeat (first | exact h | replace h := h.tail)) rfl (by kernel_rfl) (by kernel_rfl) (by kernel_rfl) (fun _ _ _ h => h) (V.idxB st24 (OV.p rfl) (OV.p rfl) (fun hc => by omega)) rfl ?_
    refine WA.one (i := 13) (fun w h => by repeat (first | exact h | replace h := h.tail)) (by kernel_rfl) rfl ?_
    refine WL.store (cs := [_]) Try.sizeOf5 (OV.p rfl) (OV.p rfl) rfl rfl rfl (Upd.at_ (by rw [List.length_append, nats_length]; omega)) ?_
    refine WL.nil ?_
    refine WA.done (by kernel_rfl) (fun w h => by repeat (first | exact h | replace h := h.tail)) ?_
    first
    | (refine BodyQ.normal (H' := (W.flip i).parts bw ++ F) (Res.none rfl) (fun w h => ?_) rfl
       rw [hWf]
       rw [show 0 + ((k : Int) / 8).toNat * 1 = k / 8 by omega, nats_setA _ _ _ (by omega)] at h
       have h' := h.p1
       dsimp only [Wd.parts, Wd.cells, List.cons_append, List.nil_append]
       rw [flipB_length]
       exact h')
    | (refine BodyQ.normal (H' := (W.flip i).parts bw ++ F) (Res.none rfl) (fun w h => ?_) rfl
       rw [hWf]
       rw [show 0 + ((i : Int) / 8).toNat * 1 = i / 8 by omega, nats_setA _ _ _ (by omega)] at h
       have h' := h.sel 3 [1, 2, 0] rfl
       dsimp only [Wd.parts, Wd.cells, List.cons_append, List.nil_append]
       rw [flipB_length]
       exact h')
theorem hor_code {bit : Nat → Bool} {x i v : Nat} : hor bit x (i + 1) v = hor bit x i (gmul v x ^^^ bit1 (bit i)) := rfl
theorem word_sums {bw : Nat} {W : Wd} (h : W.Ok) (hR : Rds K F bw 0 W.cells) (hd : Seq K F (some ⟨W.g1, 0, none⟩) W.d.length 1 (nats .u8 W.d)) (hm : Seq K F (some ⟨W.g2, 0, none⟩) W.m.length 1 (nats .u8 W.m)) :
    Does Try.prog 64 #[ptr bw 0] K F (fun v H' => ∃ g, v = .slice (some ⟨g, 0, none⟩) (2 * W.t) (2 * W.t) ∧ H' = Cells g 3 (nats .i64 (sumsW W.t W.len W.bit)) :: F) := by
  have h1 := h.t
  have h2 := h.d
  have e0 : Rd K F (some ⟨bw, 0, none⟩) (.int .i64 (W.t : Int)) := hR 0 _ rfl
  have hlen : W.len ≤ 4200 := by unfold Wd.len; omega
  have hlen0 : 0 < W.len := by unfold Wd.len; omega
  have hRu : ∀ {X : Assn}, Rds K (X :: F) bw 0 W.cells := fun {X} => hR.up
  refine Does.enter Try.func64 rfl Try.ntmps64 rfl ?_
  simp only [env0, Nat.reduceAdd]
  refine WC.seq ?_
  refine WC.region ?_
  refine WL.val (V.assign (OV.p rfl)) rfl ?_
  refine WL.nil ?_
  refine WC.seq ?_
  refine WC.region ?_
  refine WL.val (V.move (OV.p rfl)) rfl ?_
  refine WL.val (V.nilCheck (OV.p rfl)) rfl ?_
  refine WL.val (V.fieldAddr fo102_0 (OV.p rfl)) rfl ?_
  refine WL.val (V.load Try.isAgg3 (OV.p rfl) (fun hc => e0)) rfl ?_
  refine WL.val (V.mulI (OV.p rfl) (OV.p rfl) (fun hc => by first | omega | (simp at hc; omega))) rfl ?_
  refine WL.make1 (m := 2 * W.t) Try.underlying39 el3 (OV.p rfl) (OV.p rfl) (by omega) (by omega) (by omega) rfl rfl rfl (fun b13 => ?_)
  refine WL.val (V.assign (OV.p rfl)) rfl ?_
  refine WL.nil ?_
  refine WC.seq ?_
  refine WC.seq ?_
  refine WC.region ?_
  refine WL.val (V.move (OV.p rfl)) rfl ?_
  refine WL.val (V.len (t := 39) Try.runUnderlying39 (OV.p rfl)) rfl ?_
  refine WL.val (V.move (OV.p rfl)) rfl ?_
  refine WL.nil ?_
  refine WC.block ?_
  refine WC.loop (σ := Nat) (fun k => [(0, ptr bw 0), (3, .slice (some ⟨b13, 0, none⟩) (2 * W.t) (2 * W.t)), (15, .int .i64 ((2 * W.t : Nat) : Int)), (16, .int .i64 (k : Int))]) (fun k => Cells b13 3 (nats .i64 ((sumsW W.t W.len W.bit).take k ++ List.replicate (2 * W.t - k) 0)) :: F) (fun k => k ≤ 2 * W.t) (fun k => 2 * W.t - k) 0 (Nat.zero_le _) (.cons rfl (.cons rfl (.cons rfl (.cons rfl (.nil _))))) (fun w h => Sat.cells_eq h (by simp [nats_replicate])) ?_
  rintro k hk
  refine WC.seq ?_
  refine WC.region ?_
  refine WL.val (V.lss (OV.p rfl) (OV.p rfl)) rfl ?_
  refine WL.nil ?_
  refine WC.seq ?_
  refine WC.cond rfl (fun hc0 => ?_) (fun hc0 => ?_)
  · simp only [decide_eq_true_eq, decide_eq_false_iff_not] at hc0
    refine WC.skip ?_
    refine WC.seq ?_
    refine WC.block ?_
    refine WC.seq ?_
    refine WC.region ?_
    refine WL.val (V.move (OV.p rfl)) rfl ?_
    refine WL.val (V.assign (OV.p rfl)) rfl ?_
    refine WL.nil ?_
    refine WC.seq ?_
    have hkt : k < 2 * W.t := by omega
    refine WC.region ?_
    refine WL.val (V.move (OV.p rfl)) rfl ?_
    refine WL.val (V.val_eq (v' := .int .i64 ((k + 1 : Nat) : Int)) (V.addI (OV.p rfl) (OV.p rfl) (fun _ => by omega)) (fun _ => by simp)) rfl ?_
    refine WL.call (vs := [_]) Try.call66 ⟨OV.p rfl, trivial⟩ (gf_Exp _ (by omega)) rfl ?_
    rintro _ H0 ⟨rfl, h0⟩
    subst H0
    refine WL.val (V.assign (OV.p rfl)) rfl ?_
    refine WL.val (V.assign (OV.p rfl)) rfl ?_
    refine WL.nil ?_
    refine WC.seq ?_
    refine WC.seq ?_
    refine WC.region ?_
    refine WL.val (V.move (OV.p rfl)) rfl ?_
    refine WL.call (vs := [_]) Try.call65 ⟨OV.p rfl, trivial⟩ (word_len h hRu) rfl ?_
    rintro _ H0 ⟨rfl, h0⟩
    subst H0
    refine WL.val (V.val_eq (v' := .int .i64 ((W.len : Int) - 1)) (V.subI (OV.p rfl) (OV.p rfl) (fun _ => by omega)) (fun _ => rfl)) rfl ?_
    refine WL.val (V.assign (OV.p rfl)) rfl ?_
    refine WL.nil ?_
    refine WC.block ?_
    refine WC.loop (σ := Nat × Nat) (fun x => [(0, ptr bw 0), (3, .slice (some ⟨b13, 0, none⟩) (2 * W.t) (2 * W.t)), (15, .int .i64 ((2 * W.t : Nat) : Int)), (16, .int .i64 (k : Int)), (4, .int .i64 (k : Int)), (5, .int .i64 (gexp ((k + 1 : Nat) : Int) : Nat)), (6, .int .i64 (x.2 : Int)), (7, .int .i64 ((x.1 : Int) - 1))]) (fun _ => Cells b13 3 (nats .i64 ((sumsW W.t W.len W.bit).take k ++ List.replicate (2 * W.t - k) 0)) :: F) (fun x => x.1 ≤ W.len ∧ x.2 < 8192 ∧ hor W.bit (gexp ((k + 1 : Nat) : Int)) x.1 x.2 = hor W.bit (gexp ((k + 1 : Nat) : Int)) W.len 0) (fun x => x.1) (W.len, 0) ⟨Nat.le_refl _, by show 0 < 8192; decide, rfl⟩ (.cons rfl (.cons rfl (.cons rfl (.cons rfl (.cons rfl (.cons rfl (.cons rfl (.cons rfl (.nil _))))))))) (fun w h => h) ?_
    rintro ⟨i, v⟩ ⟨hi, hv, hh⟩
    dsimp only at hi hv hh ⊢
    refine WC.seq ?_
    refine WC.seq ?_
    refine WC.region ?_
    refine WL.val (V.move (OV.p rfl)) rfl ?_
    refine WL.val (V.geq (OV.p rfl) (OV.p rfl)) rfl ?_
    refine WL.nil ?_
    refine WC.cond rfl (fun hc1 => ?_) (fun hc1 => ?_)
    · simp only [decide_eq_true_eq, decide_eq_false_iff_not] at hc1
      obtain ⟨i', rfl⟩ : ∃ i', i = i' + 1 := ⟨i - 1, by omega⟩
      have hi1 : ((i' + 1 : Nat) : Int) - 1 = (i' : Int) := by omega
      rw [hi1]
      rw [hor_code] at hh
      have hml := gmul_lt (b := gexp ((k + 1 : Nat) : Int)) hv
      refine WC.skip ?_
      refine WC.seq ?_
      refine WC.block ?_
      refine WC.seq ?_
      refine WC.region ?_
      refine WL.val (V.move (OV.p rfl)) rfl ?_
      refine WL.val (V.move (OV.p rfl)) rfl ?_
      refine WL.call (vs := [_, _]) Try.call67 ⟨OV.p rfl, OV.p rfl, trivial⟩ (bch_mul hv (gexp_lt _)) rfl ?_
      rintro _ H0 ⟨rfl, h0⟩
      subst H0
      refine WL.val (V.assign (OV.p rfl)) rfl ?_
      refine WL.nil ?_
      refine WC.seq ?_
      refine WC.region ?_
      refine WL.val (V.move (OV.p rfl)) rfl ?_
      refine WL.val (V.move (OV.p rfl)) rfl ?_
      refine WL.call (vs := [_, _]) Try.call78 ⟨OV.p rfl, OV.p rfl, trivial⟩ (word_at h (i := i') (by omega) hRu hd.up hm.up) rfl ?_
      rintro _ H0 ⟨rfl, h0⟩
      subst H0
      refine WL.nil ?_
      refine WC.cond rfl (fun hc2 => ?_) (fun hc2 => ?_)
      · skip
        have h9 := hc2
        rw [h9] at hh
        refine WC.region ?_
        refine WL.val (V.move (OV.p rfl)) rfl ?_
        refine WL.val (V.val_eq (v' := .int .i64 ((gmul v (gexp ((k + 1 : Nat) : Int)) ^^^ 1 : Nat) : Int)) (V.xor (OV.p rfl) (OV.p rfl)) (fun _ => by rw [show (1 : Int) = ((1 : Nat) : Int) from rfl, bits_xor (by omega) (by omega)])) rfl ?_
        refine WL.val (V.assign (OV.p rfl)) rfl ?_
        refine WL.nil ?_
        refine WC.region ?_
        refine WL.val (V.move (OV.p rfl)) rfl ?_
        refine WL.val (V.subI (OV.p rfl) (OV.p rfl) (fun hc => by first | omega | (simp at hc; omega))) rfl ?_
        refine WL.val (V.assign (OV.p rfl)) rfl ?_
        refine WL.nil ?_
        refine ⟨rfl, ?_⟩
        first
        | exact ⟨(i', gmul v (gexp ((k + 1 : Nat) : Int)) ^^^ 1), ⟨by show i' ≤ W.len; omega, xor_lt (k := 13) hml (by decide), hh⟩, Nat.lt_succ_self _, .cons rfl (.cons rfl (.cons rfl (.cons rfl (.cons rfl (.cons rfl (.cons rfl (.cons rfl (.nil _)))))))), fun w h => h⟩
        | exact ⟨(i', gmul v (gexp ((k + 1 : Nat) : Int))), ⟨by show i' ≤ W.len; omega, hml, by rw [show bit1 false = 0 from rfl, Nat.xor_zero] at hh; exact hh⟩, Nat.lt_succ_self _, .cons rfl (.cons rfl (.cons rfl (.cons rfl (.cons rfl (.cons rfl (.cons rfl (.cons rfl (.nil _)))))))), fun w h => h⟩
      · skip
        have h9 := hc2
        rw [h9] at hh
        refine WC.skip ?_
        refine WC.region ?_
        refine WL.val (V.move (OV.p rfl)) rfl ?_
        refine WL.val (V.subI (OV.p rfl) (OV.p rfl) (fun hc => by first | omega | (simp at hc; omega))) rfl ?_
        refine WL.val (V.assign (OV.p rfl)) rfl ?_
        refine WL.nil ?_
        refine ⟨rfl, ?_⟩
        first
        | exact ⟨(i', gmul v (gexp ((k + 1 : Nat) : Int)) ^^^ 1), ⟨by show i' ≤ W.len; omega, xor_lt (k := 13) hml (by decide), hh⟩, Nat.lt_succ_self _, .cons rfl (.cons rfl (.cons rfl (.cons rfl (.cons rfl (.cons rfl (.cons rfl (.cons rfl (.nil _)))))))), fun w h => h⟩
        | exact ⟨(i', gmul v (gexp ((k + 1 : Nat) : Int))), ⟨by show i' ≤ W.len; omega, hml, by rw [show bit1 false = 0 from rfl, Nat.xor_zero] at hh; exact hh⟩, Nat.lt_succ_self _, .cons rfl (.cons rfl (.cons rfl (.cons rfl (.cons rfl (.cons rfl (.cons rfl (.cons rfl (.nil _)))))))), fun w h => h⟩
    · simp only [decide_eq_true_eq, decide_eq_false_iff_not] at hc1
      refine WC.exit ?_
      obtain rfl : i = 0 := by omega
      have hv2 : v = hor W.bit (gexp ((k + 1 : Nat) : Int)) W.len 0 := hh
      refine WC.region ?_
      refine WL.val (V.move (OV.p rfl)) rfl ?_
      refine WL.val (V.move (OV.p rfl)) rfl ?_
      refine WL.val (V.move (OV.p rfl)) rfl ?_
      refine WL.val (V.idxB st39 (OV.p rfl) (OV.p rfl) (fun hc => by omega)) rfl ?_
      refine WL.store (cs := [_]) Try.sizeOf3 (OV.p rfl) (OV.p rfl) rfl rfl rfl (Upd.at_ (by rw [nats_length]; simp [sumsW]; omega)) ?_
      refine WL.nil ?_
      refine WC.region ?_
      refine WL.val (V.addI (OV.p rfl) (OV.p rfl) (fun hc => by first | omega | (simp at hc; omega))) rfl ?_
      refine WL.val (V.move (OV.p rfl)) rfl ?_
      refine WL.nil ?_
      refine ⟨rfl, ?_⟩
      refine ⟨k + 1, (by show k + 1 ≤ 2 * W.t; omega), (by show 2 * W.t - (k + 1) < 2 * W.t - k; omega), .cons rfl (.cons rfl (.cons rfl (.cons (look_eq rfl (by simp)) (.nil _)))), fun w h => Sat.cells_eq h ?_⟩
      have hsl : (sumsW W.t W.len W.bit).length = 2 * W.t := by simp [sumsW]
      have hsk : (sumsW W.t W.len W.bit)[k]'(by omega) = v := by rw [hv2]; simp [sumsW]
      rw [show 0 + (k : Int).toNat * 1 = k by omega, nats_set, List.set_append_right _ _ (by rw [List.length_take]; omega), List.length_take, show k - min k (sumsW W.t W.len W.bit).length = 0 by omega, List.take_add_one, List.getElem?_eq_getElem (by omega), hsk]
      rw [show 2 * W.t - k = (2 * W.t - (k + 1)) + 1 by omega, List.replicate_succ, List.set_cons_zero]
      simp
  · simp only [decide_eq_true_eq, decide_eq_false_iff_not] at hc0
    refine WC.exit ?_
    refine WC.seq ?_
    refine WC.region ?_
    refine WL.val (V.move (OV.p rfl)) rfl ?_
    refine WL.val (V.assign (OV.p rfl)) rfl ?_
    refine WL.nil ?_
    refine WC.ret ?_
    obtain rfl : k = 2 * W.t := by omega
    refine BodyQ.ret (H' := Cells b13 _ _ :: F) (Res.tmp rfl rfl) (fun w h => Sat.cells_eq h ?_) ⟨b13, rfl, rfl⟩
    rw [Nat.sub_self, List.replicate_zero, List.append_nil, List.take_of_length_le (by simp [sumsW])]
end
end Go.Proofs.Ytohkefolnmcjnaa
