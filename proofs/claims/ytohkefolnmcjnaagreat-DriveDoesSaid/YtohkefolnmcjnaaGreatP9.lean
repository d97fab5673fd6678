import Derived.Test.YtohkefolnmcjnaaGreatP8
import Derived.Test.YtohkefolnmcjnaaGreatP4
import Derived.Test.YtohkefolnmcjnaaGreatP6
/- bch: words, their sums. -/
namespace Go.Proofs.YtohkefolnmcjnaaGreat
open Go.Sl Go.RowKit
set_option linter.unusedVariables false
set_option linter.unusedSimpArgs false
set_option maxRecDepth 20000

def clr8 (x j : Nat) : Nat := x &&& (255 ^^^ 2 ^ j)
theorem clr8_code {x j : Nat} (hx : x < 256) (hj : j < 8) : bitsOf .andNot .u8 (x : Int) (IntKind.u8.wrap (1 * 2 ^ (min (j : Int).toNat IntKind.u8.bits))) = (clr8 x j : Nat) ∧ clr8 x j < 256 := by
  have h : ((List.range 256).all fun a => (List.range 8).all fun j => decide (bitsOf .andNot .u8 ((a : Nat) : Int) (IntKind.u8.wrap (1 * 2 ^ (min ((j : Nat) : Int).toNat IntKind.u8.bits))) = (clr8 a j : Nat)) && decide (clr8 a j < 256)) = true := by kernel_rfl
  have h1 := List.all_eq_true.1 h x (List.mem_range.2 hx)
  have h2 := List.all_eq_true.1 h1 j (List.mem_range.2 hj)
  simp only [Bool.and_eq_true, decide_eq_true_eq] at h2
  exact h2
theorem shl8_one {j : Nat} (hj : j < 8) : IntKind.u8.wrap (1 * 2 ^ (min (j : Int).toNat IntKind.u8.bits)) = ((2 ^ j : Nat) : Int) := by
  have h : ((List.range 8).all fun j => decide (IntKind.u8.wrap (1 * 2 ^ (min ((j : Nat) : Int).toNat IntKind.u8.bits)) = ((2 ^ j : Nat) : Int))) = true := by kernel_rfl
  have h1 := List.all_eq_true.1 h j (List.mem_range.2 hj)
  exact of_decide_eq_true h1
theorem pow8_lt {j : Nat} (hj : j < 8) : 2 ^ j < 256 := Nat.pow_lt_pow_right (by decide) (show j < 8 from hj)

/-! ### Words -/
/-- A bit of a word: of t, data, more. -/
def wAt (t : Nat) (d m : List Nat) (i : Nat) : Bool := if 13 * t ≤ i then bitAt d (i - 13 * t) else bitAt m i
def bit1 (b : Bool) : Nat := if b then 1 else 0
/-- From bit i - 1 down. -/
def hor (bit : Nat → Bool) (x : Nat) : Nat → Nat → Nat
  | 0, v => v
  | i + 1, v => hor bit x i (gmul v x ^^^ bit1 (bit i))
def sumsW (t : Nat) (len : Nat) (bit : Nat → Bool) : List Nat := (List.range (2 * t)).map fun k => hor bit (gexp ((k + 1 : Nat) : Int)) len 0
theorem hor_lt {bit : Nat → Bool} {x : Nat} : ∀ (i v : Nat), v < 8192 → hor bit x i v < 8192
  | 0, v, h => h
  | i + 1, v, h => by
    rw [hor]
    refine hor_lt i _ (xor_lt (k := 13) (gmul_lt h) ?_)
    unfold bit1; split <;> decide
/-- What lies behind more's last bit is struck. -/
def maskTo (m : List Nat) (i0 : Nat) : Nat → List Nat
  | 0 => m
  | k + 1 => (maskTo m i0 k).set ((i0 + k) / 8) (clr8 ((maskTo m i0 k).getD ((i0 + k) / 8) 0) ((i0 + k) % 8))
theorem maskTo_length (m : List Nat) (i0 : Nat) : ∀ k, (maskTo m i0 k).length = m.length
  | 0 => rfl
  | k + 1 => by rw [maskTo, List.length_set, maskTo_length]
theorem maskTo_small {m : List Nat} {i0 : Nat} (h : Small 256 m) : ∀ k, Small 256 (maskTo m i0 k)
  | 0 => h
  | k + 1 => by
    have ih := maskTo_small (i0 := i0) h k
    rw [maskTo]
    exact ih.set (clr8_code (ih.at_ (by decide) _) (Nat.mod_lt _ (by decide))).2
def moreLen (t : Nat) : Nat := (13 * t + 7) / 8
def maskM (t : Nat) (m : List Nat) : List Nat := maskTo m (13 * t) (8 * moreLen t - 13 * t)
def flipB (xs : List Nat) (i : Nat) : List Nat := xs.set (i / 8) (xs.getD (i / 8) 0 ^^^ 2 ^ (i % 8))
theorem flipB_length (xs : List Nat) (i : Nat) : (flipB xs i).length = xs.length := by simp [flipB]
theorem flipB_small {xs : List Nat} (h : Small 256 xs) (i : Nat) : Small 256 (flipB xs i) := h.set (xor_lt (k := 8) (h.at_ (by decide) _) (pow8_lt (Nat.mod_lt _ (by decide))))

/-- A word in memory. -/
structure Wd where
  t : Nat
  d : List Nat
  m : List Nat
  (g1 c1 g2 c2 : Nat)
  r1 : List Value
  r2 : List Value
namespace Wd
abbrev cells (W : Wd) : List Value := [.int .i64 (W.t : Int), .slice (some ⟨W.g1, 0, none⟩) W.d.length W.c1, .slice (some ⟨W.g2, 0, none⟩) W.m.length W.c2]
abbrev parts (bw : Nat) (W : Wd) : List Assn := [Cells bw 204 W.cells, Cells W.g1 5 (nats .u8 W.d ++ W.r1), Cells W.g2 5 (nats .u8 W.m ++ W.r2)]
structure Ok (W : Wd) : Prop where
  t : 1 ≤ W.t ∧ W.t ≤ 8
  d : 1 ≤ W.d.length ∧ W.d.length ≤ 512
  m : W.m.length = moreLen W.t
  ds : Small 256 W.d
  ms : Small 256 W.m
def len (W : Wd) : Nat := 13 * W.t + 8 * W.d.length
def bit (W : Wd) (i : Nat) : Bool := wAt W.t W.d W.m i
def flip (W : Wd) (i : Nat) : Wd := if 13 * W.t ≤ i then { W with d := flipB W.d (i - 13 * W.t) } else { W with m := flipB W.m i }
theorem Ok.flip {W : Wd} (h : W.Ok) (i : Nat) : (W.flip i).Ok := by
  unfold Wd.flip
  split
  · exact ⟨h.t, by show 1 ≤ (flipB _ _).length ∧ (flipB _ _).length ≤ 512; rw [flipB_length]; exact h.d, h.m, flipB_small h.ds _, h.ms⟩
  · exact ⟨h.t, h.d, by show (flipB _ _).length = _; rw [flipB_length]; exact h.m, h.ds, flipB_small h.ms _⟩
end Wd
theorem nats_getA (k : IntKind) (xs : List Nat) (r : List Value) {i : Nat} (h : i < xs.length) : (nats k xs ++ r)[i]? = some (.int k (xs.getD i 0 : Nat)) := by
  rw [List.getElem?_append_left (by rw [nats_length]; exact h)]; exact nats_get k xs h
theorem nats_setA (k : IntKind) (xs : List Nat) (r : List Value) {i x : Nat} (h : i < xs.length) : (nats k xs ++ r).set i (.int k (x : Int)) = nats k (xs.set i x) ++ r := by
  rw [List.set_append, if_pos (by rw [nats_length]; exact h), nats_set]

section
variable {K : World} {F : List Assn}
theorem bch_size {A : Option Addr} {t m cap : Nat} (ht : 1 ≤ t ∧ t ≤ 8) (hm : 1 ≤ m ∧ m ≤ 512) : Tells Tryz.prog 148 #[.int .i64 (t : Int), .slice A m cap] K F (.tuple #[.int .i64 (moreLen t : Nat), .int .i64 0]) := by
  refine Does.enter Tryz.func148 rfl Tryz.ntmps148 rfl ?_
  simp only [env0, Nat.reduceAdd]
  refine WC.sr ?_
  refine WL.val (V.assign (OV.p rfl)) rfl ?_
  refine WL.val (V.assign (OV.p rfl)) rfl ?_
  refine WL.nil ?_
  refine WC.sr ?_
  refine WL.val (V.move (OV.p rfl)) rfl ?_
  refine WL.call (vs := [_]) Tryz.call140 ⟨OV.p rfl, trivial⟩ (bch_Bits t (by omega) _ _) rfl ?_
  rintro _ H0 ⟨rfl, h0⟩
  subst H0
  refine WL.val (V.move (OV.p rfl)) rfl ?_
  refine WL.val (V.extract (OV.p rfl) rfl) rfl ?_
  refine WL.val (V.extract (OV.p rfl) rfl) rfl ?_
  refine WL.val (V.assign (OV.p rfl)) rfl ?_
  refine WL.val (V.assign (OV.p rfl)) rfl ?_
  refine WL.nil ?_
  refine WC.seq ?_
  refine WC.sr ?_
  refine WL.val (V.move (OV.p rfl)) rfl ?_
  refine WL.val (V.eql (OV.p rfl) (OV.p rfl)) rfl ?_
  refine WL.val (V.move (OV.p rfl)) rfl ?_
  refine WL.valG (oj := _) rfl rfl rfl GC.t (V.move (OV.p rfl)) rfl ?_
  refine WL.valG (oj := _) rfl rfl rfl GC.t (V.len (t := 38) Tryz.runUnderlying38 (OV.g rfl id)) rfl ?_
  refine WL.valG (oj := _) rfl rfl rfl GC.t (V.lss (OV.g rfl id) (OV.p rfl)) rfl ?_
  refine WL.valG (oj := _) rfl rfl rfl GC.t (V.move (OV.g rfl id)) rfl ?_
  refine WL.valG (oj := _) rfl rfl rfl GC.cf (V.move (OV.p rfl)) rfl ?_
  refine WL.valG (oj := _) rfl rfl rfl GC.cf (V.len (t := 38) Tryz.runUnderlying38 (OV.g rfl id)) rfl ?_
  refine WL.valG (oj := _) rfl rfl rfl GC.cf (V.gtr (OV.g rfl id) (OV.p rfl)) rfl ?_
  refine WL.valG (oj := _) rfl rfl rfl GC.t (V.pickOr (OV.g rfl id) (OV.g rfl id)) rfl ?_
  refine WL.val (V.pickAnd (OV.p rfl) (OV.g rfl id)) rfl ?_
  refine WL.nil ?_
  refine WC.condF' rfl ((by simp; omega)) ?_
  refine WC.skip ?_
  refine WC.sr ?_
  refine WL.val (V.move (OV.p rfl)) rfl ?_
  refine WL.val (V.addI (OV.p rfl) (OV.p rfl) (fun hc => by first | omega | (simp at hc; omega))) rfl ?_
  refine WL.val (V.quoI (OV.p rfl) (OV.p rfl) (fun hc => by first | omega | (simp at hc; omega))) rfl ?_
  refine WL.val (V.move (OV.p rfl)) rfl ?_
  refine WL.val (V.assign (OV.p rfl)) rfl ?_
  refine WL.val (V.assign (OV.p rfl)) rfl ?_
  refine WL.nil ?_
  refine WC.ret ?_
  refine BodyQ.ret (H' := F) (Res.tmp2 rfl rfl rfl) (fun w h => h) ⟨?_, rfl⟩
  unfold moreLen
  simp
theorem word_len {bw : Nat} {W : Wd} (h : W.Ok) (hR : Rds K F bw 0 W.cells) : Tells Tryz.prog 167 #[ptr bw 0] K F (.int .i64 (W.len : Nat)) := by
  have h1 := h.t
  have h2 := h.d
  have e0 : Rd K F (some ⟨bw, 0, none⟩) (.int .i64 (W.t : Int)) := hR 0 _ rfl
  have e1 : Rd K F (some ⟨bw, 1, none⟩) (.slice (some ⟨W.g1, 0, none⟩) W.d.length W.c1) := hR 1 _ rfl
  refine Does.enter Tryz.func167 rfl Tryz.ntmps167 rfl ?_
  simp only [env0, Nat.reduceAdd]
  refine WC.sr ?_
  refine WL.val (V.assign (OV.p rfl)) rfl ?_
  refine WL.nil ?_
  refine WC.seq ?_
  refine WC.regionQ (by kernel_rfl) (by kernel_rfl) ?_
  refine WQ.val (V.move (OV.p rfl)) rfl ?_
  refine WQ.val (V.nilCheck (OV.p rfl)) rfl ?_
  refine WQ.val (V.fieldAddr fo204_0 (OV.p rfl)) rfl ?_
  refine WQ.val (V.load Tryz.isAgg3 (OV.p rfl) (fun hc => e0)) rfl ?_
  refine WQ.val (V.mulI (OV.p rfl) (OV.p rfl) (fun hc => by first | omega | (simp at hc; omega))) rfl ?_
  refine WQ.val (V.move (OV.p rfl)) rfl ?_
  refine WQ.val (V.nilCheck (OV.p rfl)) rfl ?_
  refine WQ.val (V.fieldAddr fo204_1 (OV.p rfl)) rfl ?_
  refine WQ.val (V.load Tryz.isAgg38 (OV.p rfl) (fun hc => e1)) rfl ?_
  refine WQ.val (V.len (t := 38) Tryz.runUnderlying38 (OV.p rfl)) rfl ?_
  refine WQ.val (V.mulI (OV.p rfl) (OV.p rfl) (fun hc => by first | omega | (simp at hc; omega))) rfl ?_
  refine WQ.val (V.addI (OV.p rfl) (OV.p rfl) (fun hc => by first | omega | (simp at hc; omega))) rfl ?_
  refine WQ.val (V.assign (OV.p rfl)) rfl ?_
  refine WQ.nil ?_
  refine WC.ret ?_
  refine BodyQ.ret (H' := F) (Res.tmp rfl rfl) (fun w h => h) ⟨?_, rfl⟩
  unfold Wd.len
  simp
theorem word_at {bw : Nat} {W : Wd} (h : W.Ok) {i : Nat} (hi : i < W.len) (hR : Rds K F bw 0 W.cells) (hd : Seq K F (some ⟨W.g1, 0, none⟩) W.d.length 1 (nats .u8 W.d)) (hm : Seq K F (some ⟨W.g2, 0, none⟩) W.m.length 1 (nats .u8 W.m)) :
    Tells Tryz.prog 193 #[ptr bw 0, .int .i64 (i : Int)] K F (.bool (W.bit i)) := by
  have h1 := h.t
  have h2 := h.d
  have h3 := h.m
  unfold moreLen at h3
  unfold Wd.len at hi
  have e0 : Rd K F (some ⟨bw, 0, none⟩) (.int .i64 (W.t : Int)) := hR 0 _ rfl
  have e1 : Rd K F (some ⟨bw, 1, none⟩) (.slice (some ⟨W.g1, 0, none⟩) W.d.length W.c1) := hR 1 _ rfl
  have e2 : Rd K F (some ⟨bw, 2, none⟩) (.slice (some ⟨W.g2, 0, none⟩) W.m.length W.c2) := hR 2 _ rfl
  have key : ∀ (xs : List Nat) (j : Nat), decide ((((xs.getD (j / 8) 0 / 2 ^ (j % 8) % 2 : Nat) : Int)) = 1) = bitAt xs j := fun xs j => by
    unfold bitAt
    rw [Nat.testBit_eq_decide_div_mod_eq]
    apply decide_eq_decide.2
    omega
  refine Does.enter Tryz.func193 rfl Tryz.ntmps193 rfl ?_
  simp only [env0, Nat.reduceAdd]
  refine WC.sr ?_
  refine WL.val (V.assign (OV.p rfl)) rfl ?_
  refine WL.nil ?_
  refine WC.seq ?_
  refine WC.sr ?_
  refine WL.val (V.move (OV.p rfl)) rfl ?_
  refine WL.val (V.move (OV.p rfl)) rfl ?_
  refine WL.val (V.nilCheck (OV.p rfl)) rfl ?_
  refine WL.val (V.fieldAddr fo204_0 (OV.p rfl)) rfl ?_
  refine WL.val (V.load Tryz.isAgg3 (OV.p rfl) (fun hc => e0)) rfl ?_
  refine WL.val (V.mulI (OV.p rfl) (OV.p rfl) (fun hc => by first | omega | (simp at hc; omega))) rfl ?_
  refine WL.val (V.subI (OV.p rfl) (OV.p rfl) (fun hc => by first | omega | (simp at hc; omega))) rfl ?_
  refine WL.val (V.assign (OV.p rfl)) rfl ?_
  refine WL.nil ?_
  refine WC.sr ?_
  refine WL.val (V.move (OV.p rfl)) rfl ?_
  refine WL.val (V.geq (OV.p rfl) (OV.p rfl)) rfl ?_
  refine WL.nil ?_
  refine WC.cond rfl (fun hc0 => ?_) (fun hc0 => ?_)
  ·simp only [decide_eq_true_eq, decide_eq_false_iff_not] at hc0
   refine WC.seq ?_
   obtain ⟨k, hk⟩ : ∃ k, k = i - 13 * W.t := ⟨_, rfl⟩
   have hki : (i : Int) - 13 * (W.t : Int) = (k : Int) := by omega
   rw [hki]
   have hrd : Rd K F (some ⟨W.g1, 0 + ((k : Int) / 8).toNat * 1, none⟩) (.int .u8 (W.d.getD (k / 8) 0 : Nat)) := by
     have := hd.nat_rd (j := k / 8) (by omega)
     rw [show 0 + ((k : Int) / 8).toNat * 1 = 0 + k / 8 * 1 by omega]
     simpa [add_mk] using this
   have hb := h.ds.at_ (by decide) (k / 8)
   refine WC.region ?_
   refine WL.val (V.move (OV.p rfl)) rfl ?_
   refine WL.val (V.nilCheck (OV.p rfl)) rfl ?_
   refine WL.val (V.fieldAddr fo204_1 (OV.p rfl)) rfl ?_
   refine WL.val (V.load Tryz.isAgg38 (OV.p rfl) (fun hc => e1)) rfl ?_
   refine WL.val (V.move (OV.p rfl)) rfl ?_
   refine WL.val (V.quoI (OV.p rfl) (OV.p rfl) (fun hc => by first | omega | (simp at hc; omega))) rfl ?_
   refine WL.val (V.idxB st38 (OV.p rfl) (OV.p rfl) (fun hc => by omega)) rfl ?_
   refine WL.val (V.load Tryz.isAgg5 (OV.p rfl) (fun hc => hrd)) rfl ?_
   refine WL.val (V.move (OV.p rfl)) rfl ?_
   refine WL.val (V.val_eq (v' := .int .i64 ((k % 8 : Nat) : Int)) (V.remI (OV.p rfl) (OV.p rfl) (fun _ => by omega)) (fun _ => by simp)) rfl ?_
   refine WL.val (V.val_eq (v' := .int .u8 ((W.d.getD (k / 8) 0 / 2 ^ (k % 8) : Nat) : Int)) (V.shr (OV.p rfl) (OV.p rfl) (by omega)) (fun _ => by rw [shr_nat (by show k % 8 ≤ 8; omega)])) rfl ?_
   refine WL.val (V.val_eq (v' := .int .u8 ((W.d.getD (k / 8) 0 / 2 ^ (k % 8) % 2 : Nat) : Int)) (V.and (OV.p rfl) (OV.p rfl)) (fun _ => by rw [and_u8_one (Nat.lt_of_le_of_lt (Nat.div_le_self _ _) hb)])) rfl ?_
   refine WL.val (V.eql (OV.p rfl) (OV.p rfl)) rfl ?_
   refine WL.val (V.assign (OV.p rfl)) rfl ?_
   refine WL.nil ?_
   refine WC.ret ?_
   refine BodyQ.ret (H' := F) (Res.tmp rfl rfl) (fun w h => h) ⟨?_, rfl⟩
   rw [key]; unfold Wd.bit wAt; rw [if_pos (by omega), ← hk]
  ·simp only [decide_eq_true_eq, decide_eq_false_iff_not] at hc0
   refine WC.skip ?_
   refine WC.seq ?_
   have hrd : Rd K F (some ⟨W.g2, 0 + ((i : Int) / 8).toNat * 1, none⟩) (.int .u8 (W.m.getD (i / 8) 0 : Nat)) := by
     have := hm.nat_rd (j := i / 8) (by omega)
     rw [show 0 + ((i : Int) / 8).toNat * 1 = 0 + i / 8 * 1 by omega]
     simpa [add_mk] using this
   have hb := h.ms.at_ (by decide) (i / 8)
   refine WC.region ?_
   refine WL.val (V.move (OV.p rfl)) rfl ?_
   refine WL.val (V.nilCheck (OV.p rfl)) rfl ?_
   refine WL.val (V.fieldAddr fo204_2 (OV.p rfl)) rfl ?_
   refine WL.val (V.load Tryz.isAgg38 (OV.p rfl) (fun hc => e2)) rfl ?_
   refine WL.val (V.move (OV.p rfl)) rfl ?_
   refine WL.val (V.quoI (OV.p rfl) (OV.p rfl) (fun hc => by first | omega | (simp at hc; omega))) rfl ?_
   refine WL.val (V.idxB st38 (OV.p rfl) (OV.p rfl) (fun hc => by omega)) rfl ?_
   refine WL.val (V.load Tryz.isAgg5 (OV.p rfl) (fun hc => hrd)) rfl ?_
   refine WL.val (V.move (OV.p rfl)) rfl ?_
   refine WL.val (V.val_eq (v' := .int .i64 ((i % 8 : Nat) : Int)) (V.remI (OV.p rfl) (OV.p rfl) (fun _ => by omega)) (fun _ => by simp)) rfl ?_
   refine WL.val (V.val_eq (v' := .int .u8 ((W.m.getD (i / 8) 0 / 2 ^ (i % 8) : Nat) : Int)) (V.shr (OV.p rfl) (OV.p rfl) (by omega)) (fun _ => by rw [shr_nat (by show i % 8 ≤ 8; omega)])) rfl ?_
   refine WL.val (V.val_eq (v' := .int .u8 ((W.m.getD (i / 8) 0 / 2 ^ (i % 8) % 2 : Nat) : Int)) (V.and (OV.p rfl) (OV.p rfl)) (fun _ => by rw [and_u8_one (Nat.lt_of_le_of_lt (Nat.div_le_self _ _) hb)])) rfl ?_
   refine WL.val (V.eql (OV.p rfl) (OV.p rfl)) rfl ?_
   refine WL.val (V.assign (OV.p rfl)) rfl ?_
   refine WL.nil ?_
   refine WC.ret ?_
   refine BodyQ.ret (H' := F) (Res.tmp rfl rfl) (fun w h => h) ⟨?_, rfl⟩
   rw [key]; unfold Wd.bit wAt; rw [if_neg (by omega)]
theorem word_flip {bw : Nat} {W : Wd} (h : W.Ok) {i : Nat} (hi : i < W.len) :
    Does Tryz.prog 170 #[ptr bw 0, .int .i64 (i : Int)] K (W.parts bw ++ F) (fun v H' => H' = (W.flip i).parts bw ++ F) := by
  have h1 := h.t
  have h2 := h.d
  have h3 := h.m
  unfold moreLen at h3
  unfold Wd.len at hi
  dsimp only [Wd.parts, List.cons_append, List.nil_append]
  refine Does.enter Tryz.func170 rfl Tryz.ntmps170 rfl ?_
  simp only [env0, Nat.reduceAdd]
  refine WC.sr ?_
  refine WL.val (V.move (OV.p rfl)) rfl ?_
  refine WL.val (V.move (OV.p rfl)) rfl ?_
  refine WL.val (V.nilCheck (OV.p rfl)) rfl ?_
  refine WL.val (V.fieldAddr fo204_0 (OV.p rfl)) rfl ?_
  refine WL.val (V.load Tryz.isAgg3 (OV.p rfl) (fun _ => by repeat (first | exact Rd.here rfl | apply Rd.up))) rfl ?_
  refine WL.val (V.mulI (OV.p rfl) (OV.p rfl) (fun hc => by first | omega | (simp at hc; omega))) rfl ?_
  refine WL.val (V.subI (OV.p rfl) (OV.p rfl) (fun hc => by first | omega | (simp at hc; omega))) rfl ?_
  refine WL.val (V.assign (OV.p rfl)) rfl ?_
  refine WL.nil ?_
  refine WC.sr ?_
  refine WL.val (V.move (OV.p rfl)) rfl ?_
  refine WL.val (V.geq (OV.p rfl) (OV.p rfl)) rfl ?_
  refine WL.nil ?_
  refine WC.cond rfl (fun hc0 => ?_) (fun hc0 => ?_)
  ·simp only [decide_eq_true_eq, decide_eq_false_iff_not] at hc0
   obtain ⟨k, hk⟩ : ∃ k, k = i - 13 * W.t := ⟨_, rfl⟩
   have hki : (i : Int) - 13 * (W.t : Int) = (k : Int) := by omega
   rw [hki]
   have hg1 : (nats .u8 W.d ++ W.r1)[0 + ((k : Int) / 8).toNat * 1]? = some (.int .u8 (W.d.getD (k / 8) 0 : Nat)) := by rw [show 0 + ((k : Int) / 8).toNat * 1 = k / 8 by omega]; exact nats_getA _ _ _ (by omega)
   have hb := h.ds.at_ (by decide) (k / 8)
   have hWf : W.flip i = { W with d := flipB W.d k } := by unfold Wd.flip; rw [if_pos (by omega), ← hk]
   refine WC.sub (Sub.refl _) (fun w h => h.p1) ?_
   refine WC.regionA (Cells bw 204 W.cells :: Cells W.g2 5 (nats .u8 W.m ++ W.r2) :: F) (by kernel_rfl) ?_
   refine WA.t 0 rfl (V.move (OV.p rfl)) ?_
   refine WA.t 1 rfl (V.nilCheck (OV.p rfl)) ?_
   refine WA.t 2 rfl (V.fieldAddr fo204_1 (OV.p rfl)) ?_
   refine WA.t 3 rfl (V.load Tryz.isAgg38 (OV.p rfl) (fun _ => by repeat (first | exact Rd.here rfl | apply Rd.up))) ?_
   refine WA.t 4 rfl (V.move (OV.p rfl)) ?_
   refine WA.t 5 rfl (V.quoI (OV.p rfl) (OV.p rfl) (fun hc => by first | omega | (simp at hc; omega))) ?_
   refine WA.t 6 rfl (V.idxB st38 (OV.p rfl) (OV.p rfl) (fun hc => by omega)) ?_
   refine WA.t 8 rfl (V.move (OV.p rfl)) ?_
   refine WA.t 9 rfl (V.val_eq (v' := .int .i64 ((k % 8 : Nat) : Int)) (V.remI (OV.p rfl) (OV.p rfl) (fun _ => by omega)) (fun _ => by simp)) ?_
   refine WA.t 10 rfl (V.val_eq (v' := .int .u8 ((2 ^ (k % 8) : Nat) : Int)) (V.shl (OV.p rfl) (OV.p rfl) (by omega)) (fun _ => by rw [shl8_one (by omega)])) ?_
   refine WA.o 7 rfl ?_
   refine WL.val (V.load Tryz.isAgg5 (OV.p rfl) (fun hc => by repeat (first | exact Rd.here hg1 | apply Rd.up))) rfl ?_
   refine WL.nil ?_
   refine WA.t 11 rfl (V.val_eq (v' := .int .u8 ((W.d.getD (k / 8) 0 ^^^ 2 ^ (k % 8) : Nat) : Int)) (V.xor (OV.p rfl) (OV.p rfl)) (fun _ => by rw [xor_u8 hb (pow8_lt (by omega))])) ?_
   refine WA.t 12 rfl (V.idxB st38 (OV.p rfl) (OV.p rfl) (fun hc => by omega)) ?_
   refine WA.o 13 rfl ?_
   refine WL.store (cs := [_]) Tryz.sizeOf5 (OV.p rfl) (OV.p rfl) rfl rfl rfl (Upd.at_ (by rw [List.length_append, nats_length]; omega)) ?_
   refine WL.nil ?_
   refine WA.fin ?_
   first
   | (refine BodyQ.normal (H' := (W.flip i).parts bw ++ F) (Res.none rfl) (fun w h => ?_) rfl
      rw [hWf]
      rw [show 0 + ((k : Int) / 8).toNat * 1 = k / 8 by omega, nats_setA _ _ _ (by omega)] at h
      have h' := h.p1
      dsimp only [Wd.parts, Wd.cells, List.cons_append, List.nil_append]
      rw [flipB_length]
      exact h')
   | (refine BodyQ.normal (H' := (W.flip i).parts bw ++ F) (Res.none rfl) (fun w h => ?_) rfl
      rw [hWf]
      rw [show 0 + ((i : Int) / 8).toNat * 1 = i / 8 by omega, nats_setA _ _ _ (by omega)] at h
      have h' := h.sel 3 [1, 2, 0] rfl
      dsimp only [Wd.parts, Wd.cells, List.cons_append, List.nil_append]
      rw [flipB_length]
      exact h')
  ·simp only [decide_eq_true_eq, decide_eq_false_iff_not] at hc0
   have hWf : W.flip i = { W with m := flipB W.m i } := by unfold Wd.flip; rw [if_neg (by omega)]
   have hg1 : (nats .u8 W.m ++ W.r2)[0 + ((i : Int) / 8).toNat * 1]? = some (.int .u8 (W.m.getD (i / 8) 0 : Nat)) := by rw [show 0 + ((i : Int) / 8).toNat * 1 = i / 8 by omega]; exact nats_getA _ _ _ (by omega)
   have hb := h.ms.at_ (by decide) (i / 8)
   refine WC.sub (Sub.refl _) (fun w h => h.p2) ?_
   refine WC.regionA (Cells bw 204 W.cells :: Cells W.g1 5 (nats .u8 W.d ++ W.r1) :: F) (by kernel_rfl) ?_
   refine WA.t 0 rfl (V.move (OV.p rfl)) ?_
   refine WA.t 1 rfl (V.nilCheck (OV.p rfl)) ?_
   refine WA.t 2 rfl (V.fieldAddr fo204_2 (OV.p rfl)) ?_
   refine WA.t 3 rfl (V.load Tryz.isAgg38 (OV.p rfl) (fun _ => by repeat (first | exact Rd.here rfl | apply Rd.up))) ?_
   refine WA.t 4 rfl (V.move (OV.p rfl)) ?_
   refine WA.t 5 rfl (V.quoI (OV.p rfl) (OV.p rfl) (fun hc => by first | omega | (simp at hc; omega))) ?_
   refine WA.t 6 rfl (V.idxB st38 (OV.p rfl) (OV.p rfl) (fun hc => by omega)) ?_
   refine WA.t 8 rfl (V.move (OV.p rfl)) ?_
   refine WA.t 9 rfl (V.val_eq (v' := .int .i64 ((i % 8 : Nat) : Int)) (V.remI (OV.p rfl) (OV.p rfl) (fun _ => by omega)) (fun _ => by simp)) ?_
   refine WA.t 10 rfl (V.val_eq (v' := .int .u8 ((2 ^ (i % 8) : Nat) : Int)) (V.shl (OV.p rfl) (OV.p rfl) (by omega)) (fun _ => by rw [shl8_one (by omega)])) ?_
   refine WA.o 7 rfl ?_
   refine WL.val (V.load Tryz.isAgg5 (OV.p rfl) (fun hc => by repeat (first | exact Rd.here hg1 | apply Rd.up))) rfl ?_
   refine WL.nil ?_
   refine WA.t 11 rfl (V.val_eq (v' := .int .u8 ((W.m.getD (i / 8) 0 ^^^ 2 ^ (i % 8) : Nat) : Int)) (V.xor (OV.p rfl) (OV.p rfl)) (fun _ => by rw [xor_u8 hb (pow8_lt (by omega))])) ?_
   refine WA.t 12 rfl (V.idxB st38 (OV.p rfl) (OV.p rfl) (fun hc => by omega)) ?_
   refine WA.o 13 rfl ?_
   refine WL.store (cs := [_]) Tryz.sizeOf5 (OV.p rfl) (OV.p rfl) rfl rfl rfl (Upd.at_ (by rw [List.length_append, nats_length]; omega)) ?_
   refine WL.nil ?_
   refine WA.fin ?_
   first
   | (refine BodyQ.normal (H' := (W.flip i).parts bw ++ F) (Res.none rfl) (fun w h => ?_) rfl
      rw [hWf]
      rw [show 0 + ((k : Int) / 8).toNat * 1 = k / 8 by omega, nats_setA _ _ _ (by omega)] at h
      have h' := h.p1
      dsimp only [Wd.parts, Wd.cells, List.cons_append, List.nil_append]
      rw [flipB_length]
      exact h')
   | (refine BodyQ.normal (H' := (W.flip i).parts bw ++ F) (Res.none rfl) (fun w h => ?_) rfl
      rw [hWf]
      rw [show 0 + ((i : Int) / 8).toNat * 1 = i / 8 by omega, nats_setA _ _ _ (by omega)] at h
      have h' := h.sel 3 [1, 2, 0] rfl
      dsimp only [Wd.parts, Wd.cells, List.cons_append, List.nil_append]
      rw [flipB_length]
      exact h')
theorem hor_code {bit : Nat → Bool} {x i v : Nat} : hor bit x (i + 1) v = hor bit x i (gmul v x ^^^ bit1 (bit i)) := rfl
theorem word_sums {bw : Nat} {W : Wd} (h : W.Ok) (hR : Rds K F bw 0 W.cells) (hd : Seq K F (some ⟨W.g1, 0, none⟩) W.d.length 1 (nats .u8 W.d)) (hm : Seq K F (some ⟨W.g2, 0, none⟩) W.m.length 1 (nats .u8 W.m)) :
    Does Tryz.prog 166 #[ptr bw 0] K F (fun v H' => ∃ g, v = .slice (some ⟨g, 0, none⟩) (2 * W.t) (2 * W.t) ∧ H' = Cells g 3 (nats .i64 (sumsW W.t W.len W.bit)) :: F) := by
  have h1 := h.t
  have h2 := h.d
  have e0 : Rd K F (some ⟨bw, 0, none⟩) (.int .i64 (W.t : Int)) := hR 0 _ rfl
  have hlen : W.len ≤ 4200 := by unfold Wd.len; omega
  have hlen0 : 0 < W.len := by unfold Wd.len; omega
  have hRu : ∀ {X : Assn}, Rds K (X :: F) bw 0 W.cells := fun {X} => hR.up
  refine Does.enter Tryz.func166 rfl Tryz.ntmps166 rfl ?_
  simp only [env0, Nat.reduceAdd]
  refine WC.sr ?_
  refine WL.val (V.assign (OV.p rfl)) rfl ?_
  refine WL.nil ?_
  refine WC.sr ?_
  refine WL.val (V.move (OV.p rfl)) rfl ?_
  refine WL.val (V.nilCheck (OV.p rfl)) rfl ?_
  refine WL.val (V.fieldAddr fo204_0 (OV.p rfl)) rfl ?_
  refine WL.val (V.load Tryz.isAgg3 (OV.p rfl) (fun hc => e0)) rfl ?_
  refine WL.val (V.mulI (OV.p rfl) (OV.p rfl) (fun hc => by first | omega | (simp at hc; omega))) rfl ?_
  refine WL.make1 (m := 2 * W.t) Tryz.underlying42 el3 (OV.p rfl) (OV.p rfl) (by omega) (by omega) (by omega) rfl rfl rfl (fun b13 => ?_)
  refine WL.val (V.assign (OV.p rfl)) rfl ?_
  refine WL.nil ?_
  refine WC.seq ?_
  refine WC.sr ?_
  refine WL.val (V.move (OV.p rfl)) rfl ?_
  refine WL.val (V.len (t := 42) Tryz.runUnderlying42 (OV.p rfl)) rfl ?_
  refine WL.val (V.move (OV.p rfl)) rfl ?_
  refine WL.nil ?_
  refine WC.block ?_
  refine WC.loop (σ := Nat) (fun k => [(0, ptr bw 0), (3, .slice (some ⟨b13, 0, none⟩) (2 * W.t) (2 * W.t)), (15, .int .i64 ((2 * W.t : Nat) : Int)), (16, .int .i64 (k : Int))]) (fun k => Cells b13 3 (nats .i64 ((sumsW W.t W.len W.bit).take k ++ List.replicate (2 * W.t - k) 0)) :: F) (fun k => k ≤ 2 * W.t) (fun k => 2 * W.t - k) 0 (Nat.zero_le _) (.cons rfl (.cons rfl (.cons rfl (.cons rfl (.nil _))))) (fun w h => Sat.cells_eq h (by simp [nats_replicate])) ?_
  rintro k hk
  refine WC.sr ?_
  refine WL.val (V.lss (OV.p rfl) (OV.p rfl)) rfl ?_
  refine WL.nil ?_
  refine WC.seq ?_
  refine WC.cond rfl (fun hc0 => ?_) (fun hc0 => ?_)
  ·simp only [decide_eq_true_eq, decide_eq_false_iff_not] at hc0
   refine WC.skip ?_
   refine WC.seq ?_
   refine WC.block ?_
   refine WC.sr ?_
   refine WL.val (V.move (OV.p rfl)) rfl ?_
   refine WL.val (V.assign (OV.p rfl)) rfl ?_
   refine WL.nil ?_
   refine WC.seq ?_
   have hkt : k < 2 * W.t := by omega
   refine WC.region ?_
   refine WL.val (V.move (OV.p rfl)) rfl ?_
   refine WL.val (V.val_eq (v' := .int .i64 ((k + 1 : Nat) : Int)) (V.addI (OV.p rfl) (OV.p rfl) (fun _ => by omega)) (fun _ => by simp)) rfl ?_
   refine WL.call (vs := [_]) Tryz.call168 ⟨OV.p rfl, trivial⟩ (gf_Exp _ (by omega)) rfl ?_
   rintro _ H0 ⟨rfl, h0⟩
   subst H0
   refine WL.val (V.assign (OV.p rfl)) rfl ?_
   refine WL.val (V.assign (OV.p rfl)) rfl ?_
   refine WL.nil ?_
   refine WC.seq ?_
   refine WC.sr ?_
   refine WL.val (V.move (OV.p rfl)) rfl ?_
   refine WL.call (vs := [_]) Tryz.call167 ⟨OV.p rfl, trivial⟩ (word_len h hRu) rfl ?_
   rintro _ H0 ⟨rfl, h0⟩
   subst H0
   refine WL.val (V.val_eq (v' := .int .i64 ((W.len : Int) - 1)) (V.subI (OV.p rfl) (OV.p rfl) (fun _ => by omega)) (fun _ => rfl)) rfl ?_
   refine WL.val (V.assign (OV.p rfl)) rfl ?_
   refine WL.nil ?_
   refine WC.block ?_
   refine WC.loop (σ := Nat × Nat) (fun x => [(0, ptr bw 0), (3, .slice (some ⟨b13, 0, none⟩) (2 * W.t) (2 * W.t)), (15, .int .i64 ((2 * W.t : Nat) : Int)), (16, .int .i64 (k : Int)), (4, .int .i64 (k : Int)), (5, .int .i64 (gexp ((k + 1 : Nat) : Int) : Nat)), (6, .int .i64 (x.2 : Int)), (7, .int .i64 ((x.1 : Int) - 1))]) (fun _ => Cells b13 3 (nats .i64 ((sumsW W.t W.len W.bit).take k ++ List.replicate (2 * W.t - k) 0)) :: F) (fun x => x.1 ≤ W.len ∧ x.2 < 8192 ∧ hor W.bit (gexp ((k + 1 : Nat) : Int)) x.1 x.2 = hor W.bit (gexp ((k + 1 : Nat) : Int)) W.len 0) (fun x => x.1) (W.len, 0) ⟨Nat.le_refl _, by show 0 < 8192; decide, rfl⟩ (.cons rfl (.cons rfl (.cons rfl (.cons rfl (.cons rfl (.cons rfl (.cons rfl (.cons rfl (.nil _))))))))) (fun w h => h) ?_
   rintro ⟨i, v⟩ ⟨hi, hv, hh⟩
   dsimp only at hi hv hh ⊢
   refine WC.seq ?_
   refine WC.sr ?_
   refine WL.val (V.move (OV.p rfl)) rfl ?_
   refine WL.val (V.geq (OV.p rfl) (OV.p rfl)) rfl ?_
   refine WL.nil ?_
   refine WC.cond rfl (fun hc1 => ?_) (fun hc1 => ?_)
   ·simp only [decide_eq_true_eq, decide_eq_false_iff_not] at hc1
    obtain ⟨i', rfl⟩ : ∃ i', i = i' + 1 := ⟨i - 1, by omega⟩
    have hi1 : ((i' + 1 : Nat) : Int) - 1 = (i' : Int) := by omega
    rw [hi1]
    rw [hor_code] at hh
    have hml := gmul_lt (b := gexp ((k + 1 : Nat) : Int)) hv
    refine WC.skip ?_
    refine WC.seq ?_
    refine WC.block ?_
    refine WC.sr ?_
    refine WL.val (V.move (OV.p rfl)) rfl ?_
    refine WL.val (V.move (OV.p rfl)) rfl ?_
    refine WL.call (vs := [_, _]) Tryz.call169 ⟨OV.p rfl, OV.p rfl, trivial⟩ (bch_mul hv (gexp_lt _)) rfl ?_
    rintro _ H0 ⟨rfl, h0⟩
    subst H0
    refine WL.val (V.assign (OV.p rfl)) rfl ?_
    refine WL.nil ?_
    refine WC.sr ?_
    refine WL.val (V.move (OV.p rfl)) rfl ?_
    refine WL.val (V.move (OV.p rfl)) rfl ?_
    refine WL.call (vs := [_, _]) Tryz.call193 ⟨OV.p rfl, OV.p rfl, trivial⟩ (word_at h (i := i') (by omega) hRu hd.up hm.up) rfl ?_
    rintro _ H0 ⟨rfl, h0⟩
    subst H0
    refine WL.nil ?_
    refine WC.cond rfl (fun hc2 => ?_) (fun hc2 => ?_)
    ·skip
     have h9 := hc2
     rw [h9] at hh
     refine WC.region ?_
     refine WL.val (V.move (OV.p rfl)) rfl ?_
     refine WL.val (V.val_eq (v' := .int .i64 ((gmul v (gexp ((k + 1 : Nat) : Int)) ^^^ 1 : Nat) : Int)) (V.xor (OV.p rfl) (OV.p rfl)) (fun _ => by rw [show (1 : Int) = ((1 : Nat) : Int) from rfl, bits_xor (by omega) (by omega)])) rfl ?_
     refine WL.val (V.assign (OV.p rfl)) rfl ?_
     refine WL.nil ?_
     refine WC.region ?_
     refine WL.val (V.move (OV.p rfl)) rfl ?_
     refine WL.val (V.subI (OV.p rfl) (OV.p rfl) (fun hc => by first | omega | (simp at hc; omega))) rfl ?_
     refine WL.val (V.assign (OV.p rfl)) rfl ?_
     refine WL.nil ?_
     refine ⟨rfl, ?_⟩
     first
     | exact ⟨(i', gmul v (gexp ((k + 1 : Nat) : Int)) ^^^ 1), ⟨by show i' ≤ W.len; omega, xor_lt (k := 13) hml (by decide), hh⟩, Nat.lt_succ_self _, .cons rfl (.cons rfl (.cons rfl (.cons rfl (.cons rfl (.cons rfl (.cons rfl (.cons rfl (.nil _)))))))), fun w h => h⟩
     | exact ⟨(i', gmul v (gexp ((k + 1 : Nat) : Int))), ⟨by show i' ≤ W.len; omega, hml, by rw [show bit1 false = 0 from rfl, Nat.xor_zero] at hh; exact hh⟩, Nat.lt_succ_self _, .cons rfl (.cons rfl (.cons rfl (.cons rfl (.cons rfl (.cons rfl (.cons rfl (.cons rfl (.nil _)))))))), fun w h => h⟩
    ·skip
     have h9 := hc2
     rw [h9] at hh
     refine WC.skip ?_
     refine WC.region ?_
     refine WL.val (V.move (OV.p rfl)) rfl ?_
     refine WL.val (V.subI (OV.p rfl) (OV.p rfl) (fun hc => by first | omega | (simp at hc; omega))) rfl ?_
     refine WL.val (V.assign (OV.p rfl)) rfl ?_
     refine WL.nil ?_
     refine ⟨rfl, ?_⟩
     first
     | exact ⟨(i', gmul v (gexp ((k + 1 : Nat) : Int)) ^^^ 1), ⟨by show i' ≤ W.len; omega, xor_lt (k := 13) hml (by decide), hh⟩, Nat.lt_succ_self _, .cons rfl (.cons rfl (.cons rfl (.cons rfl (.cons rfl (.cons rfl (.cons rfl (.cons rfl (.nil _)))))))), fun w h => h⟩
     | exact ⟨(i', gmul v (gexp ((k + 1 : Nat) : Int))), ⟨by show i' ≤ W.len; omega, hml, by rw [show bit1 false = 0 from rfl, Nat.xor_zero] at hh; exact hh⟩, Nat.lt_succ_self _, .cons rfl (.cons rfl (.cons rfl (.cons rfl (.cons rfl (.cons rfl (.cons rfl (.cons rfl (.nil _)))))))), fun w h => h⟩
   ·simp only [decide_eq_true_eq, decide_eq_false_iff_not] at hc1
    refine WC.exit ?_
    obtain rfl : i = 0 := by omega
    have hv2 : v = hor W.bit (gexp ((k + 1 : Nat) : Int)) W.len 0 := hh
    refine WC.region ?_
    refine WL.val (V.move (OV.p rfl)) rfl ?_
    refine WL.val (V.move (OV.p rfl)) rfl ?_
    refine WL.val (V.move (OV.p rfl)) rfl ?_
    refine WL.val (V.idxB st42 (OV.p rfl) (OV.p rfl) (fun hc => by omega)) rfl ?_
    refine WL.store (cs := [_]) Tryz.sizeOf3 (OV.p rfl) (OV.p rfl) rfl rfl rfl (Upd.at_ (by rw [nats_length]; simp [sumsW]; omega)) ?_
    refine WL.nil ?_
    refine WC.region ?_
    refine WL.val (V.addI (OV.p rfl) (OV.p rfl) (fun hc => by first | omega | (simp at hc; omega))) rfl ?_
    refine WL.val (V.move (OV.p rfl)) rfl ?_
    refine WL.nil ?_
    refine ⟨rfl, ?_⟩
    refine ⟨k + 1, (by show k + 1 ≤ 2 * W.t; omega), (by show 2 * W.t - (k + 1) < 2 * W.t - k; omega), .cons rfl (.cons rfl (.cons rfl (.cons (look_eq rfl (by simp)) (.nil _)))), fun w h => Sat.cells_eq h ?_⟩
    have hsl : (sumsW W.t W.len W.bit).length = 2 * W.t := by simp [sumsW]
    have hsk : (sumsW W.t W.len W.bit)[k]'(by omega) = v := by rw [hv2]; simp [sumsW]
    rw [show 0 + (k : Int).toNat * 1 = k by omega, nats_set, List.set_append_right _ _ (by rw [List.length_take]; omega), List.length_take, show k - min k (sumsW W.t W.len W.bit).length = 0 by omega, List.take_add_one, List.getElem?_eq_getElem (by omega), hsk]
    rw [show 2 * W.t - k = (2 * W.t - (k + 1)) + 1 by omega, List.replicate_succ, List.set_cons_zero]
    simp
  ·simp only [decide_eq_true_eq, decide_eq_false_iff_not] at hc0
   refine WC.exit ?_
   refine WC.sr ?_
   refine WL.val (V.move (OV.p rfl)) rfl ?_
   refine WL.val (V.assign (OV.p rfl)) rfl ?_
   refine WL.nil ?_
   refine WC.ret ?_
   obtain rfl : k = 2 * W.t := by omega
   refine BodyQ.ret (H' := Cells b13 _ _ :: F) (Res.tmp rfl rfl) (fun w h => Sat.cells_eq h ?_) ⟨b13, rfl, rfl⟩
   rw [Nat.sub_self, List.replicate_zero, List.append_nil, List.take_of_length_le (by simp [sumsW])]
end
end Go.Proofs.YtohkefolnmcjnaaGreat
/- casemateref04: Mul, Mod. -/
namespace Go.Proofs.YtohkefolnmcjnaaGreat
open Go.Sl Go.RowKit
set_option linter.unusedVariables false
set_option linter.unusedSimpArgs false
set_option maxRecDepth 20000

def lay4 (out b : List Nat) (i ai : Nat) : Nat → List Nat
  | 0 => out
  | k + 1 => (lay4 out b i ai k).set (i + k) (((lay4 out b i ai k).getD (i + k) 0 + ai * b.getD k 0) % 2)
def mul4To (a b : List Nat) : Nat → List Nat
  | 0 => List.replicate (a.length + b.length) 0
  | i + 1 => lay4 (mul4To a b i) b i (a.getD i 0) b.length
def mul4 (a b : List Nat) : List Nat := mul4To a b a.length
theorem lay4_length (out b : List Nat) (i ai : Nat) : ∀ k, (lay4 out b i ai k).length = out.length
  | 0 => rfl
  | k + 1 => by rw [lay4, List.length_set, lay4_length]
theorem mul4To_length (a b : List Nat) : ∀ i, (mul4To a b i).length = a.length + b.length
  | 0 => List.length_replicate
  | i + 1 => by rw [mul4To, lay4_length, mul4To_length]
theorem lay4_small {out b : List Nat} {i ai : Nat} (h : Small 2 out) : ∀ k, Small 2 (lay4 out b i ai k)
  | 0 => h
  | k + 1 => (lay4_small h k).set (Nat.mod_lt _ (by decide))
theorem mul4To_small (a b : List Nat) : ∀ i, Small 2 (mul4To a b i)
  | 0 => Small.repl (by decide)
  | i + 1 => lay4_small (mul4To_small a b i) _
section
variable {K : World} {F : List Assn}
theorem ref04_Mul {A B : Option Addr} {m q cap cap' : Nat} {xs ys : List Nat} (hs : Seq K F A m 1 (nats .i64 xs)) (hq : Seq K F B q 1 (nats .i64 ys)) (hx : Small 2 xs) (hy : Small 2 ys) (hm : m + q ≤ 1000000) :
    Does Tryz.prog 203 #[.slice A m cap, .slice B q cap'] K F (fun v H' => ∃ g, v = .slice (some ⟨g, 0, none⟩) (m + q) (m + q) ∧ H' = Cells g 3 (nats .i64 (mul4 xs ys)) :: F) := by
  have hl : xs.length = m := by simpa [nats] using hs.len
  have hql : ys.length = q := by simpa [nats] using hq.len
  refine Does.enter Tryz.func203 rfl Tryz.ntmps203 rfl ?_
  simp only [env0, Nat.reduceAdd]
  refine WC.sr ?_
  refine WL.val (V.assign (OV.p rfl)) rfl ?_
  refine WL.nil ?_
  refine WC.sr ?_
  refine WL.val (V.move (OV.p rfl)) rfl ?_
  refine WL.val (V.len (t := 42) Tryz.runUnderlying42 (OV.p rfl)) rfl ?_
  refine WL.val (V.move (OV.p rfl)) rfl ?_
  refine WL.val (V.len (t := 42) Tryz.runUnderlying42 (OV.p rfl)) rfl ?_
  refine WL.val (V.addI (OV.p rfl) (OV.p rfl) (fun hc => by first | omega | (simp at hc; omega))) rfl ?_
  refine WL.make1 (m := m + q) Tryz.underlying42 el3 (OV.p rfl) (OV.p rfl) (by omega) (by omega) (by omega) rfl rfl rfl (fun b13 => ?_)
  refine WL.val (V.assign (OV.p rfl)) rfl ?_
  refine WL.nil ?_
  refine WC.seq ?_
  refine WC.sr ?_
  refine WL.val (V.assign (OV.p rfl)) rfl ?_
  refine WL.nil ?_
  refine WC.block ?_
  refine WC.loop (σ := Nat) (fun i => [(0, .slice A m cap), (1, .slice B q cap'), (5, .slice (some ⟨b13, 0, none⟩) (m + q) (m + q)), (6, .int .i64 (i : Int))]) (fun i => Cells b13 3 (nats .i64 (mul4To xs ys i)) :: F) (fun i => i ≤ m) (fun i => m - i) 0 (Nat.zero_le _) (.cons rfl (.cons rfl (.cons rfl (.cons rfl (.nil _))))) (fun w h => Sat.cells_eq h (by rw [mul4To, hl, hql, nats_replicate]; rfl)) ?_
  rintro i hi
  refine WC.seq ?_
  refine WC.sr ?_
  refine WL.val (V.move (OV.p rfl)) rfl ?_
  refine WL.val (V.move (OV.p rfl)) rfl ?_
  refine WL.val (V.len (t := 42) Tryz.runUnderlying42 (OV.p rfl)) rfl ?_
  refine WL.val (V.lss (OV.p rfl) (OV.p rfl)) rfl ?_
  refine WL.nil ?_
  refine WC.cond rfl (fun hc0 => ?_) (fun hc0 => ?_)
  ·simp only [decide_eq_true_eq, decide_eq_false_iff_not] at hc0
   have him : i < m := by omega
   obtain ⟨out, ho⟩ : ∃ out, out = mul4To xs ys i := ⟨_, rfl⟩
   have hol : out.length = m + q := by rw [ho, mul4To_length, hl, hql]
   have hos : Small 2 out := by rw [ho]; exact mul4To_small _ _ _
   rw [← ho]
   obtain ⟨ai, hai⟩ : ∃ ai, ai = xs.getD i 0 := ⟨_, rfl⟩
   have hai2 : ai < 2 := by rw [hai]; exact hx.at_ (by decide) i
   have hrx : Rd K F (A.map (·.add ((i : Int).toNat * 1))) (.int .i64 (ai : Int)) := by
     rw [show (i : Int).toNat = i by omega, hai]; exact hs.nat_rd him
   refine WC.skip ?_
   refine WC.seq ?_
   refine WC.block ?_
   refine WC.sr ?_
   refine WL.val (V.assign (OV.p rfl)) rfl ?_
   refine WL.nil ?_
   refine WC.block ?_
   refine WC.loop (σ := Nat) (fun k => [(0, .slice A m cap), (1, .slice B q cap'), (5, .slice (some ⟨b13, 0, none⟩) (m + q) (m + q)), (6, .int .i64 (i : Int)), (7, .int .i64 (k : Int))]) (fun k => Cells b13 3 (nats .i64 (lay4 out ys i ai k)) :: F) (fun k => k ≤ q) (fun k => q - k) 0 (Nat.zero_le _) (.cons rfl (.cons rfl (.cons rfl (.cons rfl (.cons rfl (.nil _)))))) (fun w h => h) ?_
   rintro k hk
   refine WC.seq ?_
   refine WC.sr ?_
   refine WL.val (V.move (OV.p rfl)) rfl ?_
   refine WL.val (V.move (OV.p rfl)) rfl ?_
   refine WL.val (V.len (t := 42) Tryz.runUnderlying42 (OV.p rfl)) rfl ?_
   refine WL.val (V.lss (OV.p rfl) (OV.p rfl)) rfl ?_
   refine WL.nil ?_
   refine WC.cond rfl (fun hc1 => ?_) (fun hc1 => ?_)
   ·simp only [decide_eq_true_eq, decide_eq_false_iff_not] at hc1
    have hkq : k < q := by omega
    obtain ⟨o, hoe⟩ : ∃ o, o = lay4 out ys i ai k := ⟨_, rfl⟩
    have hoel : o.length = m + q := by rw [hoe, lay4_length, hol]
    have hoes : Small 2 o := by rw [hoe]; exact lay4_small hos k
    rw [← hoe]
    obtain ⟨bk, hbk⟩ : ∃ bk, bk = ys.getD k 0 := ⟨_, rfl⟩
    have hbk2 : bk < 2 := by rw [hbk]; exact hy.at_ (by decide) k
    have hry : Rd K F (B.map (·.add ((k : Int).toNat * 1))) (.int .i64 (bk : Int)) := by
      rw [show (k : Int).toNat = k by omega, hbk]; exact hq.nat_rd hkq
    obtain ⟨c, hc⟩ : ∃ c, c = o.getD (i + k) 0 := ⟨_, rfl⟩
    have hc2 : c < 2 := by rw [hc]; exact hoes.at_ (by decide) _
    have hgo : (nats .i64 o)[0 + ((i : Int) + (k : Int)).toNat * 1]? = some (.int .i64 (c : Int)) := by
      rw [show 0 + ((i : Int) + (k : Int)).toNat * 1 = i + k by omega, hc]; exact nats_get _ _ (by omega)
    have hab : ai * bk ≤ 1 * 1 := Nat.mul_le_mul (by omega) (by omega)
    refine WC.skip ?_
    refine WC.seq ?_
    refine WC.block ?_
    refine WC.regionA F (by kernel_rfl) ?_
    refine WA.t 0 rfl (V.move (OV.p rfl)) ?_
    refine WA.t 1 rfl (V.move (OV.p rfl)) ?_
    refine WA.t 2 rfl (V.move (OV.p rfl)) ?_
    refine WA.t 3 rfl (V.addI (OV.p rfl) (OV.p rfl) (fun hc => by first | omega | (simp at hc; omega))) ?_
    refine WA.t 4 rfl (V.move (OV.p rfl)) ?_
    refine WA.t 5 rfl (V.move (OV.p rfl)) ?_
    refine WA.t 6 rfl (V.move (OV.p rfl)) ?_
    refine WA.t 7 rfl (V.addI (OV.p rfl) (OV.p rfl) (fun hc => by first | omega | (simp at hc; omega))) ?_
    refine WA.t 8 rfl (V.idxB st42 (OV.p rfl) (OV.p rfl) (fun hc => by omega)) ?_
    refine WA.t 10 rfl (V.move (OV.p rfl)) ?_
    refine WA.t 11 rfl (V.move (OV.p rfl)) ?_
    refine WA.t 12 rfl (V.idxS st42 (OV.p rfl) (OV.p rfl) (fun hc => by omega) (fun hc => hrx)) ?_
    refine WA.t 13 rfl (V.load Tryz.isAgg3 (OV.p rfl) (fun hc => hrx)) ?_
    refine WA.t 14 rfl (V.move (OV.p rfl)) ?_
    refine WA.t 15 rfl (V.move (OV.p rfl)) ?_
    refine WA.t 16 rfl (V.idxS st42 (OV.p rfl) (OV.p rfl) (fun hc => by omega) (fun hc => hry)) ?_
    refine WA.t 17 rfl (V.load Tryz.isAgg3 (OV.p rfl) (fun hc => hry)) ?_
    refine WA.t 18 rfl (V.val_eq (v' := .int .i64 ((ai * bk : Nat) : Int)) (V.mulI (OV.p rfl) (OV.p rfl) (fun _ => by rw [← Int.natCast_mul]; omega)) (fun _ => by rw [Int.natCast_mul])) ?_
    refine WA.o 9 rfl ?_
    refine WL.val (V.load Tryz.isAgg3 (OV.p rfl) (fun hc => Rd.here hgo)) rfl ?_
    refine WL.nil ?_
    refine WA.t 19 rfl (V.addI (OV.p rfl) (OV.p rfl) (fun hc => by first | omega | (simp at hc; omega))) ?_
    refine WA.t 20 rfl (V.val_eq (v' := .int .i64 (((c + ai * bk) % 2 : Nat) : Int)) (V.remI (OV.p rfl) (OV.p rfl) (fun _ => by omega)) (fun _ => by congr 1)) ?_
    refine WA.t 21 rfl (V.idxB st42 (OV.p rfl) (OV.p rfl) (fun hc => by omega)) ?_
    refine WA.o 22 rfl ?_
    refine WL.store (cs := [_]) Tryz.sizeOf3 (OV.p rfl) (OV.p rfl) rfl rfl rfl (Upd.at_ (by rw [nats_length]; omega)) ?_
    refine WL.nil ?_
    refine WA.fin ?_
    refine WC.region ?_
    refine WL.val (V.move (OV.p rfl)) rfl ?_
    refine WL.val (V.addI (OV.p rfl) (OV.p rfl) (fun hc => by first | omega | (simp at hc; omega))) rfl ?_
    refine WL.val (V.assign (OV.p rfl)) rfl ?_
    refine WL.nil ?_
    refine ⟨rfl, ?_⟩
    refine ⟨k + 1, hkq, (by show q - (k + 1) < q - k; omega), .cons rfl (.cons rfl (.cons rfl (.cons rfl (.cons (look_eq rfl (by simp)) (.nil _))))), fun w h => Sat.cells_eq h ?_⟩
    rw [show 0 + ((i : Int) + (k : Int)).toNat * 1 = i + k by omega, nats_set, lay4, ← hoe, ← hc, ← hbk]
   ·simp only [decide_eq_true_eq, decide_eq_false_iff_not] at hc1
    refine WC.exit ?_
    refine WC.region ?_
    refine WL.val (V.move (OV.p rfl)) rfl ?_
    refine WL.val (V.addI (OV.p rfl) (OV.p rfl) (fun hc => by first | omega | (simp at hc; omega))) rfl ?_
    refine WL.val (V.assign (OV.p rfl)) rfl ?_
    refine WL.nil ?_
    refine ⟨rfl, ?_⟩
    exact ⟨i + 1, him, (by show m - (i + 1) < m - i; omega), .cons rfl (.cons rfl (.cons rfl (.cons (look_eq rfl (by simp)) (.nil _)))), fun w h => Sat.cells_eq h (by rw [mul4To, ← ho, ← hai, hql, show k = q by omega])⟩
  ·simp only [decide_eq_true_eq, decide_eq_false_iff_not] at hc0
   refine WC.exit ?_
   refine WC.sr ?_
   refine WL.val (V.move (OV.p rfl)) rfl ?_
   refine WL.val (V.assign (OV.p rfl)) rfl ?_
   refine WL.nil ?_
   refine WC.ret ?_
   obtain rfl : i = m := by omega
   exact BodyQ.ret (H' := Cells b13 _ _ :: F) (Res.tmp rfl rfl) (fun w h => Sat.cells_eq h (by unfold mul4; rw [hl])) ⟨b13, rfl, rfl⟩
end
end Go.Proofs.YtohkefolnmcjnaaGreat
/- Bytes as rows of bits: what laying over, products and rests turn. -/
namespace Go.Proofs.YtohkefolnmcjnaaGreat
open Go.Sl Go.RowKit
set_option linter.unusedVariables false
set_option linter.unusedSimpArgs false
set_option maxRecDepth 20000

theorem getD_set {xs : List Nat} {i j x : Nat} : (xs.set i x).getD j 0 = if i = j ∧ j < xs.length then x else xs.getD j 0 := by
  simp only [List.getD, List.getElem?_set]
  by_cases h : i = j
  · subst h
    by_cases hl : i < xs.length
    · simp [hl]
    · simp [hl, List.getElem?_eq_none (Nat.le_of_not_lt hl)]
  · simp [h]
theorem testBit_mul_pow {x s i : Nat} : (x * 2 ^ s).testBit i = (decide (s ≤ i) && x.testBit (i - s)) := by
  rw [← Nat.shiftLeft_eq, Nat.testBit_shiftLeft]
theorem testBit_mod256 {x i : Nat} (h : i < 8) : (x % 256).testBit i = x.testBit i := by
  rw [show (256 : Nat) = 2 ^ 8 from rfl, Nat.testBit_mod_two_pow]; simp [h]
theorem testBit_div256 {x i : Nat} : (x / 256).testBit i = x.testBit (8 + i) := by
  rw [show (256 : Nat) = 2 ^ 8 from rfl, Nat.testBit_div_two_pow, Nat.add_comm]
theorem testBit_byte {x i : Nat} (hx : x < 256) (hi : 8 ≤ i) : x.testBit i = false := Nat.testBit_lt_two_pow (Nat.lt_of_lt_of_le hx (Nat.pow_le_pow_right (n := 2) (by decide) hi))
theorem bitAt_none {xs : List Nat} {k : Nat} (h : 8 * xs.length ≤ k) : bitAt xs k = false := by
  unfold bitAt
  rw [show xs.getD (k / 8) 0 = 0 by rw [List.getD, List.getElem?_eq_none (by omega)]; rfl]
  exact Nat.zero_testBit _
theorem bitAt_addTo {out p : List Nat} {at_ : Nat} (ho : Small 256 out) (hp : Small 256 p) : ∀ (j : Nat), j + at_ / 8 < out.length → ∀ k, bitAt (addTo out p at_ j) k = (bitAt out k ^^ (decide (at_ ≤ k) && decide (k - at_ < 8 * j) && bitAt p (k - at_)))
  | 0, _, k => by simp [-List.getD_eq_getElem?_getD, addTo]
  | j + 1, hj, k => by
    have ih := bitAt_addTo (at_ := at_) ho hp j (by omega) k
    have hlen := addTo_length out p at_ j
    have hpj := hp.at_ (by decide) j
    -- the byte's bits
    have hw : ∀ i, (p.getD j 0 * 2 ^ (at_ % 8)).testBit i = (decide (at_ % 8 ≤ i) && (p.getD j 0).testBit (i - at_ % 8)) := fun i => testBit_mul_pow
    have hw255 : ¬ 255 < p.getD j 0 * 2 ^ (at_ % 8) → p.getD j 0 * 2 ^ (at_ % 8) / 256 = 0 := fun h => by omega
    have hbit : ∀ o : List Nat, o = addTo out p at_ j → bitAt (addTo out p at_ (j + 1)) k = (bitAt o k ^^ ((decide (k / 8 = j + at_ / 8) && (p.getD j 0 * 2 ^ (at_ % 8)).testBit (k % 8)) || (decide (k / 8 = j + at_ / 8 + 1) && (p.getD j 0 * 2 ^ (at_ % 8)).testBit (8 + k % 8)))) := by
      intro o hoe
      have hk8 : k % 8 < 8 := Nat.mod_lt _ (by decide)
      have hol : o.length = out.length := by rw [hoe]; exact hlen
      rw [addTo, ← hoe]
      split
      · unfold bitAt
        simp only [getD_set, List.length_set]
        by_cases h1 : j + at_ / 8 + 1 = k / 8
        · rw [if_pos ⟨h1, by omega⟩, if_neg (by omega), Nat.testBit_xor, testBit_div256]
          have e1 : ¬ k / 8 = j + at_ / 8 := by omega
          simp [-List.getD_eq_getElem?_getD, e1, ← h1]
        · rw [if_neg (by omega)]
          by_cases h2 : j + at_ / 8 = k / 8
          · rw [if_pos ⟨h2, by omega⟩, Nat.testBit_xor, testBit_mod256 hk8]
            have e1 : ¬ k / 8 = j + at_ / 8 + 1 := by omega
            simp [-List.getD_eq_getElem?_getD, e1, ← h2]
          · rw [if_neg (by omega)]
            have e1 : ¬ k / 8 = j + at_ / 8 + 1 := by omega
            have e2 : ¬ k / 8 = j + at_ / 8 := by omega
            simp [-List.getD_eq_getElem?_getD, e1, e2]
      · rename_i hs
        unfold bitAt
        rw [getD_set]
        have hz : (p.getD j 0 * 2 ^ (at_ % 8)).testBit (8 + k % 8) = false := by rw [← testBit_div256, hw255 hs]; exact Nat.zero_testBit _
        by_cases h2 : j + at_ / 8 = k / 8
        · rw [if_pos ⟨h2, by omega⟩, Nat.testBit_xor, testBit_mod256 hk8]
          simp [-List.getD_eq_getElem?_getD, hz, ← h2]
        · rw [if_neg (by omega)]
          have e2 : ¬ k / 8 = j + at_ / 8 := by omega
          simp [-List.getD_eq_getElem?_getD, hz, e2]
    rw [hbit _ rfl, ih, Bool.xor_assoc]
    congr 1
    rw [hw, hw]
    -- where k stands
    by_cases hka : at_ ≤ k
    · obtain ⟨r, hr⟩ : ∃ r, r = k - at_ := ⟨_, rfl⟩
      rw [← hr]
      by_cases h1 : k / 8 = j + at_ / 8
      · have e1 : ¬ k / 8 = j + at_ / 8 + 1 := by omega
        by_cases h2 : at_ % 8 ≤ k % 8
        · have hrj : r / 8 = j := by omega
          have hrm : r % 8 = k % 8 - at_ % 8 := by omega
          have hbp : bitAt p r = (p.getD j 0).testBit (k % 8 - at_ % 8) := by unfold bitAt; rw [hrj, hrm]
          have e3 : ¬ r < 8 * j := by omega
          have e4 : r < 8 * (j + 1) := by omega
          simp [-List.getD_eq_getElem?_getD, h1, e1, h2, hka, hbp, e3, e4]
        · have e3 : (r < 8 * j ↔ r < 8 * (j + 1)) := by omega
          have e5 : decide (r < 8 * (j + 1)) = decide (r < 8 * j) := decide_eq_decide.2 e3.symm
          simp [-List.getD_eq_getElem?_getD, h1, e1, h2, hka, e5]
      · by_cases h3 : k / 8 = j + at_ / 8 + 1
        · have h8 : at_ % 8 ≤ 8 + k % 8 := by omega
          by_cases h4 : 8 + k % 8 - at_ % 8 < 8
          · have hrj : r / 8 = j := by omega
            have hrm : r % 8 = 8 + k % 8 - at_ % 8 := by omega
            have hbp : bitAt p r = (p.getD j 0).testBit (8 + k % 8 - at_ % 8) := by unfold bitAt; rw [hrj, hrm]
            have e3 : ¬ r < 8 * j := by omega
            have e4 : r < 8 * (j + 1) := by omega
            simp [-List.getD_eq_getElem?_getD, h1, h3, h8, hka, hbp, e3, e4]
          · have hz := testBit_byte hpj (i := 8 + k % 8 - at_ % 8) (by omega)
            have e3 : ¬ r < 8 * j := by omega
            have e4 : ¬ r < 8 * (j + 1) := by omega
            simp [-List.getD_eq_getElem?_getD, h1, h3, hz, e3, e4]
        · have e5 : decide (r < 8 * (j + 1)) = decide (r < 8 * j) := decide_eq_decide.2 (by omega)
          simp [-List.getD_eq_getElem?_getD, h1, h3, e5]
    · have e1 : (decide (k / 8 = j + at_ / 8) && (decide (at_ % 8 ≤ k % 8) && (p.getD j 0).testBit (k % 8 - at_ % 8))) = false := by
        by_cases h1 : k / 8 = j + at_ / 8
        · have : ¬ at_ % 8 ≤ k % 8 := by omega
          simp [-List.getD_eq_getElem?_getD, this]
        · simp [-List.getD_eq_getElem?_getD, h1]
      have e2 : ¬ k / 8 = j + at_ / 8 + 1 := by omega
      simp [-List.getD_eq_getElem?_getD, hka, e1, e2]
/-- q has degree d. -/
def HasDeg (q : List Nat) (d : Nat) : Prop := bitAt q d = true ∧ ∀ k, d < k → bitAt q k = false
theorem bmod_high {p q : List Nat} {lq d : Nat} (hp : Small 256 p) (hq : Small 256 q) (hlq : q.length = lq) (hld : lq = d / 8 + 1) (hd : HasDeg q d) : ∀ k, k ≤ 8 * p.length - d → ∀ b, 8 * p.length - k ≤ b → bitAt (bmodTo p q lq d k) b = false
  | 0, _, b, hb => by
    rw [bmodTo]
    unfold bitAt
    by_cases h : b / 8 = p.length
    · have e : (p ++ [0]).getD (b / 8) 0 = (0 : Nat) := by rw [h]; simp [List.getD]
      rw [e]; exact Nat.zero_testBit _
    · have e : (p ++ [0]).getD (b / 8) 0 = (0 : Nat) := by rw [List.getD, List.getElem?_eq_none (by simp; omega)]; rfl
      rw [e]; exact Nat.zero_testBit _
  | k + 1, hk, b, hb => by
    have ih := bmod_high hp hq hlq hld hd k (by omega)
    subst hlq
    rw [bmodTo]
    split
    · rename_i hbit
      rw [bitAt_addTo (bmodTo_small hp hq k) hq _ (by rw [bmodTo_length]; omega)]
      obtain ⟨i, hi⟩ : ∃ i, i = 8 * p.length - 1 - k := ⟨_, rfl⟩
      rw [← hi] at hbit ⊢
      by_cases h1 : b = i
      · subst h1
        have e1 : b - (b - d) = d := by omega
        rw [hbit, e1, hd.1]
        have e2 : b - d ≤ b := by omega
        have e3 : d < 8 * q.length := by omega
        simp [e2, e3]
      · rw [ih b (by omega), hd.2 (b - (i - d)) (by omega)]
        simp
    · rename_i hbit
      by_cases h1 : b = 8 * p.length - 1 - k
      · subst h1; simpa using hbit
      · exact ih b (by omega)
theorem bmod_rest {p q : List Nat} {lq d : Nat} (hp : Small 256 p) (hq : Small 256 q) (hlq : q.length = lq) (hld : lq = d / 8 + 1) (hd : HasDeg q d) {b : Nat} (hb : d ≤ b) : bitAt (bmodTo p q lq d (8 * p.length - d)) b = false := by
  by_cases h : d ≤ 8 * p.length
  · exact bmod_high hp hq hlq hld hd _ (Nat.le_refl _) b (by omega)
  · have := bmod_high hp hq hlq hld hd 0 (Nat.zero_le _) b (by omega)
    rwa [show 8 * p.length - d = 0 by omega]
/-- Of bytes whose bits from b on are nought just the first ones count. -/
theorem normLen_bits {xs : List Nat} {b : Nat} (hx : Small 256 xs) (h : ∀ k, b ≤ k → bitAt xs k = false) : ∀ n, normLen xs n ≤ (b + 7) / 8
  | 0 => Nat.zero_le _
  | n + 1 => by
    rw [normLen]
    split
    · exact normLen_bits hx h n
    · rename_i hne
      rcases Nat.lt_or_ge n ((b + 7) / 8) with h1 | h1
      · omega
      · exfalso
        apply hne
        apply Nat.eq_of_testBit_eq
        intro i
        rw [Nat.zero_testBit]
        by_cases hi : i < 8
        · have := h (8 * n + i) (by omega)
          unfold bitAt at this
          rwa [show (8 * n + i) / 8 = n by omega, show (8 * n + i) % 8 = i by omega] at this
        · exact testBit_byte (hx.at_ (by decide) _) (by omega)
/-- What was asked of the generators. -/
def genDegOk (t : Nat) : Bool := decide (degB (genB t) (genB t).length = ((13 * t : Nat) : Int)) && decide (normLen (genB t) (genB t).length = 13 * t / 8 + 1) && decide ((genB t).length = 13 * t / 8 + 1) && bitAt (genB t) (13 * t) && (List.range (8 * (genB t).length)).all (fun k => decide (k ≤ 13 * t) || !bitAt (genB t) k) && (genB t).all (fun x => decide (x < 256))
theorem gen_deg : [1, 2, 3, 4, 5, 6, 7, 8].all genDegOk = true := by kernel_rfl
theorem gen_facts {t : Nat} (ht : 1 ≤ t ∧ t ≤ 8) : degB (genB t) (genB t).length = ((13 * t : Nat) : Int) ∧ normLen (genB t) (genB t).length = 13 * t / 8 + 1 ∧ (genB t).length = 13 * t / 8 + 1 ∧ HasDeg (genB t) (13 * t) ∧ Small 256 (genB t) := by
  have h := List.all_eq_true.1 gen_deg t (by simp only [List.mem_cons, List.not_mem_nil, or_false]; omega)
  simp only [genDegOk, Bool.and_eq_true, decide_eq_true_eq, List.all_eq_true, List.mem_range, Bool.or_eq_true, Bool.not_eq_true'] at h
  obtain ⟨⟨⟨⟨⟨h1, h2⟩, h3⟩, h4⟩, h5⟩, h6⟩ := h
  refine ⟨h1, h2, h3, ⟨h4, fun k hk => ?_⟩, h6⟩
  rcases Nat.lt_or_ge k (8 * (genB t).length) with h | h
  · rcases h5 k h with h' | h'
    · omega
    · exact h'
  · exact bitAt_none h
end Go.Proofs.YtohkefolnmcjnaaGreat
/- casemateref04.Mod: bits. -/
namespace Go.Proofs.YtohkefolnmcjnaaGreat
open Go.Sl Go.RowKit
set_option linter.unusedVariables false
set_option linter.unusedSimpArgs false
set_option maxRecDepth 20000

/-- From the top down: where the bit is 1, g is laid over it. k places are done. -/
def redTo (f g : Nat → Bool) (d N : Nat) : Nat → Nat → Bool
  | 0, j => f j
  | k + 1, j => if redTo f g d N k (N - 1 - k) then (redTo f g d N k j ^^ (decide (N - 1 - k - d ≤ j) && g (j - (N - 1 - k - d)))) else redTo f g d N k j
theorem redTo_skip {f g : Nat → Bool} {d N k : Nat} : ∀ m, (∀ i, N - k - m ≤ i → i < N - k → redTo f g d N k i = false) → m ≤ N - k → ∀ j, redTo f g d N (k + m) j = redTo f g d N k j
  | 0, _, _, j => rfl
  | m + 1, h, hm, j => by
    have ih := redTo_skip (f := f) (g := g) (d := d) m (fun i h1 h2 => h i (by omega) h2) (by omega)
    rw [← Nat.add_assoc, redTo, ih (N - 1 - (k + m)), h (N - 1 - (k + m)) (by omega) (by omega)]
    exact ih j
/-- Behind k places all bits from N - k on are nought. -/
theorem redTo_high {f g : Nat → Bool} {d N : Nat} (hf : ∀ i, N ≤ i → f i = false) (hg : g d = true) (hgh : ∀ i, d < i → g i = false) : ∀ k, k ≤ N - d → ∀ j, N - k ≤ j → redTo f g d N k j = false
  | 0, _, j, hj => hf j (by omega)
  | k + 1, hk, j, hj => by
    have ih := redTo_high hf hg hgh k (by omega)
    rw [redTo]
    split
    · rename_i hb
      by_cases h1 : j = N - 1 - k
      · rw [← h1] at hb ⊢
        rw [hb, decide_eq_true (by omega), show j - (j - d) = d by omega, hg]; rfl
      · rw [ih j (by omega), hgh _ (by omega), Bool.and_false]; rfl
    · rename_i hb
      by_cases h1 : j = N - 1 - k
      · rw [h1]; simpa using hb
      · exact ih j (by omega)
/-- Places above f's bits do not count. -/
theorem redTo_more {f g : Nat → Bool} {d N : Nat} (hf : ∀ i, N ≤ i → f i = false) : ∀ m k, (∀ j, redTo f g d (N + m) (m + k) j = redTo f g d N k j)
  | m, 0 => fun j => by
    have h := redTo_skip (f := f) (g := g) (d := d) (N := N + m) (k := 0) m (fun i h1 h2 => hf i (by omega)) (by omega) j
    rw [Nat.zero_add] at h
    rw [Nat.add_zero, h]; rfl
  | m, k + 1 => fun j => by
    have ih := redTo_more (f := f) (g := g) (d := d) hf m k
    rw [← Nat.add_assoc, redTo, redTo, show N + m - 1 - (m + k) = N - 1 - k by omega]
    simp only [ih]
theorem bitAt_snoc (p : List Nat) (j : Nat) : bitAt (p ++ [0]) j = bitAt p j := by
  unfold bitAt
  congr 1
  by_cases h : j / 8 < p.length
  · simp [List.getD, List.getElem?_append_left h]
  · simp only [List.getD]
    rw [List.getElem?_append_right (by omega), List.getElem?_eq_none (by omega : p.length ≤ j / 8)]
    rcases Nat.eq_zero_or_pos (j / 8 - p.length) with h2 | h2
    · rw [h2]; rfl
    · rw [List.getElem?_eq_none (by simp; omega)]
theorem bmod_red {p q : List Nat} {lq d : Nat} (hp : Small 256 p) (hq : Small 256 q) (hlq : q.length = lq) (hld : lq = d / 8 + 1) : ∀ k, k ≤ 8 * p.length - d → ∀ j, bitAt (bmodTo p q lq d k) j = redTo (bitAt p) (bitAt q) d (8 * p.length) k j
  | 0, _, j => by rw [bmodTo, bitAt_snoc]; rfl
  | k + 1, hk, j => by
    have ih := bmod_red hp hq hlq hld k (by omega)
    rw [bmodTo, redTo, ← ih (8 * p.length - 1 - k)]
    split
    · rename_i hb
      rw [← hlq, bitAt_addTo (bmodTo_small (lq := q.length) (d := d) hp hq k) hq _ (by rw [bmodTo_length, hlq]; omega), hlq, ih j]
      congr 1
      by_cases h : j - (8 * p.length - 1 - k - d) < 8 * q.length
      · rw [← hlq, decide_eq_true h, Bool.and_true]
      · rw [← hlq, decide_eq_false h, Bool.and_false, Bool.false_and, bitAt_none (by omega), Bool.and_false]
    · exact ih j
/-! ### Lists of bits -/
def bitL (xs : List Nat) (i : Nat) : Bool := decide (xs.getD i 0 = 1)
def lay2 (out b : List Nat) (s : Nat) : Nat → List Nat
  | 0 => out
  | k + 1 => (lay2 out b s k).set (s + k) (((lay2 out b s k).getD (s + k) 0 + b.getD k 0) % 2)
theorem lay2_length (out b : List Nat) (s : Nat) : ∀ k, (lay2 out b s k).length = out.length
  | 0 => rfl
  | k + 1 => by rw [lay2, List.length_set, lay2_length]
theorem lay2_small {out b : List Nat} {s : Nat} (h : Small 2 out) : ∀ k, Small 2 (lay2 out b s k)
  | 0 => h
  | k + 1 => (lay2_small h k).set (Nat.mod_lt _ (by decide))
theorem bitL_none {xs : List Nat} {i : Nat} (h : xs.length ≤ i) : bitL xs i = false := by
  unfold bitL
  rw [List.getD, List.getElem?_eq_none h]; rfl
theorem bitL_lay {out b : List Nat} {s : Nat} (ho : Small 2 out) (hb : Small 2 b) : ∀ k, s + k ≤ out.length → ∀ j, bitL (lay2 out b s k) j = (bitL out j ^^ (decide (s ≤ j) && decide (j - s < k) && bitL b (j - s)))
  | 0, _, j => by simp [lay2, -List.getD_eq_getElem?_getD]
  | k + 1, hk, j => by
    have ih := bitL_lay (s := s) ho hb k (by omega)
    have hlen := lay2_length out b s k
    have h1 := (lay2_small (b := b) (s := s) ho k).at_ (by decide) (s + k)
    have h2 : b.getD k 0 < 2 := hb.at_ (by decide) k
    have ihk := ih (s + k)
    rw [decide_eq_false (show ¬ s + k - s < k by omega), Bool.and_false, Bool.false_and, Bool.xor_false] at ihk
    rw [lay2]
    unfold bitL at ih ihk ⊢
    rw [getD_set]
    by_cases hj : s + k = j
    · subst hj
      rw [if_pos (show s + k = s + k ∧ s + k < (lay2 out b s k).length from ⟨rfl, by omega⟩), ← ihk, decide_eq_true (show s ≤ s + k by omega), show s + k - s = k by omega, decide_eq_true (show k < k + 1 by omega), Bool.true_and, Bool.true_and]
      rcases Nat.lt_or_ge ((lay2 out b s k).getD (s + k) 0) 1 with e | e <;> rcases Nat.lt_or_ge (b.getD k 0) 1 with f | f
      · rw [show (lay2 out b s k).getD (s + k) 0 = 0 by omega, show b.getD k 0 = 0 by omega]; rfl
      · rw [show (lay2 out b s k).getD (s + k) 0 = 0 by omega, show b.getD k 0 = 1 by omega]; rfl
      · rw [show (lay2 out b s k).getD (s + k) 0 = 1 by omega, show b.getD k 0 = 0 by omega]; rfl
      · rw [show (lay2 out b s k).getD (s + k) 0 = 1 by omega, show b.getD k 0 = 1 by omega]; rfl
    · rw [if_neg (fun h => hj h.1), ih j]
      congr 2
      by_cases hs : s ≤ j
      · rw [decide_eq_true hs, Bool.true_and, Bool.true_and]
        apply decide_eq_decide.2; omega
      · rw [decide_eq_false hs]; rfl
end Go.Proofs.YtohkefolnmcjnaaGreat
