/- ecc: Room, Pack. -/
import Derived.Test.YtohkefolnmcjnaaB9
import Derived.Test.YtohkefolnmcjnaaBC
namespace Go.Proofs.Ytohkefolnmcjnaa
open Go.Sl Go.RowKit
set_option linter.unusedVariables false
set_option linter.unusedSimpArgs false
set_option maxRecDepth 20000

/-- A geometry, S sectors of B bytes, t flips. -/
abbrev NG (bl pg : Int) (S B t : Nat) : Geo := ⟨bl, pg, (S : Int), (B : Int), (t : Int)⟩
def rawN (S B t : Nat) : Nat := S * (B + moreLen t) + 1
structure NGood (S B t : Nat) : Prop where
  s : 1 ≤ S ∧ S ≤ 8
  b : 4 ≤ B ∧ B ≤ 512
  t : 1 ≤ t ∧ t ≤ 8
theorem NGood.of {bl pg : Int} {S B t : Nat} (h : (NG bl pg S B t).mays) : NGood S B t := by
  unfold Geo.mays at h
  dsimp only at h
  exact ⟨by omega, by omega, by omega⟩
theorem NG.whole {bl pg : Int} {S B t : Nat} : (NG bl pg S B t).whole = ((B + moreLen t : Nat) : Int) := by
  unfold Geo.whole Geo.more moreLen
  dsimp only
  omega
theorem NG.raw {bl pg : Int} {S B t : Nat} : (NG bl pg S B t).raw = ((rawN S B t : Nat) : Int) := by
  unfold Geo.raw rawN
  rw [NG.whole]
  dsimp only
  simp
theorem NG.room {bl pg : Int} {S B t : Nat} : (NG bl pg S B t).room = ((S * B : Nat) : Int) := by
  unfold Geo.room
  dsimp only
  rw [Int.natCast_mul]
def sect (B : Nat) (d : List Nat) (j : Nat) : List Nat := (d.drop (j * B)).take B
def pkTo (t B : Nat) (d : List Nat) : Nat → List Nat
  | 0 => []
  | j + 1 => (pkTo t B d j ++ sect B d j) ++ encB t (sect B d j)
def packF (t S B : Nat) (d : List Nat) : List Nat := pkTo t B d S ++ [0]
theorem Small.drop {b n : Nat} {xs : List Nat} (h : Small b xs) : Small b (xs.drop n) := fun y hy => h y (List.mem_of_mem_drop hy)
theorem sect_small {B : Nat} {d : List Nat} (h : Small 256 d) (j : Nat) : Small 256 (sect B d j) := Small.take (Small.drop h)
theorem sect_length {B j S : Nat} {d : List Nat} (h : d.length = S * B) (hj : j < S) : (sect B d j).length = B := by
  unfold sect
  rw [List.length_take, List.length_drop, h]
  have : (j + 1) * B ≤ S * B := Nat.mul_le_mul_right _ hj
  rw [Nat.succ_mul] at this
  omega
theorem pkTo_length {t B S : Nat} {d : List Nat} (ht : 1 ≤ t ∧ t ≤ 8) (h8 : Small 256 d) (h : d.length = S * B) : ∀ j, j ≤ S → (pkTo t B d j).length = j * (B + moreLen t)
  | 0, _ => by simp [pkTo]
  | j + 1, hj => by
    rw [pkTo, List.length_append, List.length_append, pkTo_length ht h8 h j (by omega), sect_length h (by omega), encB_length ht (sect_small h8 j), Nat.succ_mul]
    omega
theorem pkTo_small {t B : Nat} {d : List Nat} (ht : 1 ≤ t ∧ t ≤ 8) (h8 : Small 256 d) : ∀ j, Small 256 (pkTo t B d j)
  | 0 => fun x hx => by simp [pkTo] at hx
  | j + 1 => ((pkTo_small ht h8 j).append (sect_small h8 j)).append (encB_small ht (sect_small h8 j))
theorem packF_length {t B S : Nat} {d : List Nat} (ht : 1 ≤ t ∧ t ≤ 8) (h8 : Small 256 d) (h : d.length = S * B) : (packF t S B d).length = rawN S B t := by
  unfold packF rawN
  rw [List.length_append, pkTo_length ht h8 h S (Nat.le_refl _)]; rfl
theorem packF_small {t B S : Nat} {d : List Nat} (ht : 1 ≤ t ∧ t ≤ 8) (h8 : Small 256 d) : Small 256 (packF t S B d) := (pkTo_small ht h8 S).append (fun x hx => by rw [List.mem_singleton.1 hx]; decide)
theorem _root_.Go.Sl.Seq.dropS {K : World} {H : List Assn} {A : Option Addr} {m l u : Nat} {vs : List Value} (hs : Seq K H A m 1 vs) (hl : l ≤ m) (hu : m ≤ u) : Seq K H (if u = l then A else A.map (·.add (l * 1))) (m - l) 1 (vs.drop l) := by
  have hlen := hs.len
  refine ⟨by rw [List.length_drop]; omega, fun i v hi => ?_⟩
  rw [List.getElem?_drop] at hi
  have hil : l + i < vs.length := (List.getElem?_eq_some_iff.1 hi).1
  rw [if_neg (by omega)]
  have := hs.rd (l + i) v hi
  intro w hw
  obtain ⟨a, h1, h2⟩ := this w hw
  cases A with
  | none => simp at h1
  | some a' =>
    refine ⟨_, rfl, ?_⟩
    simp only [Option.map_some, Option.some.injEq] at h1
    rw [← h1] at h2
    have h3 : ((a'.add (l * 1)).add i) = a'.add (l + i) := by rw [Nat.mul_one]; rcases Nat.eq_zero_or_pos l with h | h; · { subst h; rw [Nat.zero_add]; rfl }; · { rcases Nat.eq_zero_or_pos i with h' | h'; · { subst h'; rfl }; · { unfold Addr.add; rw [if_neg (by omega), if_neg (by omega), if_neg (by omega), Nat.add_assoc] } }
    show w.cell? ((a'.add (l * 1)).add i) = some v
    rw [h3]
    exact h2

section
variable {K : World} {F : List Assn}
theorem ecc_Room (g : Geo) : Tells Try.prog 26 #[g.v] K F (.tuple (if g.may then #[.int .i64 g.room, .int .i64 0] else #[.int .i64 0, .int .i64 1])) := by
  refine Does.enter Try.func26 rfl Try.ntmps26 rfl ?_
  simp only [env0, Nat.reduceAdd]
  refine WC.seq ?_
  refine WC.region ?_
  refine WL.box (cs := [_, _, _, _, _]) (OV.p rfl) rfl rfl (fun b1 => ?_)
  refine WL.val (V.assign (OV.p rfl)) rfl ?_
  refine WL.val (V.assign (OV.p rfl)) rfl ?_
  refine WL.nil ?_
  refine WC.seq ?_
  refine WC.seq ?_
  refine WC.region ?_
  refine WL.val (V.loadA (vs := [_, _, _, _, _]) ⟨Try.isAgg23, Try.sizeOf23⟩ (OV.p rfl) rfl (fun _ => by repeat (first | exact Rds.gets ⟨rfl, rfl, rfl, rfl, rfl, trivial⟩ | apply Rds.up))) rfl ?_
  refine WL.call (vs := [_]) Try.call41 ⟨OV.p rfl, trivial⟩ (ecc_Check g _ _) rfl ?_
  rintro _ H0 ⟨rfl, h0⟩
  subst H0
  refine WL.val (V.assign (OV.p rfl)) rfl ?_
  refine WL.nil ?_
  refine WC.seq ?_
  refine WC.region ?_
  refine WL.val (V.move (OV.p rfl)) rfl ?_
  refine WL.val (V.neq (OV.p rfl) (OV.p rfl)) rfl ?_
  refine WL.nil ?_
  refine WC.cond rfl (fun hc0 => ?_) (fun hc0 => ?_)
  · skip
    have hm : g.may = false := by cases h : g.may <;> simp [h] at hc0 ⊢
    refine WC.seq ?_
    refine WC.region ?_
    refine WL.val (V.move (OV.p rfl)) rfl ?_
    refine WL.val (V.assign (OV.p rfl)) rfl ?_
    refine WL.val (V.assign (OV.p rfl)) rfl ?_
    refine WL.nil ?_
    refine WC.ret ?_
    rw [hm]
    exact BodyQ.ret (H' := F) (Res.tmp2 rfl rfl rfl) (fun w h => h.drop 1) ⟨rfl, rfl⟩
  · skip
    have hm : g.may = true := by cases h : g.may <;> simp [h] at hc0 ⊢
    have hb := Geo.mays_of hm
    have hr := Geo.mul_bd (a := g.se) (b := g.sb) (A := 8) (B := 512) (by unfold Geo.mays at hb; omega) (by unfold Geo.mays at hb; omega) (by unfold Geo.mays at hb; omega) (by unfold Geo.mays at hb; omega)
    refine WC.skip ?_
    refine WC.seq ?_
    refine WC.region ?_
    refine WL.val (V.fieldAddr fo23_2 (OV.p rfl)) rfl ?_
    refine WL.val (V.load Try.isAgg3 (OV.p rfl) (fun _ => by repeat (first | exact Rd.here rfl | apply Rd.up))) rfl ?_
    refine WL.val (V.fieldAddr fo23_3 (OV.p rfl)) rfl ?_
    refine WL.val (V.load Try.isAgg3 (OV.p rfl) (fun _ => by repeat (first | exact Rd.here rfl | apply Rd.up))) rfl ?_
    refine WL.val (V.mulI (OV.p rfl) (OV.p rfl) (fun hc => by omega)) rfl ?_
    refine WL.val (V.assign (OV.p rfl)) rfl ?_
    refine WL.val (V.assign (OV.p rfl)) rfl ?_
    refine WL.nil ?_
    refine WC.ret ?_
    refine BodyQ.ret (H' := F) (Res.tmp2 rfl rfl rfl) (fun w h => h.drop 1) ⟨?_, rfl⟩
    rw [hm]; rfl
theorem ecc_Pack {bl pg : Int} {S B t : Nat} {A : Option Addr} {m cap : Nat} {d : List Nat} (hg : (NG bl pg S B t).mays) (hd : Seq K F A m 1 (nats .u8 d)) (h8 : Small 256 d) (hm : m = S * B) (hmc : m ≤ cap) :
    Does Try.prog 28 #[(NG bl pg S B t).v, .slice A m cap] K F
      (fun v H' => ∃ A' cap', v = .tuple #[.slice A' (rawN S B t) cap', .int .i64 0] ∧ H' = SlA (.slice A' (rawN S B t) cap') 5 1 (rawN S B t) (nats .u8 (packF t S B d)) :: F) := by
  have hl : d.length = m := by simpa [nats] using hd.len
  have hmay : (NG bl pg S B t).may = true := decide_eq_true hg
  have hN := NGood.of hg
  obtain ⟨hs, hb, ht⟩ := hN
  have hmore : 2 ≤ moreLen t ∧ moreLen t ≤ 13 := by unfold moreLen; omega
  have hmle : m ≤ 4096 := by rw [hm]; exact Nat.mul_le_mul hs.2 hb.2
  have hm1 : 1 * 4 ≤ m := by rw [hm]; exact Nat.mul_le_mul hs.1 hb.1
  refine Does.enter Try.func28 rfl Try.ntmps28 rfl ?_
  simp only [env0, Nat.reduceAdd]
  refine WC.seq ?_
  refine WC.region ?_
  refine WL.box (cs := [_, _, _, _, _]) (OV.p rfl) rfl rfl (fun b2 => ?_)
  refine WL.val (V.assign (OV.p rfl)) rfl ?_
  refine WL.val (V.assign (OV.p rfl)) rfl ?_
  refine WL.nil ?_
  refine WC.seq ?_
  refine WC.region ?_
  refine WL.val (V.loadA (vs := [_, _, _, _, _]) ⟨Try.isAgg23, Try.sizeOf23⟩ (OV.p rfl) rfl (fun _ => by repeat (first | exact Rds.gets ⟨rfl, rfl, rfl, rfl, rfl, trivial⟩ | apply Rds.up))) rfl ?_
  refine WL.call (vs := [_]) Try.call26 ⟨OV.p rfl, trivial⟩ (Tells.eq (v' := .tuple #[.int .i64 (m : Int), .int .i64 0]) (ecc_Room (NG bl pg S B t)) (by rw [hmay, NG.room, hm]; rfl)) rfl ?_
  rintro _ H0 ⟨rfl, h0⟩
  subst H0
  refine WL.val (V.move (OV.p rfl)) rfl ?_
  refine WL.val (V.extract (OV.p rfl) rfl) rfl ?_
  refine WL.val (V.extract (OV.p rfl) rfl) rfl ?_
  refine WL.val (V.assign (OV.p rfl)) rfl ?_
  refine WL.val (V.assign (OV.p rfl)) rfl ?_
  refine WL.nil ?_
  refine WC.seq ?_
  refine WC.seq ?_
  refine WC.region ?_
  refine WL.val (V.move (OV.p rfl)) rfl ?_
  refine WL.val (V.neq (OV.p rfl) (OV.p rfl)) rfl ?_
  refine WL.val (V.move (OV.p rfl)) rfl ?_
  refine WL.valG (oj := _) rfl rfl rfl GC.f (V.move (OV.p rfl)) rfl ?_
  refine WL.valG (oj := _) rfl rfl rfl GC.f (V.len (t := 24) Try.runUnderlying24 (OV.g rfl id)) rfl ?_
  refine WL.valG (oj := _) rfl rfl rfl GC.f (V.move (OV.p rfl)) rfl ?_
  refine WL.valG (oj := _) rfl rfl rfl GC.f (V.neq (OV.g rfl id) (OV.g rfl id)) rfl ?_
  refine WL.val (V.pickOr (OV.p rfl) (OV.g rfl id)) rfl ?_
  refine WL.nil ?_
  refine WC.condF' rfl (by first | rfl | (simp; done) | (simp; omega)) ?_
  refine WC.skip ?_
  refine WC.seq ?_
  refine WC.region ?_
  refine WL.val (V.assign (OV.p rfl)) rfl ?_
  refine WL.nil ?_
  refine WC.seq ?_
  refine WC.block ?_
  refine WC.loop (σ := Nat × Option Addr × Nat × Option Addr × Nat) (fun x => [(1, .slice x.2.1 (m - x.1 * B) x.2.2.1), (2, ptr b2 0), (8, .slice x.2.2.2.1 (x.1 * (B + moreLen t)) x.2.2.2.2)]) (fun x => SlA (.slice x.2.2.2.1 (x.1 * (B + moreLen t)) x.2.2.2.2) 5 1 (x.1 * (B + moreLen t)) (nats .u8 (pkTo t B d x.1)) :: Cells b2 23 [.int .i64 bl, .int .i64 pg, .int .i64 (S : Int), .int .i64 (B : Int), .int .i64 (t : Int)] :: F) (fun x => x.1 ≤ S ∧ m - x.1 * B ≤ x.2.2.1 ∧ Seq K F x.2.1 (m - x.1 * B) 1 (nats .u8 (d.drop (x.1 * B)))) (fun x => S - x.1) (0, A, cap, none, 0) ⟨Nat.zero_le _, by show m - 0 * B ≤ cap; omega, by simpa using hd⟩ (.cons (look_eq rfl (by simp)) (.cons rfl (.cons (look_eq rfl (by simp)) (.nil _)))) (fun w h => by simpa [pkTo, nats] using Sat.slNil h 5 1) ?_
  rintro ⟨j, Aj, cj, Ao, co⟩ ⟨hj, hjc, hjs⟩
  dsimp only at hj hjc hjs ⊢
  have hjB : j * B ≤ m := by rw [hm]; exact Nat.mul_le_mul_right _ hj
  have hpl := pkTo_length ht h8 (hl.trans hm) j hj
  refine WC.seq ?_
  refine WC.seq ?_
  refine WC.region ?_
  refine WL.val (V.move (OV.p rfl)) rfl ?_
  refine WL.val (V.len (t := 24) Try.runUnderlying24 (OV.p rfl)) rfl ?_
  refine WL.val (V.gtr (OV.p rfl) (OV.p rfl)) rfl ?_
  refine WL.nil ?_
  refine WC.cond rfl (fun hc1 => ?_) (fun hc1 => ?_)
  · simp only [decide_eq_true_eq, decide_eq_false_iff_not] at hc1
    have hjS : j < S := by
      rcases Nat.lt_or_ge j S with h | h
      · exact h
      · exfalso
        have : j = S := by omega
        rw [this, ← hm] at hc1
        omega
    have hj1 : (j + 1) * B ≤ m := by rw [hm]; exact Nat.mul_le_mul_right _ hjS
    rw [Nat.succ_mul] at hj1
    have hsl := sect_length (hl.trans hm) hjS
    have hsq : Seq K F Aj B 1 (nats .u8 (sect B d j)) := by
      have h1 := Seq.take hjs (show B ≤ m - j * B by omega)
      rw [nats_take] at h1; exact h1
    refine WC.skip ?_
    refine WC.seq ?_
    refine WC.block ?_
    refine WC.seq ?_
    refine WC.region ?_
    refine WL.val (V.move (OV.p rfl)) rfl ?_
    refine WL.val (V.fieldAddr fo23_3 (OV.p rfl)) rfl ?_
    refine WL.val (V.load Try.isAgg3 (OV.p rfl) (fun _ => by repeat (first | exact Rd.here rfl | apply Rd.up))) rfl ?_
    refine WL.val (V.fieldAddr fo23_3 (OV.p rfl)) rfl ?_
    refine WL.val (V.load Try.isAgg3 (OV.p rfl) (fun _ => by repeat (first | exact Rd.here rfl | apply Rd.up))) rfl ?_
    refine WL.val (V.val_eq (v' := .slice Aj B B) (V.slice (l := 0) (h := B) (u := B) st24 (OV.p rfl) OO.none (OO.some (OV.p rfl) (fun _ => rfl)) (OO.some (OV.p rfl) (fun _ => rfl)) (by simp) (Nat.zero_le _) (Nat.le_refl _) (by omega)) (fun _ => by rw [show (B - 0 : Nat) = B from rfl]; cases Aj <;> simp [Addr.add])) rfl ?_
    refine WL.val (V.assign (OV.p rfl)) rfl ?_
    refine WL.nil ?_
    refine WC.seq ?_
    refine WC.region ?_
    refine WL.val (V.fieldAddr fo23_4 (OV.p rfl)) rfl ?_
    refine WL.val (V.load Try.isAgg3 (OV.p rfl) (fun _ => by repeat (first | exact Rd.here rfl | apply Rd.up))) rfl ?_
    refine WL.val (V.move (OV.p rfl)) rfl ?_
    refine WL.call (vs := [_, _]) Try.call43 ⟨OV.p rfl, OV.p rfl, trivial⟩ (bch_Encode ht (hsq.up.up) (sect_small h8 j) (by omega)) rfl ?_
    rintro _ _ ⟨Ae, ce, rfl, rfl⟩
    refine WL.val (V.move (OV.p rfl)) rfl ?_
    refine WL.val (V.extract (OV.p rfl) rfl) rfl ?_
    refine WL.val (V.extract (OV.p rfl) rfl) rfl ?_
    refine WL.val (V.assign (OV.p rfl)) rfl ?_
    refine WL.val (V.assign (OV.p rfl)) rfl ?_
    refine WL.nil ?_
    refine WC.region ?_
    refine WL.val (V.move (OV.p rfl)) rfl ?_
    refine WL.val (V.move (OV.p rfl)) rfl ?_
    refine WL.sub (Sub.refl _) (fun w h => h.p1) ?_
    refine WL.append (m := j * (B + moreLen t)) (q := B) Try.underlying24 el5 (OV.p rfl) (OV.p rfl) (by repeat (first | exact hsq | apply Seq.up)) (nats_one _ _) (by have := Nat.mul_le_mul hj (show B + moreLen t ≤ 525 by omega); omega) rfl rfl (fun A3 c3 hA3 hc3 => ?_)
    refine WL.val (V.move (OV.p rfl)) rfl ?_
    refine WL.append (m := j * (B + moreLen t) + B) (q := moreLen t) (news := nats .u8 (encB t (sect B d j))) Try.underlying24 el5 (OV.p rfl) (OV.p rfl) (SlA.seq (by rw [nats_length, encB_length ht (sect_small h8 j), Nat.mul_one])) (nats_one _ _) (by have := Nat.mul_le_mul hj (show B + moreLen t ≤ 525 by omega); omega) rfl rfl (fun A4 c4 hA4 hc4 => ?_)
    refine WL.val (V.assign (OV.p rfl)) rfl ?_
    refine WL.nil ?_
    refine WC.region ?_
    refine WL.val (V.move (OV.p rfl)) rfl ?_
    refine WL.val (V.fieldAddr fo23_3 (OV.p rfl)) rfl ?_
    refine WL.val (V.load Try.isAgg3 (OV.p rfl) (fun _ => by repeat (first | exact Rd.here rfl | apply Rd.up))) rfl ?_
    refine WL.val (V.slice (l := B) (h := m - j * B) (u := cj) st24 (OV.p rfl) (OO.some (OV.p rfl) (fun _ => rfl)) OO.none OO.none (by simp) (by omega) (by omega) (Nat.le_refl _)) rfl ?_
    refine WL.val (V.assign (OV.p rfl)) rfl ?_
    refine WL.nil ?_
    refine ⟨rfl, ?_⟩
    refine ⟨(j + 1, (if cj = B then Aj else Aj.map (·.add (B * 1))), cj - B, A4, c4), ⟨hjS, by show m - (j + 1) * B ≤ cj - B; rw [Nat.succ_mul]; omega, ?_⟩, (by show S - (j + 1) < S - j; omega), .cons (look_eq rfl (by dsimp only; rw [Nat.succ_mul, Nat.sub_sub])) (.cons rfl (.cons (look_eq rfl (by dsimp only; rw [Nat.succ_mul, Nat.add_assoc])) (.nil _))), fun w h => ?_⟩
    · have h1 := Seq.dropS hjs (show B ≤ m - j * B by omega) hjc
      rw [nats_drop, List.drop_drop, Nat.sub_sub] at h1
      dsimp only
      rw [Nat.succ_mul]
      exact h1
    · dsimp only
      rw [Nat.succ_mul, ← Nat.add_assoc, pkTo, nats_append, nats_append]
      exact h.sel 3 [0, 2] rfl
  · simp only [decide_eq_true_eq, decide_eq_false_iff_not] at hc1
    refine WC.exit ?_
    refine WC.seq ?_
    refine WC.region ?_
    refine WL.val (V.move (OV.p rfl)) rfl ?_
    refine WL.buildSlice (E := 5) (cs := [_]) (vs := [(0, _)]) ⟨OV.p rfl, trivial⟩ rfl (bsl24_1_0 _) rfl (fun b51 => ?_)
    obtain rfl : j = S := by
      rcases Nat.lt_or_ge j S with h | h
      · exfalso
        have hj1 : (j + 1) * B ≤ m := by rw [hm]; exact Nat.mul_le_mul_right _ h
        rw [Nat.succ_mul] at hj1
        omega
      · omega
    refine WL.sub (Sub.refl _) (fun w h => h.p1) ?_
    refine WL.append (m := j * (B + moreLen t)) (q := 1) (news := [.int .u8 0]) Try.underlying24 el5 (OV.p rfl) (OV.p rfl) (Seq.all rfl) (by intro u hu; rw [List.mem_singleton.1 hu]; rfl) (by have := Nat.mul_le_mul hj (show B + moreLen t ≤ 525 by omega); omega) rfl rfl (fun A5 c5 hA5 hc5 => ?_)
    refine WL.val (V.assign (OV.p rfl)) rfl ?_
    refine WL.val (V.assign (OV.p rfl)) rfl ?_
    refine WL.nil ?_
    refine WC.ret ?_
    refine BodyQ.ret (H' := SlA (.slice A5 (rawN j B t) c5) 5 1 (rawN j B t) (nats .u8 (packF t j B d)) :: F) (Res.tmp2 rfl rfl rfl) (fun w h => ?_) ⟨A5, c5, rfl, rfl⟩
    have h' := h.sel 3 [0] rfl
    unfold packF rawN
    rw [nats_append]
    exact h'
end
end Go.Proofs.Ytohkefolnmcjnaa
