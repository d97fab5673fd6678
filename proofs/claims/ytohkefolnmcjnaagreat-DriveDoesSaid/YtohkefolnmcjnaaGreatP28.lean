import Derived.Test.YtohkefolnmcjnaaGreatP27
import Derived.Test.YtohkefolnmcjnaaGreatP26
/- casematelaw08: few, step. -/
namespace Go.Proofs.YtohkefolnmcjnaaGreat
open Go.Sl Go.RowKit
set_option linter.unusedVariables false
set_option linter.unusedSimpArgs false
set_option maxRecDepth 20000

structure Op8 where
  (kind block page n : Int)
  dA : Option Addr
  dc : Nat
  dx : List Nat
namespace Op8
abbrev cells (o : Op8) : List Value := [.int .i64 o.kind, .int .i64 o.block, .int .i64 o.page, .int .i64 o.n, .slice o.dA o.dx.length o.dc]
structure Ok (K : World) (F : List Assn) (o : Op8) : Prop where
  n : o.n ≤ 9223372036854775807
  pg : -9223372036854775808 ≤ o.page ∧ o.page ≤ 9223372036854775807
  data : Seq K F o.dA o.dx.length 1 (nats .u8 o.dx)
  d8 : Small 256 o.dx
  dle : o.dx.length ≤ o.dc
theorem Ok.up {K : World} {F : List Assn} {o : Op8} {X : Assn} (h : o.Ok K F) : o.Ok K (X :: F) := ⟨h.n, h.pg, h.data.up, h.d8, h.dle⟩
end Op8
structure Script8 (K : World) (F : List Assn) (A : Option Addr) (m : Nat) (l : List Op8) : Prop where
  seq : Seq K F A m 5 (l.map Op8.cells).flatten
  len : l.length = m
  ok : ∀ o ∈ l, o.Ok K F
theorem Script8.up {K : World} {F : List Assn} {A : Option Addr} {m : Nat} {l : List Op8} {X : Assn} (h : Script8 K F A m l) : Script8 K (X :: F) A m l := ⟨h.seq.up, h.len, fun o ho => (h.ok o ho).up⟩
theorem flatten_at8 {s : Nat} : ∀ {l : List (List Value)}, (∀ x ∈ l, x.length = s) → ∀ {i j : Nat} {x : List Value} {v : Value}, l[i]? = some x → x[j]? = some v → l.flatten[i * s + j]? = some v
  | [], _, _, _, _, _, h, _ => by simp at h
  | y :: l, hs, 0, j, x, v, h, hj => by
    simp at h; subst h
    rw [List.flatten_cons, Nat.zero_mul, Nat.zero_add, List.getElem?_append_left]
    · exact hj
    · rcases Nat.lt_or_ge j y.length with h | h
      · exact h
      · rw [List.getElem?_eq_none h] at hj; cases hj
  | y :: l, hs, i + 1, j, x, v, h, hj => by
    have hy := hs y (.head _)
    rw [List.flatten_cons, List.getElem?_append_right (by rw [hy, Nat.add_mul]; omega), hy, show (i + 1) * s + j - s = i * s + j by rw [Nat.add_mul]; omega]
    exact flatten_at8 (fun z hz => hs z (.tail _ hz)) (by simpa using h) hj
theorem Script8.elem {K : World} {F : List Assn} {A : Option Addr} {m : Nat} {l : List Op8} (h : Script8 K F A m l) {i : Nat} {o : Op8} (hi : l[i]? = some o) {j : Nat} {v : Value} (hj : o.cells[j]? = some v) : Rd K F (A.map (·.add (i * 5 + j))) v :=
  h.seq.rd _ _ (flatten_at8 (fun x hx => by obtain ⟨o, _, rfl⟩ := List.mem_map.1 hx; rfl) (by rw [List.getElem?_map, hi]; rfl) hj)
def few8 (l : List Op8) : Bool := decide ((l.length : Int) ≤ 150) && l.all fun o => !decide (200 < (o.dx.length : Int))
theorem law08_few {A : Option Addr} {m cap : Nat} {l : List Op8} {K : World} {F : List Assn} (hs : Script8 K F A m l) : Tells Tryz.prog 12 #[.slice A m cap] K F (.bool (few8 l)) := by
  have hll := hs.len
  refine Does.enter Tryz.func12 rfl Tryz.ntmps12 rfl ?_
  simp only [env0, Nat.reduceAdd]
  refine WC.sr ?_
  refine WL.val (V.assign (OV.p rfl)) rfl ?_
  refine WL.nil ?_
  refine WC.seq ?_
  refine WC.sr ?_
  refine WL.val (V.move (OV.p rfl)) rfl ?_
  refine WL.val (V.len (t := 24) Tryz.runUnderlying24 (OV.p rfl)) rfl ?_
  refine WL.val (V.gtr (OV.p rfl) (OV.p rfl)) rfl ?_
  refine WL.nil ?_
  refine WC.cond rfl (fun hc0 => ?_) (fun hc0 => ?_)
  ·simp only [decide_eq_true_eq, decide_eq_false_iff_not, Int.not_lt] at hc0
   refine WC.sr ?_
   refine WL.val (V.assign (OV.p rfl)) rfl ?_
   refine WL.nil ?_
   refine WC.ret ?_
   refine BodyQ.ret (H' := F) (Res.tmp rfl rfl) (fun w h => by repeat (first | exact h | replace h := h.tail)) ⟨?_, rfl⟩
   unfold few8
   rw [decide_eq_false (by omega)]; rfl
  ·simp only [decide_eq_true_eq, decide_eq_false_iff_not, Int.not_lt] at hc0
   refine WC.skip ?_
   refine WC.seq ?_
   refine WC.sr ?_
   refine WL.val (V.assign (OV.p rfl)) rfl ?_
   refine WL.nil ?_
   refine WC.block ?_
   refine WC.loop (σ := Nat) (fun i => [(0, .slice A m cap), (3, .int .i64 (i : Int))]) (fun i => F) (fun i => i ≤ m ∧ (l.take i).all (fun o => !decide (200 < (o.dx.length : Int))) = true) (fun i => m - i) 0 ⟨Nat.zero_le _, rfl⟩ (.cons rfl (.cons rfl (.nil _))) (fun w h => h) ?_
   rintro i ⟨hi, hall⟩
   refine WC.seq ?_
   refine WC.sr ?_
   refine WL.val (V.move (OV.p rfl)) rfl ?_
   refine WL.val (V.move (OV.p rfl)) rfl ?_
   refine WL.val (V.len (t := 24) Tryz.runUnderlying24 (OV.p rfl)) rfl ?_
   refine WL.val (V.lss (OV.p rfl) (OV.p rfl)) rfl ?_
   refine WL.nil ?_
   refine WC.cond rfl (fun hc1 => ?_) (fun hc1 => ?_)
   ·try simp only [decide_eq_true_eq, decide_eq_false_iff_not, Bool.and_eq_true, Bool.or_eq_true, Bool.and_eq_false_iff, Bool.or_eq_false_iff, Bool.not_eq_true', Bool.not_eq_false', Bool.not_eq_true, Bool.not_eq_false, Int.not_lt, Int.not_le] at hc1
    refine WC.skip ?_
    refine WC.seq ?_
    refine WC.block ?_
    refine WC.seq ?_
    obtain ⟨o, ho⟩ : ∃ o, l[i]? = some o := ⟨_, List.getElem?_eq_getElem (by omega)⟩
    have hr4 : Rd K F (A.map (·.add (i * 5 + 4))) (.slice o.dA o.dx.length o.dc) := hs.elem ho rfl
    have hr0 : Rd K F (A.map (·.add (i * 5))) (.int .i64 o.kind) := hs.elem (j := 0) ho rfl
    have hti : (i : Int).toNat = i := by omega
    refine WC.region ?_
    refine WL.val (V.move (OV.p rfl)) rfl ?_
    refine WL.val (V.move (OV.p rfl)) rfl ?_
    refine WL.val (V.val_eq (v' := sp A (i * 5)) (V.idxS st24 (OV.p rfl) (OV.p rfl) (fun hc => by omega) (fun hc => by rw [hti]; exact hr0)) (fun _ => by rw [hti])) rfl ?_
    refine WL.val (V.fieldS (k' := i * 5 + 4) fo40_4 (OV.p rfl) (fun _ => hr4)) rfl ?_
    refine WL.val (V.load Tryz.isAgg38 (OV.p rfl) (fun _ => hr4)) rfl ?_
    refine WL.val (V.len (t := 38) Tryz.runUnderlying38 (OV.p rfl)) rfl ?_
    refine WL.val (V.gtr (OV.p rfl) (OV.p rfl)) rfl ?_
    refine WL.nil ?_
    refine WC.cond rfl (fun hc2 => ?_) (fun hc2 => ?_)
    ·skip
     have h2 := hc2
     refine WC.sr ?_
     refine WL.val (V.assign (OV.p rfl)) rfl ?_
     refine WL.nil ?_
     refine WC.ret ?_
     refine BodyQ.ret (H' := F) (Res.tmp rfl rfl) (fun w h => by repeat (first | exact h | replace h := h.tail)) ⟨?_, rfl⟩
     have h3 : l.all (fun o => !decide (200 < (o.dx.length : Int))) = false := by
       rw [← Bool.not_eq_true]
       intro h
       have := List.all_eq_true.1 h o (List.mem_of_getElem? ho)
       rw [h2] at this
       cases this
     unfold few8
     rw [h3, Bool.and_false]
    ·skip
     have h2 := hc2
     refine WC.skip ?_
     refine WC.region ?_
     refine WL.val (V.move (OV.p rfl)) rfl ?_
     refine WL.val (V.addI (OV.p rfl) (OV.p rfl) (fun hc => by first | omega | (simp at hc; omega))) rfl ?_
     refine WL.val (V.assign (OV.p rfl)) rfl ?_
     refine WL.nil ?_
     refine ⟨rfl, ?_⟩
     refine ⟨i + 1, ⟨by show i + 1 ≤ m; omega, ?_⟩, (by show m - (i + 1) < m - i; omega), .cons rfl (.cons (look_eq rfl (by simp)) (.nil _)), fun w h => h⟩
     rw [List.take_add_one, ho, List.all_append, hall]
     show ((!decide (200 < (o.dx.length : Int))) && true) = true
     rw [h2]; rfl
   ·try simp only [decide_eq_true_eq, decide_eq_false_iff_not, Bool.and_eq_true, Bool.or_eq_true, Bool.and_eq_false_iff, Bool.or_eq_false_iff, Bool.not_eq_true', Bool.not_eq_false', Bool.not_eq_true, Bool.not_eq_false, Int.not_lt, Int.not_le] at hc1
    refine WC.exit ?_
    refine WC.sr ?_
    refine WL.val (V.assign (OV.p rfl)) rfl ?_
    refine WL.nil ?_
    refine WC.ret ?_
    refine BodyQ.ret (H' := F) (Res.tmp rfl rfl) (fun w h => by repeat (first | exact h | replace h := h.tail)) ⟨?_, rfl⟩
    obtain rfl : i = m := by omega
    rw [List.take_of_length_le (by omega)] at hall
    unfold few8
    rw [hall, decide_eq_true (by omega)]; rfl
namespace Chip
theorem force_g (S : Chip) (b p : Int) (xs : List Int) : (S.force b p xs).1.g = S.g := by unfold force; repeat (first | rfl | split)
theorem weaken_g (S : Chip) (b : Int) : (S.weaken b).g = S.g := by unfold weaken; repeat (first | rfl | split)
end Chip
/-- The drive's chip and the reference's, after a call. -/
structure Both8 (bc bd a : Nat) (g : Geo) (F H' : List Assn) : Prop where
  ex : ∃ C' : Cw, ∃ R' : RW, C'.Ok ∧ R'.Ok ∧ R'.Is C'.sem ∧ C'.g = g ∧ H' = C'.A bc :: DvA bd bc g :: R'.A a :: F
theorem ite_Ok8 {p : Bool} {C D : Cw} (h : C.Ok) (h' : D.Ok) : (if p then C else D).Ok := by cases p <;> assumption
section
variable {bc bd a : Nat} {C : Cw} {R : RW} {g : Geo} {K : World} {F : List Assn}
theorem law08_step (hC : C.Ok) (hCg : C.g = g) (hR : R.Ok) (hI : R.Is C.sem) {o : Op8} (ho : o.Ok K F) (hdl : o.dx.length ≤ 200) :
    Does Tryz.prog 16 #[ptr bd 0, ptr bc 0, ptr a 0, .agg o.cells.toArray] K (C.A bc :: DvA bd bc g :: R.A a :: F) (fun v H' => v = .bool true ∧ Both8 bc bd a g F H') := by
  have hgb := hC.mays
  unfold Geo.mays at hgb
  refine Does.enter Tryz.func16 rfl Tryz.ntmps16 rfl ?_
  simp only [env0, Nat.reduceAdd]
  refine WC.sr ?_
  refine WL.box (cs := [_, _, _, _, _]) (OV.p rfl) rfl rfl (fun b7 => ?_)
  refine WL.val (V.assign (OV.p rfl)) rfl ?_
  refine WL.nil ?_
  refine WC.seq ?_
  refine WC.seq ?_
  refine WC.sub (Sub.refl _) (fun w h => h.sel 4 [1, 2, 3, 0] rfl) ?_
  refine WC.region ?_
  refine WL.val (V.fieldAddr fo40_0 (OV.p rfl)) rfl ?_
  refine WL.val (V.load Tryz.isAgg3 (OV.p rfl) (fun _ => by repeat (first | exact Rd.here rfl | apply Rd.up))) rfl ?_
  refine WL.nil ?_
  refine WC.block ?_
  refine WC.sr ?_
  refine WL.val (V.eql (OV.p rfl) (OV.p rfl)) rfl ?_
  refine WL.val (V.assign (OV.p rfl)) rfl ?_
  refine WL.nil ?_
  refine WC.cond rfl (fun hc0 => ?_) (fun hc0 => ?_)
  ·skip
   refine WC.sr ?_
   refine WL.buildSlice (E := 5) (cs := []) (vs := []) trivial rfl (bsl38_0 ) rfl (fun b27 => ?_)
   refine WL.val (V.fieldAddr fo40_4 (OV.p rfl)) rfl ?_
   refine WL.val (V.load Tryz.isAgg38 (OV.p rfl) (fun _ => by repeat (first | exact Rd.here rfl | apply Rd.up))) rfl ?_
   refine WL.sub (Sub.refl _) (fun w h => Sat.toSl (m := 0) (cap := 0) (s := 1) h rfl (Nat.le_refl _) (Nat.zero_le _)) ?_
   refine WL.append (m := 0) (cs := []) (q := o.dx.length) Tryz.underlying38 el5 (OV.p rfl) (OV.p rfl) (by repeat (first | exact ho.data | apply Seq.up)) (nats_one _ _) (by omega) rfl rfl (fun Ao co hn7 hc7 => ?_)
   rw [Nat.zero_add, List.nil_append]
   refine WL.sub (Sub.refl _) (fun w h => h.sel 4 [1, 2, 3, 0] rfl) ?_
   refine WL.val (V.assign (OV.p rfl)) rfl ?_
   refine WL.nil ?_
   refine WC.seq ?_
   refine WC.regionA (SlA (.slice Ao o.dx.length co) 5 1 o.dx.length (nats .u8 o.dx) :: Cells b7 40 o.cells :: F) (by kernel_rfl) ?_
   refine WA.t 0 rfl (V.move (OV.p rfl)) ?_
   refine WA.t 1 rfl (V.fieldAddr fo40_1 (OV.p rfl)) ?_
   refine WA.t 2 rfl (V.load Tryz.isAgg3 (OV.p rfl) (fun _ => by repeat (first | exact Rd.here rfl | apply Rd.up))) ?_
   refine WA.t 3 rfl (V.fieldAddr fo40_2 (OV.p rfl)) ?_
   refine WA.t 4 rfl (V.load Tryz.isAgg3 (OV.p rfl) (fun _ => by repeat (first | exact Rd.here rfl | apply Rd.up))) ?_
   refine WA.t 5 rfl (V.move (OV.p rfl)) ?_
   refine WA.t 7 rfl (V.move (OV.p rfl)) ?_
   refine WA.t 8 rfl (V.fieldAddr fo40_1 (OV.p rfl)) ?_
   refine WA.t 9 rfl (V.load Tryz.isAgg3 (OV.p rfl) (fun _ => by repeat (first | exact Rd.here rfl | apply Rd.up))) ?_
   refine WA.t 10 rfl (V.fieldAddr fo40_2 (OV.p rfl)) ?_
   refine WA.t 11 rfl (V.load Tryz.isAgg3 (OV.p rfl) (fun _ => by repeat (first | exact Rd.here rfl | apply Rd.up))) ?_
   refine WA.t 12 rfl (V.fieldAddr fo40_4 (OV.p rfl)) ?_
   refine WA.t 13 rfl (V.load Tryz.isAgg38 (OV.p rfl) (fun _ => by repeat (first | exact Rd.here rfl | apply Rd.up))) ?_
   refine WA.o 6 rfl ?_
   refine WL.call (vs := [_, _, _, _]) Tryz.call23 ⟨OV.p rfl, OV.p rfl, OV.p rfl, OV.p rfl, trivial⟩ (drive_WriteG hC hCg o.block o.page (d := o.dx) (by repeat (first | exact SlA.seq (by rw [nats_length, Nat.mul_one]) | apply Seq.up)) ho.d8 (by omega) (by omega)) rfl ?_
   rintro v1 _ ⟨C1, hC1, hg1, rfl, s1, rfl⟩
   refine WL.nil ?_
   refine WA.o 14 rfl ?_
   refine WL.sub (Sub.refl _) (fun w h => h.sel 3 [2, 0, 1] rfl) ?_
   refine WL.call (vs := [_, _, _, _]) Tryz.call60 ⟨OV.p rfl, OV.p rfl, OV.p rfl, OV.p rfl, trivial⟩ (ref08_Write hR hI o.block o.page (d := o.dx) (by repeat (first | exact ho.data | apply Seq.up)) ho.d8 ho.dle (by omega)) rfl ?_
   rintro v2 _ ⟨R1, hR1, hI1, rfl, rfl⟩
   refine WL.sub (Sub.refl _) (fun w h => h.sel 3 [1, 2, 0] rfl) ?_
   have hb : Both8 bc bd a g F (C1.A bc :: DvA bd bc g :: R1.A a :: F) := ⟨C1, R1, hC1, hR1, by rw [s1]; exact hI1, hg1, rfl⟩
   refine WL.nil ?_
   refine WA.t 15 rfl (V.eql (OV.p rfl) (OV.p rfl)) ?_
   refine WA.t 16 rfl (V.move (OV.p rfl)) ?_
   refine WA.tG 17 rfl rfl rfl rfl GC.t (V.move (OV.p rfl)) ?_
   refine WA.tG 18 rfl rfl rfl rfl GC.t (V.bytesStr (xs := intsOf o.dx) Tryz.underlying38 Tryz.underlying5 Tryz.underlying9 (OV.g rfl id) (fun _ => (by rw [← nats_intsOf]; repeat (first | exact SlA.seq (by rw [nats_length, Nat.mul_one]) | apply Seq.up)))) ?_
   refine WA.tG 19 rfl rfl rfl rfl GC.t (V.fieldAddr fo40_4 (OV.p rfl)) ?_
   refine WA.tG 20 rfl rfl rfl rfl GC.t (V.load Tryz.isAgg38 (OV.g rfl id) (fun _ => by repeat (first | exact Rd.here rfl | apply Rd.up))) ?_
   refine WA.tG 21 rfl rfl rfl rfl GC.t (V.bytesStr (xs := intsOf o.dx) Tryz.underlying38 Tryz.underlying5 Tryz.underlying9 (OV.g rfl id) (fun _ => (by rw [← nats_intsOf]; repeat (first | exact ho.data | apply Seq.up)))) ?_
   refine WA.tG 22 rfl rfl rfl rfl GC.t (V.eqlS (OV.g rfl id) (OV.g rfl id)) ?_
   refine WA.t 23 rfl (V.pickAnd (OV.p rfl) (OV.g rfl id)) ?_
   refine WA.t 24 rfl (V.assign (OV.p rfl)) ?_
   refine WA.fin ?_
   refine WC.ret ?_
   exact BodyQ.ret (H' := C1.A bc :: DvA bd bc g :: R1.A a :: F) (Res.tmp rfl (look_eq rfl (by simp))) (fun w h => h.sel 5 [0, 1, 2] rfl) ⟨rfl, hb⟩
  ·skip
   refine WC.sr ?_
   refine WL.val (V.eql (OV.p rfl) (OV.p rfl)) rfl ?_
   refine WL.val (V.assign (OV.p rfl)) rfl ?_
   refine WL.nil ?_
   refine WC.cond rfl (fun hc1 => ?_) (fun hc1 => ?_)
   ·skip
    refine WC.seq ?_
    refine WC.regionA (Cells b7 40 o.cells :: F) (by kernel_rfl) ?_
    refine WA.t 0 rfl (V.move (OV.p rfl)) ?_
    refine WA.t 1 rfl (V.fieldAddr fo40_1 (OV.p rfl)) ?_
    refine WA.t 2 rfl (V.load Tryz.isAgg3 (OV.p rfl) (fun _ => by repeat (first | exact Rd.here rfl | apply Rd.up))) ?_
    refine WA.t 4 rfl (V.move (OV.p rfl)) ?_
    refine WA.t 5 rfl (V.fieldAddr fo40_1 (OV.p rfl)) ?_
    refine WA.t 6 rfl (V.load Tryz.isAgg3 (OV.p rfl) (fun _ => by repeat (first | exact Rd.here rfl | apply Rd.up))) ?_
    refine WA.o 3 rfl ?_
    refine WL.call (vs := [_, _]) Tryz.call61 ⟨OV.p rfl, OV.p rfl, trivial⟩ (drive_EraseG hC hCg o.block) rfl ?_
    rintro v1 _ ⟨C1, hC1, hg1, rfl, s1, rfl⟩
    refine WL.nil ?_
    refine WA.o 7 rfl ?_
    refine WL.sub (Sub.refl _) (fun w h => h.sel 3 [2, 0, 1] rfl) ?_
    refine WL.call (vs := [_, _]) Tryz.call62 ⟨OV.p rfl, OV.p rfl, trivial⟩ (ref08_Erase hR hI o.block) rfl ?_
    rintro v2 _ ⟨R1, hR1, hI1, rfl, rfl⟩
    refine WL.sub (Sub.refl _) (fun w h => h.sel 3 [1, 2, 0] rfl) ?_
    have hb : Both8 bc bd a g F (C1.A bc :: DvA bd bc g :: R1.A a :: F) := ⟨C1, R1, hC1, hR1, by rw [s1]; exact hI1, hg1, rfl⟩
    refine WL.nil ?_
    refine WA.t 8 rfl (V.eql (OV.p rfl) (OV.p rfl)) ?_
    refine WA.t 9 rfl (V.assign (OV.p rfl)) ?_
    refine WA.fin ?_
    refine WC.ret ?_
    exact BodyQ.ret (H' := C1.A bc :: DvA bd bc g :: R1.A a :: F) (Res.tmp rfl (look_eq rfl (by simp))) (fun w h => h.sel 4 [0, 1, 2] rfl) ⟨rfl, hb⟩
   ·skip
    refine WC.sr ?_
    refine WL.val (V.eql (OV.p rfl) (OV.p rfl)) rfl ?_
    refine WL.val (V.assign (OV.p rfl)) rfl ?_
    refine WL.nil ?_
    refine WC.cond rfl (fun hc2 => ?_) (fun hc2 => ?_)
    ·skip
     refine WC.sr ?_
     refine WL.val (V.move (OV.p rfl)) rfl ?_
     refine WL.val (V.fieldAddr fo40_1 (OV.p rfl)) rfl ?_
     refine WL.val (V.load Tryz.isAgg3 (OV.p rfl) (fun _ => by repeat (first | exact Rd.here rfl | apply Rd.up))) rfl ?_
     refine WL.val (V.fieldAddr fo40_2 (OV.p rfl)) rfl ?_
     refine WL.val (V.load Tryz.isAgg3 (OV.p rfl) (fun _ => by repeat (first | exact Rd.here rfl | apply Rd.up))) rfl ?_
     refine WL.call (vs := [_, _, _]) Tryz.call27 ⟨OV.p rfl, OV.p rfl, OV.p rfl, trivial⟩ (drive_WholeG hC hCg o.block o.page ho.pg) rfl ?_
     rintro _ H0 ⟨rfl, h0⟩
     subst H0
     refine WL.val (V.move (OV.p rfl)) rfl ?_
     refine WL.val (V.extract (OV.p rfl) rfl) rfl ?_
     refine WL.val (V.extract (OV.p rfl) rfl) rfl ?_
     refine WL.val (V.assign (OV.p rfl)) rfl ?_
     refine WL.val (V.assign (OV.p rfl)) rfl ?_
     refine WL.nil ?_
     refine WC.sr ?_
     refine WL.val (V.move (OV.p rfl)) rfl ?_
     refine WL.val (V.fieldAddr fo40_1 (OV.p rfl)) rfl ?_
     refine WL.val (V.load Tryz.isAgg3 (OV.p rfl) (fun _ => by repeat (first | exact Rd.here rfl | apply Rd.up))) rfl ?_
     refine WL.val (V.fieldAddr fo40_2 (OV.p rfl)) rfl ?_
     refine WL.val (V.load Tryz.isAgg3 (OV.p rfl) (fun _ => by repeat (first | exact Rd.here rfl | apply Rd.up))) rfl ?_
     refine WL.sub (Sub.refl _) (fun w h => h.sel 3 [2, 0, 1] rfl) ?_
     refine WL.call (vs := [_, _, _]) Tryz.call63 ⟨OV.p rfl, OV.p rfl, OV.p rfl, trivial⟩ (ref08_Whole hR hI hC.rawN_facts o.block o.page) rfl ?_
     rintro v2 _ ⟨rfl, rfl⟩
     refine WL.sub (Sub.refl _) (fun w h => h.sel 3 [1, 2, 0] rfl) ?_
     have hb : Both8 bc bd a g F (C.A bc :: DvA bd bc g :: R.A a :: F) := ⟨C, R, hC, hR, hI, hCg, rfl⟩
     refine WL.val (V.move (OV.p rfl)) rfl ?_
     refine WL.val (V.extract (OV.p rfl) rfl) rfl ?_
     refine WL.val (V.extract (OV.p rfl) rfl) rfl ?_
     refine WL.val (V.assign (OV.p rfl)) rfl ?_
     refine WL.val (V.assign (OV.p rfl)) rfl ?_
     refine WL.nil ?_
     refine WC.sr ?_
     refine WL.val (V.move (OV.p rfl)) rfl ?_
     refine WL.val (V.move (OV.p rfl)) rfl ?_
     refine WL.val (V.eqlB Tryz.underlying4 (OV.p rfl) (OV.p rfl)) rfl ?_
     refine WL.val (V.move (OV.p rfl)) rfl ?_
     refine WL.valG (oj := _) rfl rfl rfl GC.t (V.move (OV.p rfl)) rfl ?_
     refine WL.valG (oj := _) rfl rfl rfl GC.t (V.move (OV.p rfl)) rfl ?_
     refine WL.valG (oj := _) rfl rfl rfl GC.t (V.eql (OV.g rfl id) (OV.g rfl id)) rfl ?_
     refine WL.val (V.pickAnd (OV.p rfl) (OV.g rfl id)) rfl ?_
     refine WL.val (V.assign (OV.p rfl)) rfl ?_
     refine WL.nil ?_
     refine WC.ret ?_
     exact BodyQ.ret (H' := C.A bc :: DvA bd bc g :: R.A a :: F) (Res.tmp rfl (look_eq rfl (by simp))) (fun w h => h.sel 4 [0, 1, 2] rfl) ⟨rfl, hb⟩
    ·skip
     refine WC.sr ?_
     refine WL.val (V.eql (OV.p rfl) (OV.p rfl)) rfl ?_
     refine WL.val (V.assign (OV.p rfl)) rfl ?_
     refine WL.nil ?_
     refine WC.cond rfl (fun hc3 => ?_) (fun hc3 => ?_)
     ·skip
      refine WC.sr ?_
      refine WL.val (V.move (OV.p rfl)) rfl ?_
      refine WL.val (V.fieldAddr fo40_1 (OV.p rfl)) rfl ?_
      refine WL.val (V.load Tryz.isAgg3 (OV.p rfl) (fun _ => by repeat (first | exact Rd.here rfl | apply Rd.up))) rfl ?_
      refine WL.call (vs := [_, _]) Tryz.call43 ⟨OV.p rfl, OV.p rfl, trivial⟩ (chip_Weak (C := C) o.block) rfl ?_
      rintro v1 _ rfl
      obtain ⟨C1, hCe⟩ : ∃ D, D = (if C.sem.block o.block then C.weaken o.block else C) := ⟨_, rfl⟩
      rw [← hCe]
      have hC1 : C1.Ok := by rw [hCe]; exact ite_Ok8 hC.weaken hC
      have s1 : C1.sem = C.sem.weaken o.block := by rw [hCe]; unfold Chip.weaken; cases hbk : C.sem.block o.block <;> rfl
      have hg1 : C1.g = g := (Cw.g_sem s1 (Chip.weaken_g _ _)).trans hCg
      refine WL.nil ?_
      refine WC.seq ?_
      refine WC.regionQ (by kernel_rfl) (by kernel_rfl) ?_
      refine WQ.val (V.fieldAddr fo40_1 (OV.p rfl)) rfl ?_
      refine WQ.val (V.load Tryz.isAgg3 (OV.p rfl) (fun _ => by repeat (first | exact Rd.here rfl | apply Rd.up))) rfl ?_
      refine WQ.val (V.geq (OV.p rfl) (OV.p rfl)) rfl ?_
      refine WQ.val (V.move (OV.p rfl)) rfl ?_
      refine WQ.valG (oj := _) rfl rfl rfl GC.t (V.fieldAddr fo40_1 (OV.p rfl)) rfl ?_
      refine WQ.valG (oj := _) rfl rfl rfl GC.t (V.load Tryz.isAgg3 (OV.g rfl id) (fun _ => by repeat (first | exact Rd.here rfl | apply Rd.up))) rfl ?_
      refine WQ.valG (oj := _) rfl rfl rfl GC.t (V.move (OV.p rfl)) rfl ?_
      refine WQ.valG (oj := _) rfl rfl rfl GC.t (V.nilCheck (OV.g rfl id)) rfl ?_
      refine WQ.valG (oj := _) rfl rfl rfl GC.t (V.fieldAddr fo97_0 (OV.g rfl id)) rfl ?_
      refine WQ.valG (oj := _) rfl rfl rfl GC.t (V.fieldAddr fo23_0 (OV.g rfl id)) rfl ?_
      refine WQ.valG (oj := _) rfl rfl rfl GC.t (V.load Tryz.isAgg3 (OV.g rfl id) (fun _ => Rd.up (Rd.up (RW.rds 0 _ rfl)))) rfl ?_
      refine WQ.valG (oj := _) rfl rfl rfl GC.t (V.lss (OV.g rfl id) (OV.g rfl id)) rfl ?_
      refine WQ.val (V.pickAnd (OV.p rfl) (OV.g rfl id)) rfl ?_
      refine WQ.nil ?_
      refine WC.cond rfl (fun hc4 => ?_) (fun hc4 => ?_)
      ·skip
       have h8 := hc4
       simp only [Bool.and_eq_true, decide_eq_true_eq] at h8
       obtain ⟨bn, hbn⟩ : ∃ bn : Nat, o.block = (bn : Int) := ⟨o.block.toNat, by omega⟩
       have hlen := hI.len
       rw [← hI.g] at hlen
       have hbl : bn < R.blocks.length := by omega
       obtain ⟨x, hxb⟩ : ∃ x, R.blocks[bn]? = some x := ⟨_, List.getElem?_eq_getElem hbl⟩
       obtain ⟨R1, hRe⟩ : ∃ D : RW, D = R.setB bn { x with fails := true } R.own := ⟨_, rfl⟩
       have hR1 : R1.Ok := by rw [hRe]; exact hR.setX (x := x) (x' := { x with fails := true }) hxb rfl (hR.next x (List.mem_of_getElem? hxb))
       have hI1 : R1.Is C1.sem := by
         have hb := hI.blk bn x hxb
         have hbk : C.sem.block o.block = true := by unfold Chip.block; rw [← hI.g]; simp; exact h8
         rw [hRe, s1]
         unfold Chip.weaken
         rw [if_pos hbk]
         refine hI.setB (x := x) hxb rfl rfl rfl rfl rfl rfl (fun k z hk hz hb => hb.congr rfl rfl rfl (if_neg (fun e => hk (by omega))) (fun q => ⟨rfl, rfl⟩)) ?_
         exact ⟨hb.next, hb.bad, (if_pos hbn.symm).symm, hb.len, fun q y hq => ⟨(hb.pg q y hq).raw, (hb.pg q y hq).wrong⟩⟩
       refine WC.sub (H' := Cells R.bb 100 (R.blocks.flatMap RBlock.cells ++ R.rest) :: Cells a 97 R.cells :: AllA R.rows :: AllA R.own :: C1.A bc :: DvA bd bc g :: Cells b7 40 o.cells :: F) (Sub.refl _) (fun w h => (Sat.unall (l := R.parts a) (h.sel 3 [2, 0, 1] rfl)).p1) ?_
       have hW8 : ∀ w, Sat K w (Cells R.bb 100 ((R.blocks.flatMap RBlock.cells ++ R.rest).set (0 + o.block.toNat * 4 + 3) (.bool true)) :: Cells a 97 R.cells :: AllA R.rows :: AllA R.own :: C1.A bc :: DvA bd bc g :: Cells b7 40 o.cells :: F) → Sat K w (C1.A bc :: DvA bd bc g :: R1.A a :: Cells b7 40 o.cells :: F) := fun w h => by
         rw [show 0 + o.block.toNat * 4 + 3 = bn * 4 + 3 by omega] at h
         rw [hRe]
         exact (RW.foldX (R := R) (x := x) (x' := { x with fails := true }) (v := .bool true) (i := 3) hxb (by decide) rfl rfl h.p1).sel 3 [1, 2, 0] rfl
       refine WC.regionA (Cells a 97 R.cells :: AllA R.rows :: AllA R.own :: C1.A bc :: DvA bd bc g :: Cells b7 40 o.cells :: F) (by kernel_rfl) ?_
       refine WA.t 0 rfl (V.move (OV.p rfl)) ?_
       refine WA.t 1 rfl (V.nilCheck (OV.p rfl)) ?_
       refine WA.t 2 rfl (V.fieldAddr fo97_1 (OV.p rfl)) ?_
       refine WA.t 3 rfl (V.load Tryz.isAgg95 (OV.p rfl) (fun _ => by repeat (first | exact Rd.here rfl | apply Rd.up))) ?_
       refine WA.t 4 rfl (V.fieldAddr fo40_1 (OV.p rfl)) ?_
       refine WA.t 5 rfl (V.load Tryz.isAgg3 (OV.p rfl) (fun _ => by repeat (first | exact Rd.here rfl | apply Rd.up))) ?_
       refine WA.t 6 rfl (V.idxB st95 (OV.p rfl) (OV.p rfl) (fun hc => by omega)) ?_
       refine WA.t 7 rfl (V.fieldAddr fo100_3 (OV.p rfl)) ?_
       refine WA.o 8 rfl ?_
       refine WL.store (cs := [_]) Tryz.sizeOf4 (OV.p rfl) (OV.p rfl) rfl rfl rfl (Upd.at_ (by
         have h1 : (bn + 1) * 4 ≤ R.blocks.length * 4 := Nat.mul_le_mul_right _ hbl
         rw [List.length_append, flat_length rcells_len]; show 0 + o.block.toNat * 4 + 3 < _; omega)) ?_
       refine WL.nil ?_
       refine WA.fin ?_
       refine WC.seq ?_
       first | refine WC.sub (H' := C1.A bc :: DvA bd bc g :: R1.A a :: Cells b7 40 o.cells :: F) (Sub.refl _) (fun w h => h) ?_ | refine WC.sub (Sub.refl _) hW8 ?_
       refine WC.region ?_
       refine WL.val (V.move (OV.p rfl)) rfl ?_
       refine WL.val (V.fieldAddr fo40_1 (OV.p rfl)) rfl ?_
       refine WL.val (V.load Tryz.isAgg3 (OV.p rfl) (fun _ => by repeat (first | exact Rd.here rfl | apply Rd.up))) rfl ?_
       refine WL.val (V.fieldAddr fo40_2 (OV.p rfl)) rfl ?_
       refine WL.val (V.load Tryz.isAgg3 (OV.p rfl) (fun _ => by repeat (first | exact Rd.here rfl | apply Rd.up))) rfl ?_
       refine WL.call (vs := [_, _, _]) Tryz.call26 ⟨OV.p rfl, OV.p rfl, OV.p rfl, trivial⟩ (drive_ReadG hC1 hg1 o.block o.page) rfl ?_
       rintro _ _ ⟨A8, c8, rfl, rfl⟩
       obtain ⟨G, hG⟩ : ∃ G, G = C1.sem.dRead o.block o.page := ⟨_, rfl⟩
       obtain ⟨ah, hah⟩ : ∃ ah, ah = C1.sem.ahead o.block o.page true := ⟨_, rfl⟩
       have hG2 := hG
       unfold Chip.dRead at hG2
       rw [← hah] at hG2
       rw [← hG]
       refine WL.sub (Sub.refl _) (fun w h => h.sel 4 [3, 0, 1, 2] rfl) ?_
       refine WL.val (V.move (OV.p rfl)) rfl ?_
       refine WL.val (V.extract (OV.p rfl) rfl) rfl ?_
       refine WL.val (V.extract (OV.p rfl) rfl) rfl ?_
       refine WL.val (V.extract (OV.p rfl) rfl) rfl ?_
       refine WL.val (V.assign (OV.p rfl)) rfl ?_
       refine WL.val (V.assign (OV.p rfl)) rfl ?_
       refine WL.val (V.assign (OV.p rfl)) rfl ?_
       refine WL.nil ?_
       refine WC.sr ?_
       refine WL.val (V.move (OV.p rfl)) rfl ?_
       refine WL.val (V.fieldAddr fo40_1 (OV.p rfl)) rfl ?_
       refine WL.val (V.load Tryz.isAgg3 (OV.p rfl) (fun _ => by repeat (first | exact Rd.here rfl | apply Rd.up))) rfl ?_
       refine WL.val (V.fieldAddr fo40_2 (OV.p rfl)) rfl ?_
       refine WL.val (V.load Tryz.isAgg3 (OV.p rfl) (fun _ => by repeat (first | exact Rd.here rfl | apply Rd.up))) rfl ?_
       refine WL.call (vs := [_, _, _, _]) Tryz.call68 ⟨OV.p rfl, OV.p rfl, OV.p rfl, OV.p rfl, trivial⟩ (Tells.eq (v' := .int .i64 ah) (ref08_Ahead hI1 o.block o.page true) (by rw [hah])) rfl ?_
       rintro _ H0 ⟨rfl, h0⟩
       subst H0
       refine WL.val (V.assign (OV.p rfl)) rfl ?_
       refine WL.nil ?_
       refine WC.seq ?_
       refine WC.sr ?_
       refine WL.val (V.move (OV.p rfl)) rfl ?_
       refine WL.val (V.neq (OV.p rfl) (OV.p rfl)) rfl ?_
       refine WL.nil ?_
       refine WC.cond rfl (fun hc9 => ?_) (fun hc9 => ?_)
       ·simp only [Bool.not_eq_true', Bool.not_eq_false', decide_eq_true_eq, decide_eq_false_iff_not] at hc9
        have h9 := hc9
        rw [if_pos h9] at hG2
        subst hG2
        refine WC.sr ?_
        refine WL.val (V.move (OV.p rfl)) rfl ?_
        refine WL.val (V.move (OV.p rfl)) rfl ?_
        refine WL.val (V.eql (OV.p rfl) (OV.p rfl)) rfl ?_
        refine WL.val (V.move (OV.p rfl)) rfl ?_
        refine WL.valG (oj := _) rfl rfl rfl GC.t (V.move (OV.p rfl)) rfl ?_
        refine WL.valG (oj := _) rfl rfl rfl GC.t (V.len (t := 38) Tryz.runUnderlying38 (OV.g rfl id)) rfl ?_
        refine WL.valG (oj := _) rfl rfl rfl GC.t (V.move (OV.p rfl)) rfl ?_
        refine WL.valG (oj := _) rfl rfl rfl GC.t (V.val_eq (v' := .int .i64 0) (V.addI (OV.g rfl id) (OV.g rfl id) (fun _ => by simp)) (fun _ => by simp)) rfl ?_
        refine WL.valG (oj := _) rfl rfl rfl GC.t (V.eql (OV.g rfl id) (OV.p rfl)) rfl ?_
        refine WL.val (V.pickAnd (OV.p rfl) (OV.g rfl id)) rfl ?_
        refine WL.val (V.assign (OV.p rfl)) rfl ?_
        refine WL.nil ?_
        refine WC.ret ?_
        refine BodyQ.ret (H' := C1.A bc :: DvA bd bc g :: R1.A a :: F) (Res.tmp rfl rfl) (fun w h => h.sel 5 [2, 3, 0] rfl) ⟨?_, ⟨C1, R1, hC1, hR1, hI1, hg1, rfl⟩⟩
        simp
       ·simp only [Bool.not_eq_true', Bool.not_eq_false', decide_eq_true_eq, decide_eq_false_iff_not] at hc9
        have h9 := hc9
        have h9' : ah = 0 := by omega
        have hre : C1.sem.readErr o.block o.page = 0 := Chip.read_zero (by rw [← hah]; exact h9')
        have hrl := (hC1.rawN_facts o.block o.page)
        have hgR : R1.g = C1.g := hI1.g
        rw [if_neg (fun h => h h9')] at hG2
        refine WC.skip ?_
        refine WC.sr ?_
        refine WL.val (V.move (OV.p rfl)) rfl ?_
        refine WL.val (V.fieldAddr fo40_1 (OV.p rfl)) rfl ?_
        refine WL.val (V.load Tryz.isAgg3 (OV.p rfl) (fun _ => by repeat (first | exact Rd.here rfl | apply Rd.up))) rfl ?_
        refine WL.val (V.fieldAddr fo40_2 (OV.p rfl)) rfl ?_
        refine WL.val (V.load Tryz.isAgg3 (OV.p rfl) (fun _ => by repeat (first | exact Rd.here rfl | apply Rd.up))) rfl ?_
        refine WL.call (vs := [_, _, _]) Tryz.call69 ⟨OV.p rfl, OV.p rfl, OV.p rfl, trivial⟩ (ref_ReadZ hR1 hI1 hC1.rawN_facts hre) rfl ?_
        rintro _ _ ⟨gr, rfl, rfl⟩
        refine WL.val (V.move (OV.p rfl)) rfl ?_
        refine WL.val (V.extract (OV.p rfl) rfl) rfl ?_
        refine WL.val (V.extract (OV.p rfl) rfl) rfl ?_
        refine WL.val (V.assign (OV.p rfl)) rfl ?_
        refine WL.val (V.assign (OV.p rfl)) rfl ?_
        refine WL.nil ?_
        refine WC.sr ?_
        refine WL.val (V.move (OV.p rfl)) rfl ?_
        refine WL.val (V.nilCheck (OV.p rfl)) rfl ?_
        refine WL.val (V.fieldAddr fo97_0 (OV.p rfl)) rfl ?_
        refine WL.val (V.loadA (vs := [.int .i64 R1.g.bl, .int .i64 R1.g.pg, .int .i64 R1.g.se, .int .i64 R1.g.sb, .int .i64 R1.g.fl]) ⟨Tryz.isAgg23, Tryz.sizeOf23⟩ (OV.p rfl) rfl (fun _ => RW.rdg.up)) rfl ?_
        refine WL.val (V.move (OV.p rfl)) rfl ?_
        refine WL.call (vs := [_, _]) Tryz.call70 ⟨OV.p rfl, OV.p rfl, trivial⟩ (ecc_ReadG (g := R1.g) (raw := C1.sem.rawN o.block o.page) hR1.mays (Seq.allN (by rw [hgR]; exact hrl.2.2)) hrl.2.1 rfl (Nat.le_refl _)) rfl ?_
        rintro _ _ ⟨A9, c9, rfl, rfl⟩
        obtain ⟨q, hq⟩ : ∃ q, q = readF R1.g.fl.toNat R1.g.se.toNat R1.g.sb.toNat (C1.sem.rawN o.block o.page) := ⟨_, rfl⟩
        have hGq : G = ⟨(q.err : Nat), q.d, q.n⟩ := by rw [hG2, hq, hgR]; rfl
        rw [← hq]
        subst hGq
        refine WL.val (V.move (OV.p rfl)) rfl ?_
        refine WL.val (V.extract (OV.p rfl) rfl) rfl ?_
        refine WL.val (V.extract (OV.p rfl) rfl) rfl ?_
        refine WL.val (V.extract (OV.p rfl) rfl) rfl ?_
        refine WL.val (V.assign (OV.p rfl)) rfl ?_
        refine WL.val (V.assign (OV.p rfl)) rfl ?_
        refine WL.val (V.assign (OV.p rfl)) rfl ?_
        refine WL.nil ?_
        refine WC.sr ?_
        refine WL.val (V.move (OV.p rfl)) rfl ?_
        refine WL.val (V.move (OV.p rfl)) rfl ?_
        refine WL.val (V.eql (OV.p rfl) (OV.p rfl)) rfl ?_
        refine WL.val (V.move (OV.p rfl)) rfl ?_
        refine WL.valG (oj := _) rfl rfl rfl GC.t (V.move (OV.p rfl)) rfl ?_
        refine WL.valG (oj := _) rfl rfl rfl GC.t (V.move (OV.p rfl)) rfl ?_
        refine WL.valG (oj := _) rfl rfl rfl GC.t (V.eql (OV.g rfl id) (OV.g rfl id)) rfl ?_
        refine WL.val (V.pickAnd (OV.p rfl) (OV.g rfl id)) rfl ?_
        refine WL.val (V.move (OV.p rfl)) rfl ?_
        refine WL.valG (oj := _) rfl rfl rfl GC.t (V.move (OV.p rfl)) rfl ?_
        refine WL.valG (oj := _) rfl rfl rfl GC.t (V.bytesStr (xs := intsOf q.d) Tryz.underlying38 Tryz.underlying5 Tryz.underlying9 (OV.g rfl id) (fun _ => by rw [← nats_intsOf]; exact Seq.up (Seq.up (Seq.up (SlA.seq (by rw [nats_length, Nat.mul_one])))))) rfl ?_
        refine WL.valG (oj := _) rfl rfl rfl GC.t (V.move (OV.p rfl)) rfl ?_
        refine WL.valG (oj := _) rfl rfl rfl GC.t (V.bytesStr (xs := intsOf q.d) Tryz.underlying38 Tryz.underlying5 Tryz.underlying9 (OV.g rfl id) (fun _ => by rw [← nats_intsOf]; exact SlA.seq (by rw [nats_length, Nat.mul_one]))) rfl ?_
        refine WL.valG (oj := _) rfl rfl rfl GC.t (V.eqlS (OV.g rfl id) (OV.g rfl id)) rfl ?_
        refine WL.val (V.pickAnd (OV.p rfl) (OV.g rfl id)) rfl ?_
        refine WL.val (V.assign (OV.p rfl)) rfl ?_
        refine WL.nil ?_
        refine WC.ret ?_
        exact BodyQ.ret (H' := C1.A bc :: DvA bd bc g :: R1.A a :: F) (Res.tmp rfl (look_eq rfl (by simp))) (fun w h => h.sel 7 [4, 5, 2] rfl) ⟨rfl, ⟨C1, R1, hC1, hR1, hI1, hg1, rfl⟩⟩
      ·skip
       have h8 := hc4
       have hbk : C.sem.block o.block = false := by unfold Chip.block; rw [← hI.g]; exact h8
       obtain ⟨R1, hRe⟩ : ∃ D : RW, D = R := ⟨_, rfl⟩
       have hR1 : R1.Ok := by rw [hRe]; exact hR
       have hI1 : R1.Is C1.sem := by rw [hRe, s1]; unfold Chip.weaken; rw [if_neg (by rw [hbk]; decide)]; exact hI
       refine WC.sub (H' := C1.A bc :: DvA bd bc g :: R1.A a :: Cells b7 40 o.cells :: F) (Sub.refl _) (fun w h => by rw [hRe]; exact h) ?_
       refine WC.skip ?_
       refine WC.seq ?_
       first | refine WC.sub (H' := C1.A bc :: DvA bd bc g :: R1.A a :: Cells b7 40 o.cells :: F) (Sub.refl _) (fun w h => h) ?_ | refine WC.sub (Sub.refl _) hW8 ?_
       refine WC.region ?_
       refine WL.val (V.move (OV.p rfl)) rfl ?_
       refine WL.val (V.fieldAddr fo40_1 (OV.p rfl)) rfl ?_
       refine WL.val (V.load Tryz.isAgg3 (OV.p rfl) (fun _ => by repeat (first | exact Rd.here rfl | apply Rd.up))) rfl ?_
       refine WL.val (V.fieldAddr fo40_2 (OV.p rfl)) rfl ?_
       refine WL.val (V.load Tryz.isAgg3 (OV.p rfl) (fun _ => by repeat (first | exact Rd.here rfl | apply Rd.up))) rfl ?_
       refine WL.call (vs := [_, _, _]) Tryz.call26 ⟨OV.p rfl, OV.p rfl, OV.p rfl, trivial⟩ (drive_ReadG hC1 hg1 o.block o.page) rfl ?_
       rintro _ _ ⟨A8, c8, rfl, rfl⟩
       obtain ⟨G, hG⟩ : ∃ G, G = C1.sem.dRead o.block o.page := ⟨_, rfl⟩
       obtain ⟨ah, hah⟩ : ∃ ah, ah = C1.sem.ahead o.block o.page true := ⟨_, rfl⟩
       have hG2 := hG
       unfold Chip.dRead at hG2
       rw [← hah] at hG2
       rw [← hG]
       refine WL.sub (Sub.refl _) (fun w h => h.sel 4 [3, 0, 1, 2] rfl) ?_
       refine WL.val (V.move (OV.p rfl)) rfl ?_
       refine WL.val (V.extract (OV.p rfl) rfl) rfl ?_
       refine WL.val (V.extract (OV.p rfl) rfl) rfl ?_
       refine WL.val (V.extract (OV.p rfl) rfl) rfl ?_
       refine WL.val (V.assign (OV.p rfl)) rfl ?_
       refine WL.val (V.assign (OV.p rfl)) rfl ?_
       refine WL.val (V.assign (OV.p rfl)) rfl ?_
       refine WL.nil ?_
       refine WC.sr ?_
       refine WL.val (V.move (OV.p rfl)) rfl ?_
       refine WL.val (V.fieldAddr fo40_1 (OV.p rfl)) rfl ?_
       refine WL.val (V.load Tryz.isAgg3 (OV.p rfl) (fun _ => by repeat (first | exact Rd.here rfl | apply Rd.up))) rfl ?_
       refine WL.val (V.fieldAddr fo40_2 (OV.p rfl)) rfl ?_
       refine WL.val (V.load Tryz.isAgg3 (OV.p rfl) (fun _ => by repeat (first | exact Rd.here rfl | apply Rd.up))) rfl ?_
       refine WL.call (vs := [_, _, _, _]) Tryz.call68 ⟨OV.p rfl, OV.p rfl, OV.p rfl, OV.p rfl, trivial⟩ (Tells.eq (v' := .int .i64 ah) (ref08_Ahead hI1 o.block o.page true) (by rw [hah])) rfl ?_
       rintro _ H0 ⟨rfl, h0⟩
       subst H0
       refine WL.val (V.assign (OV.p rfl)) rfl ?_
       refine WL.nil ?_
       refine WC.seq ?_
       refine WC.sr ?_
       refine WL.val (V.move (OV.p rfl)) rfl ?_
       refine WL.val (V.neq (OV.p rfl) (OV.p rfl)) rfl ?_
       refine WL.nil ?_
       refine WC.cond rfl (fun hc9 => ?_) (fun hc9 => ?_)
       ·simp only [Bool.not_eq_true', Bool.not_eq_false', decide_eq_true_eq, decide_eq_false_iff_not] at hc9
        have h9 := hc9
        rw [if_pos h9] at hG2
        subst hG2
        refine WC.sr ?_
        refine WL.val (V.move (OV.p rfl)) rfl ?_
        refine WL.val (V.move (OV.p rfl)) rfl ?_
        refine WL.val (V.eql (OV.p rfl) (OV.p rfl)) rfl ?_
        refine WL.val (V.move (OV.p rfl)) rfl ?_
        refine WL.valG (oj := _) rfl rfl rfl GC.t (V.move (OV.p rfl)) rfl ?_
        refine WL.valG (oj := _) rfl rfl rfl GC.t (V.len (t := 38) Tryz.runUnderlying38 (OV.g rfl id)) rfl ?_
        refine WL.valG (oj := _) rfl rfl rfl GC.t (V.move (OV.p rfl)) rfl ?_
        refine WL.valG (oj := _) rfl rfl rfl GC.t (V.val_eq (v' := .int .i64 0) (V.addI (OV.g rfl id) (OV.g rfl id) (fun _ => by simp)) (fun _ => by simp)) rfl ?_
        refine WL.valG (oj := _) rfl rfl rfl GC.t (V.eql (OV.g rfl id) (OV.p rfl)) rfl ?_
        refine WL.val (V.pickAnd (OV.p rfl) (OV.g rfl id)) rfl ?_
        refine WL.val (V.assign (OV.p rfl)) rfl ?_
        refine WL.nil ?_
        refine WC.ret ?_
        refine BodyQ.ret (H' := C1.A bc :: DvA bd bc g :: R1.A a :: F) (Res.tmp rfl rfl) (fun w h => h.sel 5 [2, 3, 0] rfl) ⟨?_, ⟨C1, R1, hC1, hR1, hI1, hg1, rfl⟩⟩
        simp
       ·simp only [Bool.not_eq_true', Bool.not_eq_false', decide_eq_true_eq, decide_eq_false_iff_not] at hc9
        have h9 := hc9
        have h9' : ah = 0 := by omega
        have hre : C1.sem.readErr o.block o.page = 0 := Chip.read_zero (by rw [← hah]; exact h9')
        have hrl := (hC1.rawN_facts o.block o.page)
        have hgR : R1.g = C1.g := hI1.g
        rw [if_neg (fun h => h h9')] at hG2
        refine WC.skip ?_
        refine WC.sr ?_
        refine WL.val (V.move (OV.p rfl)) rfl ?_
        refine WL.val (V.fieldAddr fo40_1 (OV.p rfl)) rfl ?_
        refine WL.val (V.load Tryz.isAgg3 (OV.p rfl) (fun _ => by repeat (first | exact Rd.here rfl | apply Rd.up))) rfl ?_
        refine WL.val (V.fieldAddr fo40_2 (OV.p rfl)) rfl ?_
        refine WL.val (V.load Tryz.isAgg3 (OV.p rfl) (fun _ => by repeat (first | exact Rd.here rfl | apply Rd.up))) rfl ?_
        refine WL.call (vs := [_, _, _]) Tryz.call69 ⟨OV.p rfl, OV.p rfl, OV.p rfl, trivial⟩ (ref_ReadZ hR1 hI1 hC1.rawN_facts hre) rfl ?_
        rintro _ _ ⟨gr, rfl, rfl⟩
        refine WL.val (V.move (OV.p rfl)) rfl ?_
        refine WL.val (V.extract (OV.p rfl) rfl) rfl ?_
        refine WL.val (V.extract (OV.p rfl) rfl) rfl ?_
        refine WL.val (V.assign (OV.p rfl)) rfl ?_
        refine WL.val (V.assign (OV.p rfl)) rfl ?_
        refine WL.nil ?_
        refine WC.sr ?_
        refine WL.val (V.move (OV.p rfl)) rfl ?_
        refine WL.val (V.nilCheck (OV.p rfl)) rfl ?_
        refine WL.val (V.fieldAddr fo97_0 (OV.p rfl)) rfl ?_
        refine WL.val (V.loadA (vs := [.int .i64 R1.g.bl, .int .i64 R1.g.pg, .int .i64 R1.g.se, .int .i64 R1.g.sb, .int .i64 R1.g.fl]) ⟨Tryz.isAgg23, Tryz.sizeOf23⟩ (OV.p rfl) rfl (fun _ => RW.rdg.up)) rfl ?_
        refine WL.val (V.move (OV.p rfl)) rfl ?_
        refine WL.call (vs := [_, _]) Tryz.call70 ⟨OV.p rfl, OV.p rfl, trivial⟩ (ecc_ReadG (g := R1.g) (raw := C1.sem.rawN o.block o.page) hR1.mays (Seq.allN (by rw [hgR]; exact hrl.2.2)) hrl.2.1 rfl (Nat.le_refl _)) rfl ?_
        rintro _ _ ⟨A9, c9, rfl, rfl⟩
        obtain ⟨q, hq⟩ : ∃ q, q = readF R1.g.fl.toNat R1.g.se.toNat R1.g.sb.toNat (C1.sem.rawN o.block o.page) := ⟨_, rfl⟩
        have hGq : G = ⟨(q.err : Nat), q.d, q.n⟩ := by rw [hG2, hq, hgR]; rfl
        rw [← hq]
        subst hGq
        refine WL.val (V.move (OV.p rfl)) rfl ?_
        refine WL.val (V.extract (OV.p rfl) rfl) rfl ?_
        refine WL.val (V.extract (OV.p rfl) rfl) rfl ?_
        refine WL.val (V.extract (OV.p rfl) rfl) rfl ?_
        refine WL.val (V.assign (OV.p rfl)) rfl ?_
        refine WL.val (V.assign (OV.p rfl)) rfl ?_
        refine WL.val (V.assign (OV.p rfl)) rfl ?_
        refine WL.nil ?_
        refine WC.sr ?_
        refine WL.val (V.move (OV.p rfl)) rfl ?_
        refine WL.val (V.move (OV.p rfl)) rfl ?_
        refine WL.val (V.eql (OV.p rfl) (OV.p rfl)) rfl ?_
        refine WL.val (V.move (OV.p rfl)) rfl ?_
        refine WL.valG (oj := _) rfl rfl rfl GC.t (V.move (OV.p rfl)) rfl ?_
        refine WL.valG (oj := _) rfl rfl rfl GC.t (V.move (OV.p rfl)) rfl ?_
        refine WL.valG (oj := _) rfl rfl rfl GC.t (V.eql (OV.g rfl id) (OV.g rfl id)) rfl ?_
        refine WL.val (V.pickAnd (OV.p rfl) (OV.g rfl id)) rfl ?_
        refine WL.val (V.move (OV.p rfl)) rfl ?_
        refine WL.valG (oj := _) rfl rfl rfl GC.t (V.move (OV.p rfl)) rfl ?_
        refine WL.valG (oj := _) rfl rfl rfl GC.t (V.bytesStr (xs := intsOf q.d) Tryz.underlying38 Tryz.underlying5 Tryz.underlying9 (OV.g rfl id) (fun _ => by rw [← nats_intsOf]; exact Seq.up (Seq.up (Seq.up (SlA.seq (by rw [nats_length, Nat.mul_one])))))) rfl ?_
        refine WL.valG (oj := _) rfl rfl rfl GC.t (V.move (OV.p rfl)) rfl ?_
        refine WL.valG (oj := _) rfl rfl rfl GC.t (V.bytesStr (xs := intsOf q.d) Tryz.underlying38 Tryz.underlying5 Tryz.underlying9 (OV.g rfl id) (fun _ => by rw [← nats_intsOf]; exact SlA.seq (by rw [nats_length, Nat.mul_one]))) rfl ?_
        refine WL.valG (oj := _) rfl rfl rfl GC.t (V.eqlS (OV.g rfl id) (OV.g rfl id)) rfl ?_
        refine WL.val (V.pickAnd (OV.p rfl) (OV.g rfl id)) rfl ?_
        refine WL.val (V.assign (OV.p rfl)) rfl ?_
        refine WL.nil ?_
        refine WC.ret ?_
        exact BodyQ.ret (H' := C1.A bc :: DvA bd bc g :: R1.A a :: F) (Res.tmp rfl (look_eq rfl (by simp))) (fun w h => h.sel 7 [4, 5, 2] rfl) ⟨rfl, ⟨C1, R1, hC1, hR1, hI1, hg1, rfl⟩⟩
     ·skip
      refine WC.sr ?_
      refine WL.val (V.eql (OV.p rfl) (OV.p rfl)) rfl ?_
      refine WL.val (V.assign (OV.p rfl)) rfl ?_
      refine WL.nil ?_
      refine WC.cond rfl (fun hc5 => ?_) (fun hc5 => ?_)
      ·skip
       refine WC.sr ?_
       refine WL.val (V.move (OV.p rfl)) rfl ?_
       refine WL.call (vs := [_]) Tryz.call64 ⟨OV.p rfl, trivial⟩ (chip_On (C := C)) rfl ?_
       rintro v1 _ rfl
       obtain ⟨C1, hCe⟩ : ∃ D : Cw, D = C.on := ⟨_, rfl⟩
       have hC1 : C1.Ok := by rw [hCe]; exact hC.on
       obtain ⟨R1, hRe⟩ : ∃ D : RW, D = { R with up := true } := ⟨_, rfl⟩
       have hR1 : R1.Ok := by rw [hRe]; exact ⟨hR.mays, hR.pgs, hR.left, hR.next⟩
       have hI1 : R1.Is C1.sem := by rw [hRe, hCe]; exact ⟨hI.g, hI.fuse, rfl, hI.left, hI.keep, hI.len, hI.nlen, fun k z hz => (hI.blk k z hz).congr rfl rfl rfl rfl (fun q => ⟨rfl, rfl⟩)⟩
       have hg1 : C1.g = g := by rw [hCe]; exact hCg
       rw [← hCe]
       refine WL.nil ?_
       refine WC.sub (Sub.refl _) (fun w h => Sat.unall (l := R.parts a) (h.sel 3 [2, 0, 1] rfl)) ?_
       dsimp only [RW.parts, List.cons_append, List.nil_append]
       refine WC.region ?_
       refine WL.val (V.move (OV.p rfl)) rfl ?_
       refine WL.val (V.nilCheck (OV.p rfl)) rfl ?_
       refine WL.val (V.fieldAddr fo97_3 (OV.p rfl)) rfl ?_
       refine WL.store (cs := [_]) Tryz.sizeOf4 (OV.p rfl) (OV.p rfl) rfl rfl rfl (by repeat (first | exact Upd.here (cs' := [_, _, _, _, _, _, _, _, _, _]) rfl rfl | apply Upd.up)) ?_
       refine WL.sub (H' := C1.A bc :: DvA bd bc g :: R1.A a :: Cells b7 40 o.cells :: F) (Sub.refl _) (fun w h => by rw [hRe]; exact (Sat.all (l := RW.parts a { R with up := true }) (Sat.cells_eq h (by simp [setL]))).sel 3 [1, 2, 0] rfl) ?_
       refine WL.nil ?_
       refine WC.seq ?_
       first | refine WC.sub (H' := C1.A bc :: DvA bd bc g :: R1.A a :: Cells b7 40 o.cells :: F) (Sub.refl _) (fun w h => h) ?_ | refine WC.sub (Sub.refl _) hW8 ?_
       refine WC.region ?_
       refine WL.val (V.move (OV.p rfl)) rfl ?_
       refine WL.val (V.fieldAddr fo40_1 (OV.p rfl)) rfl ?_
       refine WL.val (V.load Tryz.isAgg3 (OV.p rfl) (fun _ => by repeat (first | exact Rd.here rfl | apply Rd.up))) rfl ?_
       refine WL.val (V.fieldAddr fo40_2 (OV.p rfl)) rfl ?_
       refine WL.val (V.load Tryz.isAgg3 (OV.p rfl) (fun _ => by repeat (first | exact Rd.here rfl | apply Rd.up))) rfl ?_
       refine WL.call (vs := [_, _, _]) Tryz.call26 ⟨OV.p rfl, OV.p rfl, OV.p rfl, trivial⟩ (drive_ReadG hC1 hg1 o.block o.page) rfl ?_
       rintro _ _ ⟨A8, c8, rfl, rfl⟩
       obtain ⟨G, hG⟩ : ∃ G, G = C1.sem.dRead o.block o.page := ⟨_, rfl⟩
       obtain ⟨ah, hah⟩ : ∃ ah, ah = C1.sem.ahead o.block o.page true := ⟨_, rfl⟩
       have hG2 := hG
       unfold Chip.dRead at hG2
       rw [← hah] at hG2
       rw [← hG]
       refine WL.sub (Sub.refl _) (fun w h => h.sel 4 [3, 0, 1, 2] rfl) ?_
       refine WL.val (V.move (OV.p rfl)) rfl ?_
       refine WL.val (V.extract (OV.p rfl) rfl) rfl ?_
       refine WL.val (V.extract (OV.p rfl) rfl) rfl ?_
       refine WL.val (V.extract (OV.p rfl) rfl) rfl ?_
       refine WL.val (V.assign (OV.p rfl)) rfl ?_
       refine WL.val (V.assign (OV.p rfl)) rfl ?_
       refine WL.val (V.assign (OV.p rfl)) rfl ?_
       refine WL.nil ?_
       refine WC.sr ?_
       refine WL.val (V.move (OV.p rfl)) rfl ?_
       refine WL.val (V.fieldAddr fo40_1 (OV.p rfl)) rfl ?_
       refine WL.val (V.load Tryz.isAgg3 (OV.p rfl) (fun _ => by repeat (first | exact Rd.here rfl | apply Rd.up))) rfl ?_
       refine WL.val (V.fieldAddr fo40_2 (OV.p rfl)) rfl ?_
       refine WL.val (V.load Tryz.isAgg3 (OV.p rfl) (fun _ => by repeat (first | exact Rd.here rfl | apply Rd.up))) rfl ?_
       refine WL.call (vs := [_, _, _, _]) Tryz.call68 ⟨OV.p rfl, OV.p rfl, OV.p rfl, OV.p rfl, trivial⟩ (Tells.eq (v' := .int .i64 ah) (ref08_Ahead hI1 o.block o.page true) (by rw [hah])) rfl ?_
       rintro _ H0 ⟨rfl, h0⟩
       subst H0
       refine WL.val (V.assign (OV.p rfl)) rfl ?_
       refine WL.nil ?_
       refine WC.seq ?_
       refine WC.sr ?_
       refine WL.val (V.move (OV.p rfl)) rfl ?_
       refine WL.val (V.neq (OV.p rfl) (OV.p rfl)) rfl ?_
       refine WL.nil ?_
       refine WC.cond rfl (fun hc9 => ?_) (fun hc9 => ?_)
       ·simp only [Bool.not_eq_true', Bool.not_eq_false', decide_eq_true_eq, decide_eq_false_iff_not] at hc9
        have h9 := hc9
        rw [if_pos h9] at hG2
        subst hG2
        refine WC.sr ?_
        refine WL.val (V.move (OV.p rfl)) rfl ?_
        refine WL.val (V.move (OV.p rfl)) rfl ?_
        refine WL.val (V.eql (OV.p rfl) (OV.p rfl)) rfl ?_
        refine WL.val (V.move (OV.p rfl)) rfl ?_
        refine WL.valG (oj := _) rfl rfl rfl GC.t (V.move (OV.p rfl)) rfl ?_
        refine WL.valG (oj := _) rfl rfl rfl GC.t (V.len (t := 38) Tryz.runUnderlying38 (OV.g rfl id)) rfl ?_
        refine WL.valG (oj := _) rfl rfl rfl GC.t (V.move (OV.p rfl)) rfl ?_
        refine WL.valG (oj := _) rfl rfl rfl GC.t (V.val_eq (v' := .int .i64 0) (V.addI (OV.g rfl id) (OV.g rfl id) (fun _ => by simp)) (fun _ => by simp)) rfl ?_
        refine WL.valG (oj := _) rfl rfl rfl GC.t (V.eql (OV.g rfl id) (OV.p rfl)) rfl ?_
        refine WL.val (V.pickAnd (OV.p rfl) (OV.g rfl id)) rfl ?_
        refine WL.val (V.assign (OV.p rfl)) rfl ?_
        refine WL.nil ?_
        refine WC.ret ?_
        refine BodyQ.ret (H' := C1.A bc :: DvA bd bc g :: R1.A a :: F) (Res.tmp rfl rfl) (fun w h => h.sel 5 [2, 3, 0] rfl) ⟨?_, ⟨C1, R1, hC1, hR1, hI1, hg1, rfl⟩⟩
        simp
       ·simp only [Bool.not_eq_true', Bool.not_eq_false', decide_eq_true_eq, decide_eq_false_iff_not] at hc9
        have h9 := hc9
        have h9' : ah = 0 := by omega
        have hre : C1.sem.readErr o.block o.page = 0 := Chip.read_zero (by rw [← hah]; exact h9')
        have hrl := (hC1.rawN_facts o.block o.page)
        have hgR : R1.g = C1.g := hI1.g
        rw [if_neg (fun h => h h9')] at hG2
        refine WC.skip ?_
        refine WC.sr ?_
        refine WL.val (V.move (OV.p rfl)) rfl ?_
        refine WL.val (V.fieldAddr fo40_1 (OV.p rfl)) rfl ?_
        refine WL.val (V.load Tryz.isAgg3 (OV.p rfl) (fun _ => by repeat (first | exact Rd.here rfl | apply Rd.up))) rfl ?_
        refine WL.val (V.fieldAddr fo40_2 (OV.p rfl)) rfl ?_
        refine WL.val (V.load Tryz.isAgg3 (OV.p rfl) (fun _ => by repeat (first | exact Rd.here rfl | apply Rd.up))) rfl ?_
        refine WL.call (vs := [_, _, _]) Tryz.call69 ⟨OV.p rfl, OV.p rfl, OV.p rfl, trivial⟩ (ref_ReadZ hR1 hI1 hC1.rawN_facts hre) rfl ?_
        rintro _ _ ⟨gr, rfl, rfl⟩
        refine WL.val (V.move (OV.p rfl)) rfl ?_
        refine WL.val (V.extract (OV.p rfl) rfl) rfl ?_
        refine WL.val (V.extract (OV.p rfl) rfl) rfl ?_
        refine WL.val (V.assign (OV.p rfl)) rfl ?_
        refine WL.val (V.assign (OV.p rfl)) rfl ?_
        refine WL.nil ?_
        refine WC.sr ?_
        refine WL.val (V.move (OV.p rfl)) rfl ?_
        refine WL.val (V.nilCheck (OV.p rfl)) rfl ?_
        refine WL.val (V.fieldAddr fo97_0 (OV.p rfl)) rfl ?_
        refine WL.val (V.loadA (vs := [.int .i64 R1.g.bl, .int .i64 R1.g.pg, .int .i64 R1.g.se, .int .i64 R1.g.sb, .int .i64 R1.g.fl]) ⟨Tryz.isAgg23, Tryz.sizeOf23⟩ (OV.p rfl) rfl (fun _ => RW.rdg.up)) rfl ?_
        refine WL.val (V.move (OV.p rfl)) rfl ?_
        refine WL.call (vs := [_, _]) Tryz.call70 ⟨OV.p rfl, OV.p rfl, trivial⟩ (ecc_ReadG (g := R1.g) (raw := C1.sem.rawN o.block o.page) hR1.mays (Seq.allN (by rw [hgR]; exact hrl.2.2)) hrl.2.1 rfl (Nat.le_refl _)) rfl ?_
        rintro _ _ ⟨A9, c9, rfl, rfl⟩
        obtain ⟨q, hq⟩ : ∃ q, q = readF R1.g.fl.toNat R1.g.se.toNat R1.g.sb.toNat (C1.sem.rawN o.block o.page) := ⟨_, rfl⟩
        have hGq : G = ⟨(q.err : Nat), q.d, q.n⟩ := by rw [hG2, hq, hgR]; rfl
        rw [← hq]
        subst hGq
        refine WL.val (V.move (OV.p rfl)) rfl ?_
        refine WL.val (V.extract (OV.p rfl) rfl) rfl ?_
        refine WL.val (V.extract (OV.p rfl) rfl) rfl ?_
        refine WL.val (V.extract (OV.p rfl) rfl) rfl ?_
        refine WL.val (V.assign (OV.p rfl)) rfl ?_
        refine WL.val (V.assign (OV.p rfl)) rfl ?_
        refine WL.val (V.assign (OV.p rfl)) rfl ?_
        refine WL.nil ?_
        refine WC.sr ?_
        refine WL.val (V.move (OV.p rfl)) rfl ?_
        refine WL.val (V.move (OV.p rfl)) rfl ?_
        refine WL.val (V.eql (OV.p rfl) (OV.p rfl)) rfl ?_
        refine WL.val (V.move (OV.p rfl)) rfl ?_
        refine WL.valG (oj := _) rfl rfl rfl GC.t (V.move (OV.p rfl)) rfl ?_
        refine WL.valG (oj := _) rfl rfl rfl GC.t (V.move (OV.p rfl)) rfl ?_
        refine WL.valG (oj := _) rfl rfl rfl GC.t (V.eql (OV.g rfl id) (OV.g rfl id)) rfl ?_
        refine WL.val (V.pickAnd (OV.p rfl) (OV.g rfl id)) rfl ?_
        refine WL.val (V.move (OV.p rfl)) rfl ?_
        refine WL.valG (oj := _) rfl rfl rfl GC.t (V.move (OV.p rfl)) rfl ?_
        refine WL.valG (oj := _) rfl rfl rfl GC.t (V.bytesStr (xs := intsOf q.d) Tryz.underlying38 Tryz.underlying5 Tryz.underlying9 (OV.g rfl id) (fun _ => by rw [← nats_intsOf]; exact Seq.up (Seq.up (Seq.up (SlA.seq (by rw [nats_length, Nat.mul_one])))))) rfl ?_
        refine WL.valG (oj := _) rfl rfl rfl GC.t (V.move (OV.p rfl)) rfl ?_
        refine WL.valG (oj := _) rfl rfl rfl GC.t (V.bytesStr (xs := intsOf q.d) Tryz.underlying38 Tryz.underlying5 Tryz.underlying9 (OV.g rfl id) (fun _ => by rw [← nats_intsOf]; exact SlA.seq (by rw [nats_length, Nat.mul_one]))) rfl ?_
        refine WL.valG (oj := _) rfl rfl rfl GC.t (V.eqlS (OV.g rfl id) (OV.g rfl id)) rfl ?_
        refine WL.val (V.pickAnd (OV.p rfl) (OV.g rfl id)) rfl ?_
        refine WL.val (V.assign (OV.p rfl)) rfl ?_
        refine WL.nil ?_
        refine WC.ret ?_
        exact BodyQ.ret (H' := C1.A bc :: DvA bd bc g :: R1.A a :: F) (Res.tmp rfl (look_eq rfl (by simp))) (fun w h => h.sel 7 [4, 5, 2] rfl) ⟨rfl, ⟨C1, R1, hC1, hR1, hI1, hg1, rfl⟩⟩
      ·skip
       refine WC.sr ?_
       refine WL.val (V.eql (OV.p rfl) (OV.p rfl)) rfl ?_
       refine WL.val (V.assign (OV.p rfl)) rfl ?_
       refine WL.nil ?_
       refine WC.cond rfl (fun hc6 => ?_) (fun hc6 => ?_)
       ·skip
        refine WC.sr ?_
        refine WL.val (V.move (OV.p rfl)) rfl ?_
        refine WL.call (vs := [_]) Tryz.call37 ⟨OV.p rfl, trivial⟩ (chip_Off (C := C)) rfl ?_
        rintro v1 _ rfl
        obtain ⟨C1, hCe⟩ : ∃ D : Cw, D = C.off := ⟨_, rfl⟩
        have hC1 : C1.Ok := by rw [hCe]; exact hC.off
        obtain ⟨R1, hRe⟩ : ∃ D : RW, D = { R with up := false } := ⟨_, rfl⟩
        have hR1 : R1.Ok := by rw [hRe]; exact ⟨hR.mays, hR.pgs, hR.left, hR.next⟩
        have hI1 : R1.Is C1.sem := by rw [hRe, hCe]; exact ⟨hI.g, hI.fuse, rfl, hI.left, hI.keep, hI.len, hI.nlen, fun k z hz => (hI.blk k z hz).congr rfl rfl rfl rfl (fun q => ⟨rfl, rfl⟩)⟩
        have hg1 : C1.g = g := by rw [hCe]; exact hCg
        rw [← hCe]
        refine WL.nil ?_
        refine WC.sub (Sub.refl _) (fun w h => Sat.unall (l := R.parts a) (h.sel 3 [2, 0, 1] rfl)) ?_
        dsimp only [RW.parts, List.cons_append, List.nil_append]
        refine WC.region ?_
        refine WL.val (V.move (OV.p rfl)) rfl ?_
        refine WL.val (V.nilCheck (OV.p rfl)) rfl ?_
        refine WL.val (V.fieldAddr fo97_3 (OV.p rfl)) rfl ?_
        refine WL.store (cs := [_]) Tryz.sizeOf4 (OV.p rfl) (OV.p rfl) rfl rfl rfl (by repeat (first | exact Upd.here (cs' := [_, _, _, _, _, _, _, _, _, _]) rfl rfl | apply Upd.up)) ?_
        refine WL.sub (H' := C1.A bc :: DvA bd bc g :: R1.A a :: Cells b7 40 o.cells :: F) (Sub.refl _) (fun w h => by rw [hRe]; exact (Sat.all (l := RW.parts a { R with up := false }) (Sat.cells_eq h (by simp [setL]))).sel 3 [1, 2, 0] rfl) ?_
        refine WL.nil ?_
        refine WC.seq ?_
        first | refine WC.sub (H' := C1.A bc :: DvA bd bc g :: R1.A a :: Cells b7 40 o.cells :: F) (Sub.refl _) (fun w h => h) ?_ | refine WC.sub (Sub.refl _) hW8 ?_
        refine WC.region ?_
        refine WL.val (V.move (OV.p rfl)) rfl ?_
        refine WL.val (V.fieldAddr fo40_1 (OV.p rfl)) rfl ?_
        refine WL.val (V.load Tryz.isAgg3 (OV.p rfl) (fun _ => by repeat (first | exact Rd.here rfl | apply Rd.up))) rfl ?_
        refine WL.val (V.fieldAddr fo40_2 (OV.p rfl)) rfl ?_
        refine WL.val (V.load Tryz.isAgg3 (OV.p rfl) (fun _ => by repeat (first | exact Rd.here rfl | apply Rd.up))) rfl ?_
        refine WL.call (vs := [_, _, _]) Tryz.call26 ⟨OV.p rfl, OV.p rfl, OV.p rfl, trivial⟩ (drive_ReadG hC1 hg1 o.block o.page) rfl ?_
        rintro _ _ ⟨A8, c8, rfl, rfl⟩
        obtain ⟨G, hG⟩ : ∃ G, G = C1.sem.dRead o.block o.page := ⟨_, rfl⟩
        obtain ⟨ah, hah⟩ : ∃ ah, ah = C1.sem.ahead o.block o.page true := ⟨_, rfl⟩
        have hG2 := hG
        unfold Chip.dRead at hG2
        rw [← hah] at hG2
        rw [← hG]
        refine WL.sub (Sub.refl _) (fun w h => h.sel 4 [3, 0, 1, 2] rfl) ?_
        refine WL.val (V.move (OV.p rfl)) rfl ?_
        refine WL.val (V.extract (OV.p rfl) rfl) rfl ?_
        refine WL.val (V.extract (OV.p rfl) rfl) rfl ?_
        refine WL.val (V.extract (OV.p rfl) rfl) rfl ?_
        refine WL.val (V.assign (OV.p rfl)) rfl ?_
        refine WL.val (V.assign (OV.p rfl)) rfl ?_
        refine WL.val (V.assign (OV.p rfl)) rfl ?_
        refine WL.nil ?_
        refine WC.sr ?_
        refine WL.val (V.move (OV.p rfl)) rfl ?_
        refine WL.val (V.fieldAddr fo40_1 (OV.p rfl)) rfl ?_
        refine WL.val (V.load Tryz.isAgg3 (OV.p rfl) (fun _ => by repeat (first | exact Rd.here rfl | apply Rd.up))) rfl ?_
        refine WL.val (V.fieldAddr fo40_2 (OV.p rfl)) rfl ?_
        refine WL.val (V.load Tryz.isAgg3 (OV.p rfl) (fun _ => by repeat (first | exact Rd.here rfl | apply Rd.up))) rfl ?_
        refine WL.call (vs := [_, _, _, _]) Tryz.call68 ⟨OV.p rfl, OV.p rfl, OV.p rfl, OV.p rfl, trivial⟩ (Tells.eq (v' := .int .i64 ah) (ref08_Ahead hI1 o.block o.page true) (by rw [hah])) rfl ?_
        rintro _ H0 ⟨rfl, h0⟩
        subst H0
        refine WL.val (V.assign (OV.p rfl)) rfl ?_
        refine WL.nil ?_
        refine WC.seq ?_
        refine WC.sr ?_
        refine WL.val (V.move (OV.p rfl)) rfl ?_
        refine WL.val (V.neq (OV.p rfl) (OV.p rfl)) rfl ?_
        refine WL.nil ?_
        refine WC.cond rfl (fun hc9 => ?_) (fun hc9 => ?_)
        ·simp only [Bool.not_eq_true', Bool.not_eq_false', decide_eq_true_eq, decide_eq_false_iff_not] at hc9
         have h9 := hc9
         rw [if_pos h9] at hG2
         subst hG2
         refine WC.sr ?_
         refine WL.val (V.move (OV.p rfl)) rfl ?_
         refine WL.val (V.move (OV.p rfl)) rfl ?_
         refine WL.val (V.eql (OV.p rfl) (OV.p rfl)) rfl ?_
         refine WL.val (V.move (OV.p rfl)) rfl ?_
         refine WL.valG (oj := _) rfl rfl rfl GC.t (V.move (OV.p rfl)) rfl ?_
         refine WL.valG (oj := _) rfl rfl rfl GC.t (V.len (t := 38) Tryz.runUnderlying38 (OV.g rfl id)) rfl ?_
         refine WL.valG (oj := _) rfl rfl rfl GC.t (V.move (OV.p rfl)) rfl ?_
         refine WL.valG (oj := _) rfl rfl rfl GC.t (V.val_eq (v' := .int .i64 0) (V.addI (OV.g rfl id) (OV.g rfl id) (fun _ => by simp)) (fun _ => by simp)) rfl ?_
         refine WL.valG (oj := _) rfl rfl rfl GC.t (V.eql (OV.g rfl id) (OV.p rfl)) rfl ?_
         refine WL.val (V.pickAnd (OV.p rfl) (OV.g rfl id)) rfl ?_
         refine WL.val (V.assign (OV.p rfl)) rfl ?_
         refine WL.nil ?_
         refine WC.ret ?_
         refine BodyQ.ret (H' := C1.A bc :: DvA bd bc g :: R1.A a :: F) (Res.tmp rfl rfl) (fun w h => h.sel 5 [2, 3, 0] rfl) ⟨?_, ⟨C1, R1, hC1, hR1, hI1, hg1, rfl⟩⟩
         simp
        ·simp only [Bool.not_eq_true', Bool.not_eq_false', decide_eq_true_eq, decide_eq_false_iff_not] at hc9
         have h9 := hc9
         have h9' : ah = 0 := by omega
         have hre : C1.sem.readErr o.block o.page = 0 := Chip.read_zero (by rw [← hah]; exact h9')
         have hrl := (hC1.rawN_facts o.block o.page)
         have hgR : R1.g = C1.g := hI1.g
         rw [if_neg (fun h => h h9')] at hG2
         refine WC.skip ?_
         refine WC.sr ?_
         refine WL.val (V.move (OV.p rfl)) rfl ?_
         refine WL.val (V.fieldAddr fo40_1 (OV.p rfl)) rfl ?_
         refine WL.val (V.load Tryz.isAgg3 (OV.p rfl) (fun _ => by repeat (first | exact Rd.here rfl | apply Rd.up))) rfl ?_
         refine WL.val (V.fieldAddr fo40_2 (OV.p rfl)) rfl ?_
         refine WL.val (V.load Tryz.isAgg3 (OV.p rfl) (fun _ => by repeat (first | exact Rd.here rfl | apply Rd.up))) rfl ?_
         refine WL.call (vs := [_, _, _]) Tryz.call69 ⟨OV.p rfl, OV.p rfl, OV.p rfl, trivial⟩ (ref_ReadZ hR1 hI1 hC1.rawN_facts hre) rfl ?_
         rintro _ _ ⟨gr, rfl, rfl⟩
         refine WL.val (V.move (OV.p rfl)) rfl ?_
         refine WL.val (V.extract (OV.p rfl) rfl) rfl ?_
         refine WL.val (V.extract (OV.p rfl) rfl) rfl ?_
         refine WL.val (V.assign (OV.p rfl)) rfl ?_
         refine WL.val (V.assign (OV.p rfl)) rfl ?_
         refine WL.nil ?_
         refine WC.sr ?_
         refine WL.val (V.move (OV.p rfl)) rfl ?_
         refine WL.val (V.nilCheck (OV.p rfl)) rfl ?_
         refine WL.val (V.fieldAddr fo97_0 (OV.p rfl)) rfl ?_
         refine WL.val (V.loadA (vs := [.int .i64 R1.g.bl, .int .i64 R1.g.pg, .int .i64 R1.g.se, .int .i64 R1.g.sb, .int .i64 R1.g.fl]) ⟨Tryz.isAgg23, Tryz.sizeOf23⟩ (OV.p rfl) rfl (fun _ => RW.rdg.up)) rfl ?_
         refine WL.val (V.move (OV.p rfl)) rfl ?_
         refine WL.call (vs := [_, _]) Tryz.call70 ⟨OV.p rfl, OV.p rfl, trivial⟩ (ecc_ReadG (g := R1.g) (raw := C1.sem.rawN o.block o.page) hR1.mays (Seq.allN (by rw [hgR]; exact hrl.2.2)) hrl.2.1 rfl (Nat.le_refl _)) rfl ?_
         rintro _ _ ⟨A9, c9, rfl, rfl⟩
         obtain ⟨q, hq⟩ : ∃ q, q = readF R1.g.fl.toNat R1.g.se.toNat R1.g.sb.toNat (C1.sem.rawN o.block o.page) := ⟨_, rfl⟩
         have hGq : G = ⟨(q.err : Nat), q.d, q.n⟩ := by rw [hG2, hq, hgR]; rfl
         rw [← hq]
         subst hGq
         refine WL.val (V.move (OV.p rfl)) rfl ?_
         refine WL.val (V.extract (OV.p rfl) rfl) rfl ?_
         refine WL.val (V.extract (OV.p rfl) rfl) rfl ?_
         refine WL.val (V.extract (OV.p rfl) rfl) rfl ?_
         refine WL.val (V.assign (OV.p rfl)) rfl ?_
         refine WL.val (V.assign (OV.p rfl)) rfl ?_
         refine WL.val (V.assign (OV.p rfl)) rfl ?_
         refine WL.nil ?_
         refine WC.sr ?_
         refine WL.val (V.move (OV.p rfl)) rfl ?_
         refine WL.val (V.move (OV.p rfl)) rfl ?_
         refine WL.val (V.eql (OV.p rfl) (OV.p rfl)) rfl ?_
         refine WL.val (V.move (OV.p rfl)) rfl ?_
         refine WL.valG (oj := _) rfl rfl rfl GC.t (V.move (OV.p rfl)) rfl ?_
         refine WL.valG (oj := _) rfl rfl rfl GC.t (V.move (OV.p rfl)) rfl ?_
         refine WL.valG (oj := _) rfl rfl rfl GC.t (V.eql (OV.g rfl id) (OV.g rfl id)) rfl ?_
         refine WL.val (V.pickAnd (OV.p rfl) (OV.g rfl id)) rfl ?_
         refine WL.val (V.move (OV.p rfl)) rfl ?_
         refine WL.valG (oj := _) rfl rfl rfl GC.t (V.move (OV.p rfl)) rfl ?_
         refine WL.valG (oj := _) rfl rfl rfl GC.t (V.bytesStr (xs := intsOf q.d) Tryz.underlying38 Tryz.underlying5 Tryz.underlying9 (OV.g rfl id) (fun _ => by rw [← nats_intsOf]; exact Seq.up (Seq.up (Seq.up (SlA.seq (by rw [nats_length, Nat.mul_one])))))) rfl ?_
         refine WL.valG (oj := _) rfl rfl rfl GC.t (V.move (OV.p rfl)) rfl ?_
         refine WL.valG (oj := _) rfl rfl rfl GC.t (V.bytesStr (xs := intsOf q.d) Tryz.underlying38 Tryz.underlying5 Tryz.underlying9 (OV.g rfl id) (fun _ => by rw [← nats_intsOf]; exact SlA.seq (by rw [nats_length, Nat.mul_one]))) rfl ?_
         refine WL.valG (oj := _) rfl rfl rfl GC.t (V.eqlS (OV.g rfl id) (OV.g rfl id)) rfl ?_
         refine WL.val (V.pickAnd (OV.p rfl) (OV.g rfl id)) rfl ?_
         refine WL.val (V.assign (OV.p rfl)) rfl ?_
         refine WL.nil ?_
         refine WC.ret ?_
         exact BodyQ.ret (H' := C1.A bc :: DvA bd bc g :: R1.A a :: F) (Res.tmp rfl (look_eq rfl (by simp))) (fun w h => h.sel 7 [4, 5, 2] rfl) ⟨rfl, ⟨C1, R1, hC1, hR1, hI1, hg1, rfl⟩⟩
       ·skip
        refine WC.sr ?_
        refine WL.val (V.eql (OV.p rfl) (OV.p rfl)) rfl ?_
        refine WL.val (V.assign (OV.p rfl)) rfl ?_
        refine WL.nil ?_
        refine WC.cond rfl (fun hc7 => ?_) (fun hc7 => ?_)
        ·skip
         refine WC.sr ?_
         refine WL.val (V.move (OV.p rfl)) rfl ?_
         refine WL.val (V.fieldAddr fo40_3 (OV.p rfl)) rfl ?_
         refine WL.val (V.load Tryz.isAgg3 (OV.p rfl) (fun _ => by repeat (first | exact Rd.here rfl | apply Rd.up))) rfl ?_
         refine WL.val (V.fieldAddr fo40_2 (OV.p rfl)) rfl ?_
         refine WL.val (V.load Tryz.isAgg3 (OV.p rfl) (fun _ => by repeat (first | exact Rd.here rfl | apply Rd.up))) rfl ?_
         refine WL.call (vs := [_, _, _]) Tryz.call42 ⟨OV.p rfl, OV.p rfl, OV.p rfl, trivial⟩ (chip_Arm (C := C) o.n o.page) rfl ?_
         rintro v1 _ rfl
         obtain ⟨C1, hCe⟩ : ∃ D : Cw, D = C.arm o.n o.page := ⟨_, rfl⟩
         have hC1 : C1.Ok := by rw [hCe]; exact hC.arm (keep := o.page) ho.n
         have hg1 : C1.g = g := by rw [hCe]; exact hCg
         rw [← hCe]
         refine WL.nil ?_
         refine WC.region ?_
         refine WL.val (V.move (OV.p rfl)) rfl ?_
         refine WL.val (V.fieldAddr fo40_3 (OV.p rfl)) rfl ?_
         refine WL.val (V.load Tryz.isAgg3 (OV.p rfl) (fun _ => by repeat (first | exact Rd.here rfl | apply Rd.up))) rfl ?_
         refine WL.val (V.fieldAddr fo40_2 (OV.p rfl)) rfl ?_
         refine WL.val (V.load Tryz.isAgg3 (OV.p rfl) (fun _ => by repeat (first | exact Rd.here rfl | apply Rd.up))) rfl ?_
         refine WL.sub (Sub.refl _) (fun w h => h.sel 3 [2, 0, 1] rfl) ?_
         refine WL.call (vs := [_, _, _]) Tryz.call65 ⟨OV.p rfl, OV.p rfl, OV.p rfl, trivial⟩ (ref_Arm hR hI o.n o.page ho.n) rfl ?_
         rintro v2 _ ⟨R1, hR1, hI1', rfl⟩
         have hI1 : R1.Is C1.sem := by rw [hCe]; exact hI1'
         refine WL.sub (Sub.refl _) (fun w h => h.sel 3 [1, 2, 0] rfl) ?_
         refine WL.nil ?_
         refine WC.seq ?_
         first | refine WC.sub (H' := C1.A bc :: DvA bd bc g :: R1.A a :: Cells b7 40 o.cells :: F) (Sub.refl _) (fun w h => h) ?_ | refine WC.sub (Sub.refl _) hW8 ?_
         refine WC.region ?_
         refine WL.val (V.move (OV.p rfl)) rfl ?_
         refine WL.val (V.fieldAddr fo40_1 (OV.p rfl)) rfl ?_
         refine WL.val (V.load Tryz.isAgg3 (OV.p rfl) (fun _ => by repeat (first | exact Rd.here rfl | apply Rd.up))) rfl ?_
         refine WL.val (V.fieldAddr fo40_2 (OV.p rfl)) rfl ?_
         refine WL.val (V.load Tryz.isAgg3 (OV.p rfl) (fun _ => by repeat (first | exact Rd.here rfl | apply Rd.up))) rfl ?_
         refine WL.call (vs := [_, _, _]) Tryz.call26 ⟨OV.p rfl, OV.p rfl, OV.p rfl, trivial⟩ (drive_ReadG hC1 hg1 o.block o.page) rfl ?_
         rintro _ _ ⟨A8, c8, rfl, rfl⟩
         obtain ⟨G, hG⟩ : ∃ G, G = C1.sem.dRead o.block o.page := ⟨_, rfl⟩
         obtain ⟨ah, hah⟩ : ∃ ah, ah = C1.sem.ahead o.block o.page true := ⟨_, rfl⟩
         have hG2 := hG
         unfold Chip.dRead at hG2
         rw [← hah] at hG2
         rw [← hG]
         refine WL.sub (Sub.refl _) (fun w h => h.sel 4 [3, 0, 1, 2] rfl) ?_
         refine WL.val (V.move (OV.p rfl)) rfl ?_
         refine WL.val (V.extract (OV.p rfl) rfl) rfl ?_
         refine WL.val (V.extract (OV.p rfl) rfl) rfl ?_
         refine WL.val (V.extract (OV.p rfl) rfl) rfl ?_
         refine WL.val (V.assign (OV.p rfl)) rfl ?_
         refine WL.val (V.assign (OV.p rfl)) rfl ?_
         refine WL.val (V.assign (OV.p rfl)) rfl ?_
         refine WL.nil ?_
         refine WC.sr ?_
         refine WL.val (V.move (OV.p rfl)) rfl ?_
         refine WL.val (V.fieldAddr fo40_1 (OV.p rfl)) rfl ?_
         refine WL.val (V.load Tryz.isAgg3 (OV.p rfl) (fun _ => by repeat (first | exact Rd.here rfl | apply Rd.up))) rfl ?_
         refine WL.val (V.fieldAddr fo40_2 (OV.p rfl)) rfl ?_
         refine WL.val (V.load Tryz.isAgg3 (OV.p rfl) (fun _ => by repeat (first | exact Rd.here rfl | apply Rd.up))) rfl ?_
         refine WL.call (vs := [_, _, _, _]) Tryz.call68 ⟨OV.p rfl, OV.p rfl, OV.p rfl, OV.p rfl, trivial⟩ (Tells.eq (v' := .int .i64 ah) (ref08_Ahead hI1 o.block o.page true) (by rw [hah])) rfl ?_
         rintro _ H0 ⟨rfl, h0⟩
         subst H0
         refine WL.val (V.assign (OV.p rfl)) rfl ?_
         refine WL.nil ?_
         refine WC.seq ?_
         refine WC.sr ?_
         refine WL.val (V.move (OV.p rfl)) rfl ?_
         refine WL.val (V.neq (OV.p rfl) (OV.p rfl)) rfl ?_
         refine WL.nil ?_
         refine WC.cond rfl (fun hc9 => ?_) (fun hc9 => ?_)
         ·simp only [Bool.not_eq_true', Bool.not_eq_false', decide_eq_true_eq, decide_eq_false_iff_not] at hc9
          have h9 := hc9
          rw [if_pos h9] at hG2
          subst hG2
          refine WC.sr ?_
          refine WL.val (V.move (OV.p rfl)) rfl ?_
          refine WL.val (V.move (OV.p rfl)) rfl ?_
          refine WL.val (V.eql (OV.p rfl) (OV.p rfl)) rfl ?_
          refine WL.val (V.move (OV.p rfl)) rfl ?_
          refine WL.valG (oj := _) rfl rfl rfl GC.t (V.move (OV.p rfl)) rfl ?_
          refine WL.valG (oj := _) rfl rfl rfl GC.t (V.len (t := 38) Tryz.runUnderlying38 (OV.g rfl id)) rfl ?_
          refine WL.valG (oj := _) rfl rfl rfl GC.t (V.move (OV.p rfl)) rfl ?_
          refine WL.valG (oj := _) rfl rfl rfl GC.t (V.val_eq (v' := .int .i64 0) (V.addI (OV.g rfl id) (OV.g rfl id) (fun _ => by simp)) (fun _ => by simp)) rfl ?_
          refine WL.valG (oj := _) rfl rfl rfl GC.t (V.eql (OV.g rfl id) (OV.p rfl)) rfl ?_
          refine WL.val (V.pickAnd (OV.p rfl) (OV.g rfl id)) rfl ?_
          refine WL.val (V.assign (OV.p rfl)) rfl ?_
          refine WL.nil ?_
          refine WC.ret ?_
          refine BodyQ.ret (H' := C1.A bc :: DvA bd bc g :: R1.A a :: F) (Res.tmp rfl rfl) (fun w h => h.sel 5 [2, 3, 0] rfl) ⟨?_, ⟨C1, R1, hC1, hR1, hI1, hg1, rfl⟩⟩
          simp
         ·simp only [Bool.not_eq_true', Bool.not_eq_false', decide_eq_true_eq, decide_eq_false_iff_not] at hc9
          have h9 := hc9
          have h9' : ah = 0 := by omega
          have hre : C1.sem.readErr o.block o.page = 0 := Chip.read_zero (by rw [← hah]; exact h9')
          have hrl := (hC1.rawN_facts o.block o.page)
          have hgR : R1.g = C1.g := hI1.g
          rw [if_neg (fun h => h h9')] at hG2
          refine WC.skip ?_
          refine WC.sr ?_
          refine WL.val (V.move (OV.p rfl)) rfl ?_
          refine WL.val (V.fieldAddr fo40_1 (OV.p rfl)) rfl ?_
          refine WL.val (V.load Tryz.isAgg3 (OV.p rfl) (fun _ => by repeat (first | exact Rd.here rfl | apply Rd.up))) rfl ?_
          refine WL.val (V.fieldAddr fo40_2 (OV.p rfl)) rfl ?_
          refine WL.val (V.load Tryz.isAgg3 (OV.p rfl) (fun _ => by repeat (first | exact Rd.here rfl | apply Rd.up))) rfl ?_
          refine WL.call (vs := [_, _, _]) Tryz.call69 ⟨OV.p rfl, OV.p rfl, OV.p rfl, trivial⟩ (ref_ReadZ hR1 hI1 hC1.rawN_facts hre) rfl ?_
          rintro _ _ ⟨gr, rfl, rfl⟩
          refine WL.val (V.move (OV.p rfl)) rfl ?_
          refine WL.val (V.extract (OV.p rfl) rfl) rfl ?_
          refine WL.val (V.extract (OV.p rfl) rfl) rfl ?_
          refine WL.val (V.assign (OV.p rfl)) rfl ?_
          refine WL.val (V.assign (OV.p rfl)) rfl ?_
          refine WL.nil ?_
          refine WC.sr ?_
          refine WL.val (V.move (OV.p rfl)) rfl ?_
          refine WL.val (V.nilCheck (OV.p rfl)) rfl ?_
          refine WL.val (V.fieldAddr fo97_0 (OV.p rfl)) rfl ?_
          refine WL.val (V.loadA (vs := [.int .i64 R1.g.bl, .int .i64 R1.g.pg, .int .i64 R1.g.se, .int .i64 R1.g.sb, .int .i64 R1.g.fl]) ⟨Tryz.isAgg23, Tryz.sizeOf23⟩ (OV.p rfl) rfl (fun _ => RW.rdg.up)) rfl ?_
          refine WL.val (V.move (OV.p rfl)) rfl ?_
          refine WL.call (vs := [_, _]) Tryz.call70 ⟨OV.p rfl, OV.p rfl, trivial⟩ (ecc_ReadG (g := R1.g) (raw := C1.sem.rawN o.block o.page) hR1.mays (Seq.allN (by rw [hgR]; exact hrl.2.2)) hrl.2.1 rfl (Nat.le_refl _)) rfl ?_
          rintro _ _ ⟨A9, c9, rfl, rfl⟩
          obtain ⟨q, hq⟩ : ∃ q, q = readF R1.g.fl.toNat R1.g.se.toNat R1.g.sb.toNat (C1.sem.rawN o.block o.page) := ⟨_, rfl⟩
          have hGq : G = ⟨(q.err : Nat), q.d, q.n⟩ := by rw [hG2, hq, hgR]; rfl
          rw [← hq]
          subst hGq
          refine WL.val (V.move (OV.p rfl)) rfl ?_
          refine WL.val (V.extract (OV.p rfl) rfl) rfl ?_
          refine WL.val (V.extract (OV.p rfl) rfl) rfl ?_
          refine WL.val (V.extract (OV.p rfl) rfl) rfl ?_
          refine WL.val (V.assign (OV.p rfl)) rfl ?_
          refine WL.val (V.assign (OV.p rfl)) rfl ?_
          refine WL.val (V.assign (OV.p rfl)) rfl ?_
          refine WL.nil ?_
          refine WC.sr ?_
          refine WL.val (V.move (OV.p rfl)) rfl ?_
          refine WL.val (V.move (OV.p rfl)) rfl ?_
          refine WL.val (V.eql (OV.p rfl) (OV.p rfl)) rfl ?_
          refine WL.val (V.move (OV.p rfl)) rfl ?_
          refine WL.valG (oj := _) rfl rfl rfl GC.t (V.move (OV.p rfl)) rfl ?_
          refine WL.valG (oj := _) rfl rfl rfl GC.t (V.move (OV.p rfl)) rfl ?_
          refine WL.valG (oj := _) rfl rfl rfl GC.t (V.eql (OV.g rfl id) (OV.g rfl id)) rfl ?_
          refine WL.val (V.pickAnd (OV.p rfl) (OV.g rfl id)) rfl ?_
          refine WL.val (V.move (OV.p rfl)) rfl ?_
          refine WL.valG (oj := _) rfl rfl rfl GC.t (V.move (OV.p rfl)) rfl ?_
          refine WL.valG (oj := _) rfl rfl rfl GC.t (V.bytesStr (xs := intsOf q.d) Tryz.underlying38 Tryz.underlying5 Tryz.underlying9 (OV.g rfl id) (fun _ => by rw [← nats_intsOf]; exact Seq.up (Seq.up (Seq.up (SlA.seq (by rw [nats_length, Nat.mul_one])))))) rfl ?_
          refine WL.valG (oj := _) rfl rfl rfl GC.t (V.move (OV.p rfl)) rfl ?_
          refine WL.valG (oj := _) rfl rfl rfl GC.t (V.bytesStr (xs := intsOf q.d) Tryz.underlying38 Tryz.underlying5 Tryz.underlying9 (OV.g rfl id) (fun _ => by rw [← nats_intsOf]; exact SlA.seq (by rw [nats_length, Nat.mul_one]))) rfl ?_
          refine WL.valG (oj := _) rfl rfl rfl GC.t (V.eqlS (OV.g rfl id) (OV.g rfl id)) rfl ?_
          refine WL.val (V.pickAnd (OV.p rfl) (OV.g rfl id)) rfl ?_
          refine WL.val (V.assign (OV.p rfl)) rfl ?_
          refine WL.nil ?_
          refine WC.ret ?_
          exact BodyQ.ret (H' := C1.A bc :: DvA bd bc g :: R1.A a :: F) (Res.tmp rfl (look_eq rfl (by simp))) (fun w h => h.sel 7 [4, 5, 2] rfl) ⟨rfl, ⟨C1, R1, hC1, hR1, hI1, hg1, rfl⟩⟩
        ·skip
         refine WC.sr ?_
         refine WL.val (V.eql (OV.p rfl) (OV.p rfl)) rfl ?_
         refine WL.val (V.assign (OV.p rfl)) rfl ?_
         refine WL.nil ?_
         refine WC.cond rfl (fun hc8 => ?_) (fun hc8 => ?_)
         ·skip
          refine WC.seq ?_
          refine WC.regionA (Cells b7 40 o.cells :: F) (by kernel_rfl) ?_
          refine WA.t 0 rfl (V.move (OV.p rfl)) ?_
          refine WA.t 1 rfl (V.fieldAddr fo40_1 (OV.p rfl)) ?_
          refine WA.t 2 rfl (V.load Tryz.isAgg3 (OV.p rfl) (fun _ => by repeat (first | exact Rd.here rfl | apply Rd.up))) ?_
          refine WA.t 3 rfl (V.fieldAddr fo40_2 (OV.p rfl)) ?_
          refine WA.t 4 rfl (V.load Tryz.isAgg3 (OV.p rfl) (fun _ => by repeat (first | exact Rd.here rfl | apply Rd.up))) ?_
          refine WA.t 5 rfl (V.fieldAddr fo40_4 (OV.p rfl)) ?_
          refine WA.t 6 rfl (V.load Tryz.isAgg38 (OV.p rfl) (fun _ => by repeat (first | exact Rd.here rfl | apply Rd.up))) ?_
          refine WA.t 8 rfl (V.move (OV.p rfl)) ?_
          refine WA.t 9 rfl (V.fieldAddr fo40_1 (OV.p rfl)) ?_
          refine WA.t 10 rfl (V.load Tryz.isAgg3 (OV.p rfl) (fun _ => by repeat (first | exact Rd.here rfl | apply Rd.up))) ?_
          refine WA.t 11 rfl (V.fieldAddr fo40_2 (OV.p rfl)) ?_
          refine WA.t 12 rfl (V.load Tryz.isAgg3 (OV.p rfl) (fun _ => by repeat (first | exact Rd.here rfl | apply Rd.up))) ?_
          refine WA.t 13 rfl (V.fieldAddr fo40_4 (OV.p rfl)) ?_
          refine WA.t 14 rfl (V.load Tryz.isAgg38 (OV.p rfl) (fun _ => by repeat (first | exact Rd.here rfl | apply Rd.up))) ?_
          refine WA.o 7 rfl ?_
          refine WL.call (vs := [_, _, _, _]) Tryz.call66 ⟨OV.p rfl, OV.p rfl, OV.p rfl, OV.p rfl, trivial⟩ (chip_Force hC o.block o.page (xs := intsOf o.dx) (intsOf_bytes ho.d8) (by rw [← nats_intsOf]; repeat (first | exact ho.data | apply Seq.up))) rfl ?_
          rintro v1 _ ⟨C1, hC1, rfl, s1, rfl⟩
          refine WL.nil ?_
          refine WA.o 15 rfl ?_
          refine WL.sub (Sub.refl _) (fun w h => h.sel 3 [2, 0, 1] rfl) ?_
          refine WL.call (vs := [_, _, _, _]) Tryz.call67 ⟨OV.p rfl, OV.p rfl, OV.p rfl, OV.p rfl, trivial⟩ (ref_Force hR hI o.block o.page (xs := intsOf o.dx) (intsOf_bytes ho.d8) (by rw [← nats_intsOf]; repeat (first | exact ho.data | apply Seq.up)) (by omega)) rfl ?_
          rintro v2 _ ⟨R1, hR1, hI1, rfl, rfl⟩
          refine WL.sub (Sub.refl _) (fun w h => h.sel 3 [1, 2, 0] rfl) ?_
          have hb : Both8 bc bd a g F (C1.A bc :: DvA bd bc g :: R1.A a :: F) := ⟨C1, R1, hC1, hR1, by rw [s1]; exact hI1, (Cw.g_sem s1 (Chip.force_g _ _ _ _)).trans hCg, rfl⟩
          refine WL.nil ?_
          refine WA.t 16 rfl (V.eql (OV.p rfl) (OV.p rfl)) ?_
          refine WA.t 17 rfl (V.assign (OV.p rfl)) ?_
          refine WA.fin ?_
          refine WC.ret ?_
          exact BodyQ.ret (H' := C1.A bc :: DvA bd bc g :: R1.A a :: F) (Res.tmp rfl (look_eq rfl (by simp))) (fun w h => h.sel 4 [0, 1, 2] rfl) ⟨rfl, hb⟩
         ·skip
          obtain ⟨C1, hCe⟩ : ∃ D : Cw, D = C := ⟨_, rfl⟩
          obtain ⟨R1, hRe⟩ : ∃ D : RW, D = R := ⟨_, rfl⟩
          have hC1 : C1.Ok := by rw [hCe]; exact hC
          have hR1 : R1.Ok := by rw [hRe]; exact hR
          have hI1 : R1.Is C1.sem := by rw [hRe, hCe]; exact hI
          have hg1 : C1.g = g := by rw [hCe]; exact hCg
          refine WC.sub (H' := C1.A bc :: DvA bd bc g :: R1.A a :: Cells b7 40 o.cells :: F) (Sub.refl _) (fun w h => by rw [hCe, hRe]; exact h) ?_
          refine WC.skip ?_
          refine WC.seq ?_
          first | refine WC.sub (H' := C1.A bc :: DvA bd bc g :: R1.A a :: Cells b7 40 o.cells :: F) (Sub.refl _) (fun w h => h) ?_ | refine WC.sub (Sub.refl _) hW8 ?_
          refine WC.region ?_
          refine WL.val (V.move (OV.p rfl)) rfl ?_
          refine WL.val (V.fieldAddr fo40_1 (OV.p rfl)) rfl ?_
          refine WL.val (V.load Tryz.isAgg3 (OV.p rfl) (fun _ => by repeat (first | exact Rd.here rfl | apply Rd.up))) rfl ?_
          refine WL.val (V.fieldAddr fo40_2 (OV.p rfl)) rfl ?_
          refine WL.val (V.load Tryz.isAgg3 (OV.p rfl) (fun _ => by repeat (first | exact Rd.here rfl | apply Rd.up))) rfl ?_
          refine WL.call (vs := [_, _, _]) Tryz.call26 ⟨OV.p rfl, OV.p rfl, OV.p rfl, trivial⟩ (drive_ReadG hC1 hg1 o.block o.page) rfl ?_
          rintro _ _ ⟨A8, c8, rfl, rfl⟩
          obtain ⟨G, hG⟩ : ∃ G, G = C1.sem.dRead o.block o.page := ⟨_, rfl⟩
          obtain ⟨ah, hah⟩ : ∃ ah, ah = C1.sem.ahead o.block o.page true := ⟨_, rfl⟩
          have hG2 := hG
          unfold Chip.dRead at hG2
          rw [← hah] at hG2
          rw [← hG]
          refine WL.sub (Sub.refl _) (fun w h => h.sel 4 [3, 0, 1, 2] rfl) ?_
          refine WL.val (V.move (OV.p rfl)) rfl ?_
          refine WL.val (V.extract (OV.p rfl) rfl) rfl ?_
          refine WL.val (V.extract (OV.p rfl) rfl) rfl ?_
          refine WL.val (V.extract (OV.p rfl) rfl) rfl ?_
          refine WL.val (V.assign (OV.p rfl)) rfl ?_
          refine WL.val (V.assign (OV.p rfl)) rfl ?_
          refine WL.val (V.assign (OV.p rfl)) rfl ?_
          refine WL.nil ?_
          refine WC.sr ?_
          refine WL.val (V.move (OV.p rfl)) rfl ?_
          refine WL.val (V.fieldAddr fo40_1 (OV.p rfl)) rfl ?_
          refine WL.val (V.load Tryz.isAgg3 (OV.p rfl) (fun _ => by repeat (first | exact Rd.here rfl | apply Rd.up))) rfl ?_
          refine WL.val (V.fieldAddr fo40_2 (OV.p rfl)) rfl ?_
          refine WL.val (V.load Tryz.isAgg3 (OV.p rfl) (fun _ => by repeat (first | exact Rd.here rfl | apply Rd.up))) rfl ?_
          refine WL.call (vs := [_, _, _, _]) Tryz.call68 ⟨OV.p rfl, OV.p rfl, OV.p rfl, OV.p rfl, trivial⟩ (Tells.eq (v' := .int .i64 ah) (ref08_Ahead hI1 o.block o.page true) (by rw [hah])) rfl ?_
          rintro _ H0 ⟨rfl, h0⟩
          subst H0
          refine WL.val (V.assign (OV.p rfl)) rfl ?_
          refine WL.nil ?_
          refine WC.seq ?_
          refine WC.sr ?_
          refine WL.val (V.move (OV.p rfl)) rfl ?_
          refine WL.val (V.neq (OV.p rfl) (OV.p rfl)) rfl ?_
          refine WL.nil ?_
          refine WC.cond rfl (fun hc9 => ?_) (fun hc9 => ?_)
          ·simp only [Bool.not_eq_true', Bool.not_eq_false', decide_eq_true_eq, decide_eq_false_iff_not] at hc9
           have h9 := hc9
           rw [if_pos h9] at hG2
           subst hG2
           refine WC.sr ?_
           refine WL.val (V.move (OV.p rfl)) rfl ?_
           refine WL.val (V.move (OV.p rfl)) rfl ?_
           refine WL.val (V.eql (OV.p rfl) (OV.p rfl)) rfl ?_
           refine WL.val (V.move (OV.p rfl)) rfl ?_
           refine WL.valG (oj := _) rfl rfl rfl GC.t (V.move (OV.p rfl)) rfl ?_
           refine WL.valG (oj := _) rfl rfl rfl GC.t (V.len (t := 38) Tryz.runUnderlying38 (OV.g rfl id)) rfl ?_
           refine WL.valG (oj := _) rfl rfl rfl GC.t (V.move (OV.p rfl)) rfl ?_
           refine WL.valG (oj := _) rfl rfl rfl GC.t (V.val_eq (v' := .int .i64 0) (V.addI (OV.g rfl id) (OV.g rfl id) (fun _ => by simp)) (fun _ => by simp)) rfl ?_
           refine WL.valG (oj := _) rfl rfl rfl GC.t (V.eql (OV.g rfl id) (OV.p rfl)) rfl ?_
           refine WL.val (V.pickAnd (OV.p rfl) (OV.g rfl id)) rfl ?_
           refine WL.val (V.assign (OV.p rfl)) rfl ?_
           refine WL.nil ?_
           refine WC.ret ?_
           refine BodyQ.ret (H' := C1.A bc :: DvA bd bc g :: R1.A a :: F) (Res.tmp rfl rfl) (fun w h => h.sel 5 [2, 3, 0] rfl) ⟨?_, ⟨C1, R1, hC1, hR1, hI1, hg1, rfl⟩⟩
           simp
          ·simp only [Bool.not_eq_true', Bool.not_eq_false', decide_eq_true_eq, decide_eq_false_iff_not] at hc9
           have h9 := hc9
           have h9' : ah = 0 := by omega
           have hre : C1.sem.readErr o.block o.page = 0 := Chip.read_zero (by rw [← hah]; exact h9')
           have hrl := (hC1.rawN_facts o.block o.page)
           have hgR : R1.g = C1.g := hI1.g
           rw [if_neg (fun h => h h9')] at hG2
           refine WC.skip ?_
           refine WC.sr ?_
           refine WL.val (V.move (OV.p rfl)) rfl ?_
           refine WL.val (V.fieldAddr fo40_1 (OV.p rfl)) rfl ?_
           refine WL.val (V.load Tryz.isAgg3 (OV.p rfl) (fun _ => by repeat (first | exact Rd.here rfl | apply Rd.up))) rfl ?_
           refine WL.val (V.fieldAddr fo40_2 (OV.p rfl)) rfl ?_
           refine WL.val (V.load Tryz.isAgg3 (OV.p rfl) (fun _ => by repeat (first | exact Rd.here rfl | apply Rd.up))) rfl ?_
           refine WL.call (vs := [_, _, _]) Tryz.call69 ⟨OV.p rfl, OV.p rfl, OV.p rfl, trivial⟩ (ref_ReadZ hR1 hI1 hC1.rawN_facts hre) rfl ?_
           rintro _ _ ⟨gr, rfl, rfl⟩
           refine WL.val (V.move (OV.p rfl)) rfl ?_
           refine WL.val (V.extract (OV.p rfl) rfl) rfl ?_
           refine WL.val (V.extract (OV.p rfl) rfl) rfl ?_
           refine WL.val (V.assign (OV.p rfl)) rfl ?_
           refine WL.val (V.assign (OV.p rfl)) rfl ?_
           refine WL.nil ?_
           refine WC.sr ?_
           refine WL.val (V.move (OV.p rfl)) rfl ?_
           refine WL.val (V.nilCheck (OV.p rfl)) rfl ?_
           refine WL.val (V.fieldAddr fo97_0 (OV.p rfl)) rfl ?_
           refine WL.val (V.loadA (vs := [.int .i64 R1.g.bl, .int .i64 R1.g.pg, .int .i64 R1.g.se, .int .i64 R1.g.sb, .int .i64 R1.g.fl]) ⟨Tryz.isAgg23, Tryz.sizeOf23⟩ (OV.p rfl) rfl (fun _ => RW.rdg.up)) rfl ?_
           refine WL.val (V.move (OV.p rfl)) rfl ?_
           refine WL.call (vs := [_, _]) Tryz.call70 ⟨OV.p rfl, OV.p rfl, trivial⟩ (ecc_ReadG (g := R1.g) (raw := C1.sem.rawN o.block o.page) hR1.mays (Seq.allN (by rw [hgR]; exact hrl.2.2)) hrl.2.1 rfl (Nat.le_refl _)) rfl ?_
           rintro _ _ ⟨A9, c9, rfl, rfl⟩
           obtain ⟨q, hq⟩ : ∃ q, q = readF R1.g.fl.toNat R1.g.se.toNat R1.g.sb.toNat (C1.sem.rawN o.block o.page) := ⟨_, rfl⟩
           have hGq : G = ⟨(q.err : Nat), q.d, q.n⟩ := by rw [hG2, hq, hgR]; rfl
           rw [← hq]
           subst hGq
           refine WL.val (V.move (OV.p rfl)) rfl ?_
           refine WL.val (V.extract (OV.p rfl) rfl) rfl ?_
           refine WL.val (V.extract (OV.p rfl) rfl) rfl ?_
           refine WL.val (V.extract (OV.p rfl) rfl) rfl ?_
           refine WL.val (V.assign (OV.p rfl)) rfl ?_
           refine WL.val (V.assign (OV.p rfl)) rfl ?_
           refine WL.val (V.assign (OV.p rfl)) rfl ?_
           refine WL.nil ?_
           refine WC.sr ?_
           refine WL.val (V.move (OV.p rfl)) rfl ?_
           refine WL.val (V.move (OV.p rfl)) rfl ?_
           refine WL.val (V.eql (OV.p rfl) (OV.p rfl)) rfl ?_
           refine WL.val (V.move (OV.p rfl)) rfl ?_
           refine WL.valG (oj := _) rfl rfl rfl GC.t (V.move (OV.p rfl)) rfl ?_
           refine WL.valG (oj := _) rfl rfl rfl GC.t (V.move (OV.p rfl)) rfl ?_
           refine WL.valG (oj := _) rfl rfl rfl GC.t (V.eql (OV.g rfl id) (OV.g rfl id)) rfl ?_
           refine WL.val (V.pickAnd (OV.p rfl) (OV.g rfl id)) rfl ?_
           refine WL.val (V.move (OV.p rfl)) rfl ?_
           refine WL.valG (oj := _) rfl rfl rfl GC.t (V.move (OV.p rfl)) rfl ?_
           refine WL.valG (oj := _) rfl rfl rfl GC.t (V.bytesStr (xs := intsOf q.d) Tryz.underlying38 Tryz.underlying5 Tryz.underlying9 (OV.g rfl id) (fun _ => by rw [← nats_intsOf]; exact Seq.up (Seq.up (Seq.up (SlA.seq (by rw [nats_length, Nat.mul_one])))))) rfl ?_
           refine WL.valG (oj := _) rfl rfl rfl GC.t (V.move (OV.p rfl)) rfl ?_
           refine WL.valG (oj := _) rfl rfl rfl GC.t (V.bytesStr (xs := intsOf q.d) Tryz.underlying38 Tryz.underlying5 Tryz.underlying9 (OV.g rfl id) (fun _ => by rw [← nats_intsOf]; exact SlA.seq (by rw [nats_length, Nat.mul_one]))) rfl ?_
           refine WL.valG (oj := _) rfl rfl rfl GC.t (V.eqlS (OV.g rfl id) (OV.g rfl id)) rfl ?_
           refine WL.val (V.pickAnd (OV.p rfl) (OV.g rfl id)) rfl ?_
           refine WL.val (V.assign (OV.p rfl)) rfl ?_
           refine WL.nil ?_
           refine WC.ret ?_
           exact BodyQ.ret (H' := C1.A bc :: DvA bd bc g :: R1.A a :: F) (Res.tmp rfl (look_eq rfl (by simp))) (fun w h => h.sel 7 [4, 5, 2] rfl) ⟨rfl, ⟨C1, R1, hC1, hR1, hI1, hg1, rfl⟩⟩
end
end Go.Proofs.YtohkefolnmcjnaaGreat
