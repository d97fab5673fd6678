/- Scripts of calls of casematelaw07: what they are, few. -/
import Derived.Test.YtgmdagjnigkaaaaK3
import Derived.Test.YtgmdagjnigkaaaaSlS
import Derived.Test.YtgmdagjnigkaaaaLG
namespace Go.Proofs.Ytgmdagjnigkaaaa
open Go.Sl Go.RowKit
set_option linter.unusedVariables false
set_option linter.unusedSimpArgs false
set_option maxRecDepth 20000

structure OpV where
  (kind block page n : Int)
  rA : Option Addr
  rc : Nat
  rx : List Int
  pA : Option Addr
  pc : Nat
  px : List Int
namespace OpV
abbrev cells (o : OpV) : List Value := [.int .i64 o.kind, .int .i64 o.block, .int .i64 o.page, .int .i64 o.n, .slice o.rA o.rx.length o.rc, .slice o.pA o.px.length o.pc]
structure Ok (K : World) (F : List Assn) (o : OpV) : Prop where
  n : o.n ≤ 9223372036854775807
  raw : Seq K F o.rA o.rx.length 1 (ints .u8 o.rx)
  rb : IsBytes o.rx
  rle : o.rx.length ≤ o.rc
  places : Seq K F o.pA o.px.length 1 (ints .i64 o.px)
  pb : ∀ x ∈ o.px, -9223372036854775808 ≤ x ∧ x ≤ 9223372036854775807
  ple : o.px.length ≤ o.pc
  plm : o.pc ≤ maxLen
def few (o : OpV) : Bool := !(decide (200 < (o.rx.length : Int)) || decide (60 < (o.px.length : Int)))
end OpV
/-- A script in memory. -/
structure Script (K : World) (F : List Assn) (A : Option Addr) (m : Nat) (l : List OpV) : Prop where
  seq : Seq K F A m 6 (l.map OpV.cells).flatten
  len : l.length = m
  ok : ∀ o ∈ l, o.Ok K F
theorem flatten_at {s : Nat} : ∀ {l : List (List Value)}, (∀ x ∈ l, x.length = s) → ∀ {i j : Nat} {x : List Value} {v : Value}, l[i]? = some x → x[j]? = some v → l.flatten[i * s + j]? = some v
  | [], _, _, _, _, _, h, _ => by simp at h
  | y :: l, hs, 0, j, x, v, h, hj => by
    simp at h; subst h
    rw [List.flatten_cons, Nat.zero_mul, Nat.zero_add, List.getElem?_append_left]
    · exact hj
    · rcases Nat.lt_or_ge j y.length with h | h
      · exact h
      · rw [List.getElem?_eq_none h] at hj; cases hj
  | y :: l, hs, i + 1, j, x, v, h, hj => by
    have hy := hs y (.head _)
    rw [List.flatten_cons, List.getElem?_append_right (by rw [hy, Nat.add_mul]; omega), hy, show (i + 1) * s + j - s = i * s + j by rw [Nat.add_mul]; omega]
    exact flatten_at (fun z hz => hs z (.tail _ hz)) (by simpa using h) hj
theorem Script.elem {K : World} {F : List Assn} {A : Option Addr} {m : Nat} {l : List OpV} (h : Script K F A m l) {i : Nat} {o : OpV} (hi : l[i]? = some o) {j : Nat} {v : Value} (hj : o.cells[j]? = some v) : Rd K F (A.map (·.add (i * 6 + j))) v :=
  h.seq.rd _ _ (flatten_at (fun x hx => by obtain ⟨o, _, rfl⟩ := List.mem_map.1 hx; rfl) (by rw [List.getElem?_map, hi]; rfl) hj)

def fewAll (l : List OpV) : Bool := decide ((l.length : Int) ≤ 200) && l.all OpV.few
theorem law07_few {A : Option Addr} {m cap : Nat} {l : List OpV} {K : World} {F : List Assn} (hs : Script K F A m l) : Tells Try.prog 22 #[.slice A m cap] K F (.bool (fewAll l)) := by
  have hll := hs.len
  refine Does.enter Try.func22 rfl Try.ntmps22 rfl ?_
  simp only [env0, Nat.reduceAdd]
  refine WC.seq ?_
  refine WC.region ?_
  refine WL.val (V.assign (OV.p rfl)) rfl ?_
  refine WL.nil ?_
  refine WC.seq ?_
  refine WC.seq ?_
  refine WC.region ?_
  refine WL.val (V.move (OV.p rfl)) rfl ?_
  refine WL.val (V.len (t := 41) Try.runUnderlying41 (OV.p rfl)) rfl ?_
  refine WL.val (V.gtr (OV.p rfl) (OV.p rfl)) rfl ?_
  refine WL.nil ?_
  refine WC.cond rfl (fun hc0 => ?_) (fun hc0 => ?_)
  · simp only [decide_eq_true_eq, decide_eq_false_iff_not, Int.not_lt] at hc0
    refine WC.seq ?_
    refine WC.region ?_
    refine WL.val (V.assign (OV.p rfl)) rfl ?_
    refine WL.nil ?_
    refine WC.ret ?_
    refine BodyQ.ret (H' := F) (Res.tmp rfl rfl) (fun w h => by repeat (first | exact h | replace h := h.tail)) ⟨?_, rfl⟩
    unfold fewAll
    rw [decide_eq_false (by omega)]; rfl
  · simp only [decide_eq_true_eq, decide_eq_false_iff_not, Int.not_lt] at hc0
    refine WC.skip ?_
    refine WC.seq ?_
    refine WC.seq ?_
    refine WC.region ?_
    refine WL.val (V.assign (OV.p rfl)) rfl ?_
    refine WL.nil ?_
    refine WC.block ?_
    refine WC.loop (σ := Nat) (fun i => [(0, .slice A m cap), (3, .int .i64 (i : Int))]) (fun i => F) (fun i => i ≤ m ∧ (l.take i).all OpV.few = true) (fun i => m - i) 0 ⟨Nat.zero_le _, rfl⟩ (.cons rfl (.cons rfl (.nil _))) (fun w h => h) ?_
    rintro i ⟨hi, hall⟩
    refine WC.seq ?_
    refine WC.seq ?_
    refine WC.region ?_
    refine WL.val (V.move (OV.p rfl)) rfl ?_
    refine WL.val (V.move (OV.p rfl)) rfl ?_
    refine WL.val (V.len (t := 41) Try.runUnderlying41 (OV.p rfl)) rfl ?_
    refine WL.val (V.lss (OV.p rfl) (OV.p rfl)) rfl ?_
    refine WL.nil ?_
    refine WC.cond rfl (fun hc1 => ?_) (fun hc1 => ?_)
    · try simp only [decide_eq_true_eq, decide_eq_false_iff_not, Bool.and_eq_true, Bool.or_eq_true, Bool.and_eq_false_iff, Bool.or_eq_false_iff, Bool.not_eq_true', Bool.not_eq_false', Bool.not_eq_true, Bool.not_eq_false, Int.not_lt, Int.not_le] at hc1
      refine WC.skip ?_
      refine WC.seq ?_
      refine WC.block ?_
      refine WC.seq ?_
      obtain ⟨o, ho⟩ : ∃ o, l[i]? = some o := ⟨_, List.getElem?_eq_getElem (by omega)⟩
      have hr4 : Rd K F (A.map (·.add (i * 6 + 4))) (.slice o.rA o.rx.length o.rc) := hs.elem ho rfl
      have hr5 : Rd K F (A.map (·.add (i * 6 + 5))) (.slice o.pA o.px.length o.pc) := hs.elem ho rfl
      have hr0 : Rd K F (A.map (·.add (i * 6))) (.int .i64 o.kind) := hs.elem (j := 0) ho rfl
      have hti : (i : Int).toNat = i := by omega
      refine WC.region ?_
      refine WL.val (V.move (OV.p rfl)) rfl ?_
      refine WL.val (V.move (OV.p rfl)) rfl ?_
      refine WL.val (V.val_eq (v' := sp A (i * 6)) (V.idxS st41 (OV.p rfl) (OV.p rfl) (fun hc => by omega) (fun hc => by rw [hti]; exact hr0)) (fun _ => by rw [hti])) rfl ?_
      refine WL.val (V.fieldS (k' := i * 6 + 4) fo45_4 (OV.p rfl) (fun _ => hr4)) rfl ?_
      refine WL.val (V.load Try.isAgg29 (OV.p rfl) (fun _ => hr4)) rfl ?_
      refine WL.val (V.len (t := 29) Try.runUnderlying29 (OV.p rfl)) rfl ?_
      refine WL.val (V.gtr (OV.p rfl) (OV.p rfl)) rfl ?_
      refine WL.val (V.move (OV.p rfl)) rfl ?_
      refine WL.valG (oj := _) rfl rfl rfl GC.f (V.move (OV.p rfl)) rfl ?_
      refine WL.valG (oj := _) rfl rfl rfl GC.f (V.move (OV.p rfl)) rfl ?_
      refine WL.valG (oj := _) rfl rfl rfl GC.f (V.val_eq (v' := sp A (i * 6)) (V.idxS st41 (OV.g rfl id) (OV.g rfl id) (fun hc => by omega) (fun hc => by rw [hti]; exact hr0)) (fun _ => by rw [hti])) rfl ?_
      refine WL.valG (oj := _) rfl rfl rfl GC.f (V.fieldS (k' := i * 6 + 5) fo45_5 (OV.g rfl id) (fun _ => hr5)) rfl ?_
      refine WL.valG (oj := _) rfl rfl rfl GC.f (V.load Try.isAgg40 (OV.g rfl id) (fun _ => hr5)) rfl ?_
      refine WL.valG (oj := _) rfl rfl rfl GC.f (V.len (t := 40) Try.runUnderlying40 (OV.g rfl id)) rfl ?_
      refine WL.valG (oj := _) rfl rfl rfl GC.f (V.gtr (OV.g rfl id) (OV.p rfl)) rfl ?_
      refine WL.val (V.pickOr (OV.p rfl) (OV.g rfl id)) rfl ?_
      refine WL.nil ?_
      refine WC.cond rfl (fun hc2 => ?_) (fun hc2 => ?_)
      · skip
        have h2 := hc2
        refine WC.seq ?_
        refine WC.region ?_
        refine WL.val (V.assign (OV.p rfl)) rfl ?_
        refine WL.nil ?_
        refine WC.ret ?_
        refine BodyQ.ret (H' := F) (Res.tmp rfl rfl) (fun w h => by repeat (first | exact h | replace h := h.tail)) ⟨?_, rfl⟩
        have h3 : l.all OpV.few = false := by
          rw [← Bool.not_eq_true]
          intro h
          have := List.all_eq_true.1 h o (List.mem_of_getElem? ho)
          unfold OpV.few at this
          rw [h2] at this
          cases this
        unfold fewAll
        rw [h3, Bool.and_false]
      · skip
        have h2 := hc2
        refine WC.skip ?_
        refine WC.region ?_
        refine WL.val (V.move (OV.p rfl)) rfl ?_
        refine WL.val (V.addI (OV.p rfl) (OV.p rfl) (fun hc => by first | omega | (simp at hc; omega))) rfl ?_
        refine WL.val (V.assign (OV.p rfl)) rfl ?_
        refine WL.nil ?_
        refine ⟨rfl, ?_⟩
        refine ⟨i + 1, ⟨by show i + 1 ≤ m; omega, ?_⟩, (by show m - (i + 1) < m - i; omega), .cons rfl (.cons (look_eq rfl (by simp)) (.nil _)), fun w h => h⟩
        rw [List.take_add_one, ho, List.all_append, hall]
        show (o.few && true) = true
        unfold OpV.few
        rw [h2]; rfl
    · try simp only [decide_eq_true_eq, decide_eq_false_iff_not, Bool.and_eq_true, Bool.or_eq_true, Bool.and_eq_false_iff, Bool.or_eq_false_iff, Bool.not_eq_true', Bool.not_eq_false', Bool.not_eq_true, Bool.not_eq_false, Int.not_lt, Int.not_le] at hc1
      refine WC.exit ?_
      refine WC.seq ?_
      refine WC.region ?_
      refine WL.val (V.assign (OV.p rfl)) rfl ?_
      refine WL.nil ?_
      refine WC.ret ?_
      refine BodyQ.ret (H' := F) (Res.tmp rfl rfl) (fun w h => by repeat (first | exact h | replace h := h.tail)) ⟨?_, rfl⟩
      obtain rfl : i = m := by omega
      rw [List.take_of_length_le (by omega)] at hall
      unfold fewAll
      rw [hall, decide_eq_true (by omega)]; rfl
end Go.Proofs.Ytgmdagjnigkaaaa
