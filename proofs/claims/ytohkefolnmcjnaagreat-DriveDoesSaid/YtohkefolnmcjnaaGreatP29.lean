import Derived.Test.YtohkefolnmcjnaaGreatP28
import Derived.Test.YtohkefolnmcjnaaGreatP3
import Derived.Test.YtohkefolnmcjnaaGreatP4
/- The law DriveDoes of casematelaw08. -/
namespace Go.Proofs.YtohkefolnmcjnaaGreat
open Go.Sl Go.RowKit
set_option linter.unusedVariables false
set_option linter.unusedSimpArgs false
set_option maxRecDepth 20000

theorem Chip.good_nn (S : Chip) : ∀ x ∈ S.good, 0 ≤ x := by
  have key : ∀ k, ∀ x ∈ S.goodTo k, 0 ≤ x := fun k => by
    induction k with
    | zero => intro x hx; simp [Chip.goodTo] at hx
    | succ k ih =>
      intro x hx
      rw [Chip.goodTo] at hx
      split at hx
      · rcases List.mem_append.1 hx with h | h
        · exact ih x h
        · have := List.mem_singleton.1 h; omega
      · exact ih x hx
  exact key _
theorem ints_refl (xs : List Int) : True := trivial
theorem law08_DriveDoes (g : Geo) {A : Option Addr} {m cap' : Nat} {sc : List Op8} {K : World} {F : List Assn} (hs : Script8 K F A m sc) :
    Tells Tryz.prog 3 #[g.v, .slice A m cap'] K F (.bool true) := by
  have hsl := hs.len
  refine Does.enter Tryz.func3 rfl Tryz.ntmps3 rfl ?_
  simp only [env0, Nat.reduceAdd]
  refine WC.sr ?_
  refine WL.box (cs := [_, _, _, _, _]) (OV.p rfl) rfl rfl (fun b2 => ?_)
  refine WL.val (V.assign (OV.p rfl)) rfl ?_
  refine WL.nil ?_
  refine WC.seq ?_
  refine WC.sr ?_
  refine WL.val (V.loadA (vs := [_, _, _, _, _]) ⟨Tryz.isAgg23, Tryz.sizeOf23⟩ (OV.p rfl) rfl (fun _ => by repeat (first | exact Rds.gets ⟨rfl, rfl, rfl, rfl, rfl, trivial⟩ | apply Rds.up))) rfl ?_
  refine WL.call (vs := [_]) Tryz.call11 ⟨OV.p rfl, trivial⟩ (law08_small g _ _) rfl ?_
  rintro _ H0 ⟨rfl, h0⟩
  subst H0
  refine WL.val (V.not (OV.p rfl)) rfl ?_
  refine WL.val (V.move (OV.p rfl)) rfl ?_
  refine WL.valG (oj := _) rfl rfl rfl GC.f (V.move (OV.p rfl)) rfl ?_
  refine WL.callG (oj := _) (vs := [_]) rfl rfl rfl GC.f Tryz.call12 ⟨OV.g rfl id, trivial⟩ (fun hg => law08_few (l := sc) hs.up) rfl ?_
  refine WL.valG (oj := _) rfl rfl rfl GC.f (V.not (OV.g rfl id)) rfl ?_
  refine WL.val (V.pickOr (OV.p rfl) (OV.g rfl id)) rfl ?_
  refine WL.nil ?_
  refine WC.cond rfl (fun hc0 => ?_) (fun hc0 => ?_)
  ·simp only [Bool.or_eq_true, Bool.or_eq_false_iff, Bool.and_eq_true, Bool.not_eq_true', Bool.not_eq_false', decide_eq_true_eq, decide_eq_false_iff_not] at hc0
   refine WC.sr ?_
   refine WL.val (V.assign (OV.p rfl)) rfl ?_
   refine WL.nil ?_
   refine WC.ret ?_
   exact BodyQ.ret (H' := F) (Res.tmp rfl rfl) (fun w h => h.drop 1) ⟨rfl, rfl⟩
  ·simp only [Bool.or_eq_true, Bool.or_eq_false_iff, Bool.and_eq_true, Bool.not_eq_true', Bool.not_eq_false', decide_eq_true_eq, decide_eq_false_iff_not] at hc0
   obtain ⟨⟨⟨⟨hmay, h32⟩, h16⟩, hp8⟩, hfew⟩ := hc0
   have hg := Geo.mays_of hmay
   have hgb := hg
   unfold Geo.mays at hgb
   have hfw : m ≤ 150 ∧ ∀ o ∈ sc, o.dx.length ≤ 200 := by
     unfold few8 at hfew
     simp only [Bool.and_eq_true, decide_eq_true_eq, List.all_eq_true, Bool.not_eq_true', decide_eq_false_iff_not] at hfew
     exact ⟨by omega, fun o ho => by have := hfew.2 o ho; omega⟩
   refine WC.skip ?_
   refine WC.sr ?_
   refine WL.val (V.loadA (vs := [_, _, _, _, _]) ⟨Tryz.isAgg23, Tryz.sizeOf23⟩ (OV.p rfl) rfl (fun _ => by repeat (first | exact Rds.gets ⟨rfl, rfl, rfl, rfl, rfl, trivial⟩ | apply Rds.up))) rfl ?_
   refine WL.call (vs := [_, _]) Tryz.call13 ⟨OV.p rfl, OV.p rfl, trivial⟩ (chip_New g (l := []) Seq.nil (by decide)) rfl ?_
   rintro _ _ (⟨hm, hin, bc, C0, hC0, s0, rfl, rfl⟩ | ⟨hno, rfl, rfl⟩)
   rotate_left
   · exact (hno ⟨hmay, fun x hx => by simp at hx⟩).elim
   have g0 : C0.g = g := by rw [show C0.g = C0.sem.g from rfl, s0]; rfl
   refine WL.val (V.move (OV.p rfl)) rfl ?_
   refine WL.val (V.extract (OV.p rfl) rfl) rfl ?_
   refine WL.val (V.extract (OV.p rfl) rfl) rfl ?_
   refine WL.val (V.assign (OV.p rfl)) rfl ?_
   refine WL.val (V.assign (OV.p rfl)) rfl ?_
   refine WL.nil ?_
   refine WC.sr ?_
   refine WL.val (V.move (OV.p rfl)) rfl ?_
   refine WL.call (vs := [_]) Tryz.call14 ⟨OV.p rfl, trivial⟩ (drive_NewG hC0 g0) rfl ?_
   rintro _ _ ⟨bd, rfl, rfl⟩
   refine WL.val (V.move (OV.p rfl)) rfl ?_
   refine WL.val (V.extract (OV.p rfl) rfl) rfl ?_
   refine WL.val (V.extract (OV.p rfl) rfl) rfl ?_
   refine WL.val (V.assign (OV.p rfl)) rfl ?_
   refine WL.val (V.assign (OV.p rfl)) rfl ?_
   refine WL.nil ?_
   refine WC.sr ?_
   refine WL.val (V.loadA (vs := [_, _, _, _, _]) ⟨Tryz.isAgg23, Tryz.sizeOf23⟩ (OV.p rfl) rfl (fun _ => by repeat (first | exact Rds.gets ⟨rfl, rfl, rfl, rfl, rfl, trivial⟩ | apply Rds.up))) rfl ?_
   refine WL.call (vs := [_, _]) Tryz.call15 ⟨OV.p rfl, OV.p rfl, trivial⟩ (ref_New g (l := []) Seq.nil (by decide)) rfl ?_
   rintro _ _ (⟨_, _, a, R0, hR0, hI0, hRg, rfl, rfl⟩ | ⟨hno, rfl, rfl⟩)
   rotate_left
   · exact (hno ⟨hmay, fun x hx => by simp at hx⟩).elim
   have hI0' : R0.Is C0.sem := by rw [s0]; exact hI0
   refine WL.sub (Sub.refl _) (fun w h => h.sel 3 [1, 2, 0] rfl) ?_
   refine WL.val (V.move (OV.p rfl)) rfl ?_
   refine WL.val (V.extract (OV.p rfl) rfl) rfl ?_
   refine WL.val (V.extract (OV.p rfl) rfl) rfl ?_
   refine WL.val (V.assign (OV.p rfl)) rfl ?_
   refine WL.val (V.assign (OV.p rfl)) rfl ?_
   refine WL.nil ?_
   refine WC.seq ?_
   refine WC.sr ?_
   refine WL.val (V.move (OV.p rfl)) rfl ?_
   refine WL.val (V.neq (OV.p rfl) (OV.p rfl)) rfl ?_
   refine WL.val (V.move (OV.p rfl)) rfl ?_
   refine WL.valG (oj := _) rfl rfl rfl GC.f (V.move (OV.p rfl)) rfl ?_
   refine WL.valG (oj := _) rfl rfl rfl GC.f (V.neq (OV.g rfl id) (OV.p rfl)) rfl ?_
   refine WL.val (V.pickOr (OV.p rfl) (OV.g rfl id)) rfl ?_
   refine WL.val (V.move (OV.p rfl)) rfl ?_
   refine WL.valG (oj := _) rfl rfl rfl GC.f (V.move (OV.p rfl)) rfl ?_
   refine WL.valG (oj := _) rfl rfl rfl GC.f (V.eqlP Tryz.underlying31 (OV.g rfl id) (OV.p rfl)) rfl ?_
   refine WL.val (V.pickOr (OV.p rfl) (OV.g rfl id)) rfl ?_
   refine WL.val (V.move (OV.p rfl)) rfl ?_
   refine WL.valG (oj := _) rfl rfl rfl GC.f (V.move (OV.p rfl)) rfl ?_
   refine WL.valG (oj := _) rfl rfl rfl GC.f (V.not (OV.g rfl id)) rfl ?_
   refine WL.val (V.pickOr (OV.p rfl) (OV.g rfl id)) rfl ?_
   refine WL.nil ?_
   refine WC.condF' rfl (by first | rfl | (simp; done) | (simp; omega)) ?_
   refine WC.skip ?_
   refine WC.seq ?_
   refine WC.sr ?_
   refine WL.val (V.assign (OV.p rfl)) rfl ?_
   refine WL.nil ?_
   refine WC.block ?_
   refine WC.loop (σ := Nat × Cw × RW) (fun s => [(1, .slice A m cap'), (2, ptr b2 0), (5, ptr bc 0), (7, ptr bd 0), (9, ptr a 0), (11, .int .i64 (s.1 : Int))]) (fun s => s.2.1.A bc :: DvA bd bc g :: s.2.2.A a :: Cells b2 23 [.int .i64 g.bl, .int .i64 g.pg, .int .i64 g.se, .int .i64 g.sb, .int .i64 g.fl] :: F) (fun s => s.1 ≤ m ∧ s.2.1.Ok ∧ s.2.2.Ok ∧ s.2.2.Is s.2.1.sem ∧ s.2.1.g = g) (fun s => m - s.1) (0, C0, R0) ⟨Nat.zero_le _, hC0, hR0, hI0', g0⟩ (.cons rfl (.cons rfl (.cons rfl (.cons rfl (.cons rfl (.cons rfl (.nil _))))))) (fun w h => h) ?_
   rintro ⟨i, C, R⟩ ⟨hi, hC, hR, hI, hCg⟩
   dsimp only at hi hC hR hI hCg ⊢
   refine WC.seq ?_
   refine WC.sr ?_
   refine WL.val (V.move (OV.p rfl)) rfl ?_
   refine WL.val (V.move (OV.p rfl)) rfl ?_
   refine WL.val (V.len (t := 24) Tryz.runUnderlying24 (OV.p rfl)) rfl ?_
   refine WL.val (V.lss (OV.p rfl) (OV.p rfl)) rfl ?_
   refine WL.nil ?_
   refine WC.cond rfl (fun hc2 => ?_) (fun hc2 => ?_)
   ·simp only [decide_eq_true_eq, decide_eq_false_iff_not] at hc2
    refine WC.skip ?_
    refine WC.seq ?_
    refine WC.block ?_
    refine WC.seq ?_
    obtain ⟨o, ho'⟩ : ∃ o, sc[i]? = some o := ⟨_, List.getElem?_eq_getElem (by omega)⟩
    have ho := hs.ok o (List.mem_of_getElem? ho')
    have hof := hfw.2 o (List.mem_of_getElem? ho')
    have hti : (i : Int).toNat = i := by omega
    have hel : ∀ (j : Nat) v, o.cells[j]? = some v → Rd K F (A.map (·.add (i * 5 + j))) v := fun j v hj => hs.elem ho' hj
    refine WC.regionA (Cells b2 23 [.int .i64 g.bl, .int .i64 g.pg, .int .i64 g.se, .int .i64 g.sb, .int .i64 g.fl] :: F) (by kernel_rfl) ?_
    refine WA.t 0 rfl (V.move (OV.p rfl)) ?_
    refine WA.t 1 rfl (V.move (OV.p rfl)) ?_
    refine WA.t 2 rfl (V.move (OV.p rfl)) ?_
    refine WA.t 3 rfl (V.move (OV.p rfl)) ?_
    refine WA.t 4 rfl (V.move (OV.p rfl)) ?_
    refine WA.t 5 rfl (V.val_eq (v' := sp A (i * 5)) (V.idxS st24 (OV.p rfl) (OV.p rfl) (fun hc => by omega) (fun hc => by rw [hti]; repeat (first | exact hel 0 _ rfl | apply Rd.up))) (fun _ => by rw [hti])) ?_
    refine WA.t 6 rfl (V.loadS (vs := o.cells) ⟨Tryz.isAgg40, Tryz.sizeOf40⟩ (OV.p rfl) rfl (by decide) (fun _ j v hj => by repeat (first | exact hel j v hj | apply Rd.up))) ?_
    refine WA.o 7 rfl ?_
    refine WL.call (vs := [_, _, _, _]) Tryz.call16 ⟨OV.p rfl, OV.p rfl, OV.p rfl, OV.p rfl, trivial⟩ (law08_step hC hCg hR hI ho.up hof) rfl ?_
    rintro _ _ ⟨rfl, ⟨C1, R1, hC1, hR1, hI1, hg1, rfl⟩⟩
    have hgl : (C1.sem.good.length : Int) ≤ 9223372036854775807 := by
      have h1 := Chip.goodTo_length C1.sem C1.sem.g.bl.toNat
      have h2 : C1.sem.g.bl.toNat = g.bl.toNat := by rw [show C1.sem.g = C1.g from rfl, hg1]
      unfold Chip.good
      omega
    refine WL.nil ?_
    refine WA.t 8 rfl (V.not (OV.p rfl)) ?_
    refine WA.t 9 rfl (V.move (OV.p rfl)) ?_
    refine WA.tK 10 rfl rfl rfl rfl rfl (V.move (OV.p rfl)) ?_
    refine WA.tK 12 rfl rfl rfl rfl rfl (V.move (OV.p rfl)) ?_
    refine WA.o 11 rfl ?_
    refine WL.known (oj := _) rfl rfl rfl rfl ?_
    refine WL.call (vs := [_]) Tryz.call18 ⟨OV.p rfl, trivial⟩ (drive_GoodG hC1 hg1) rfl ?_
    rintro _ _ ⟨A5, c5, rfl, rfl⟩
    refine WL.nil ?_
    refine WA.o 13 rfl ?_
    refine WL.known (oj := _) rfl rfl rfl rfl ?_
    refine WL.sub (Sub.refl _) (fun w h => h.sel 4 [3, 0, 1, 2] rfl) ?_
    refine WL.call (vs := [_]) Tryz.call19 ⟨OV.p rfl, trivial⟩ (ref08_Good hI1 (by rw [show C1.sem.g = C1.g from rfl, hg1]; exact hg)) rfl ?_
    rintro _ _ ⟨A6, c6, rfl, rfl⟩
    refine WL.nil ?_
    refine WA.o 14 rfl ?_
    refine WL.known (oj := _) rfl rfl rfl rfl ?_
    refine WL.call (vs := [_, _]) Tryz.call17 ⟨OV.p rfl, OV.p rfl, trivial⟩ (Tells.eq (v' := .bool true) (ref01_Ints (xs := C1.sem.good) (ys := C1.sem.good) K _ (Seq.up (Seq.up (SlA.seq (by rw [ints_length, Nat.mul_one])))) (SlA.seq (by rw [ints_length, Nat.mul_one])) hgl) (by simp)) rfl ?_
    rintro _ H0 ⟨rfl, h0⟩
    subst H0
    refine WL.nil ?_
    refine WA.tK 15 rfl rfl rfl rfl rfl (V.not (OV.p rfl)) ?_
    refine WA.t 16 rfl (V.pickOr (OV.p rfl) (OV.p rfl)) ?_
    refine WA.t 17 rfl (V.move (OV.p rfl)) ?_
    refine WA.tK 18 rfl rfl rfl rfl rfl (V.move (OV.p rfl)) ?_
    refine WA.tK 20 rfl rfl rfl rfl rfl (V.loadA (vs := [_, _, _, _, _]) ⟨Tryz.isAgg23, Tryz.sizeOf23⟩ (OV.p rfl) rfl (fun _ => by repeat (first | exact Rds.gets ⟨rfl, rfl, rfl, rfl, rfl, trivial⟩ | apply Rds.up))) ?_
    refine WA.o 19 rfl ?_
    refine WL.known (oj := _) rfl rfl rfl rfl ?_
    refine WL.sub (Sub.refl _) (fun w h => h.sel 5 [3, 4, 1] rfl) ?_
    refine WL.call (vs := [_]) Tryz.call20 ⟨OV.p rfl, trivial⟩ drive_Geometry rfl ?_
    rintro _ _ ⟨rfl, rfl⟩
    refine WL.nil ?_
    refine WA.tK 21 rfl rfl rfl rfl rfl (V.neqA (by kernel_rfl) (OV.p rfl) (OV.p rfl) (eqt23 _ _ _ _ _ _ _ _ _ _)) ?_
    refine WA.t 22 rfl (V.pickOr (OV.p rfl) (OV.p rfl)) ?_
    refine WA.fin ?_
    refine WC.condF' rfl (by first | rfl | (simp; done) | (simp; omega)) ?_
    refine WC.skip ?_
    refine WC.region ?_
    refine WL.val (V.move (OV.p rfl)) rfl ?_
    refine WL.val (V.addI (OV.p rfl) (OV.p rfl) (fun hc => by first | omega | (simp at hc; omega))) rfl ?_
    refine WL.val (V.assign (OV.p rfl)) rfl ?_
    refine WL.nil ?_
    refine ⟨rfl, ?_⟩
    exact ⟨(i + 1, C1, R1), ⟨by show i + 1 ≤ m; omega, hC1, hR1, hI1, hg1⟩, (by show m - (i + 1) < m - i; omega), .cons rfl (.cons rfl (.cons rfl (.cons rfl (.cons rfl (.cons (look_eq rfl (by simp)) (.nil _)))))), fun w h => h⟩
   ·simp only [decide_eq_true_eq, decide_eq_false_iff_not] at hc2
    refine WC.exit ?_
    refine WC.sr ?_
    refine WL.call (vs := []) Tryz.call21 trivial (law08_awake _ _) rfl ?_
    rintro _ H0 ⟨rfl, h0⟩
    subst H0
    refine WL.val (V.assign (OV.p rfl)) rfl ?_
    refine WL.nil ?_
    refine WC.ret ?_
    exact BodyQ.ret (H' := F) (Res.tmp rfl rfl) (fun w h => h.drop 4) ⟨rfl, rfl⟩
end Go.Proofs.YtohkefolnmcjnaaGreat
/- The symbolic executor, rows: slices of structs that are handed in. -/
namespace Go.Sl
open Go.ChangeShapes Go.WideShapes Go.ChangeAt Go.RowKit
set_option linter.unusedVariables false
set_option linter.unusedSimpArgs false

section
variable {H : Type} {enc : TypeId × Value → H} {P : Program} {W : World}
/-- For each i below n there is one: a list of them. -/
theorem listOf {α : Type} (n : Nat) (p : Nat → α → Prop) (h : ∀ i, i < n → ∃ a, p i a) : ∃ l : List α, l.length = n ∧ ∀ i a, l[i]? = some a → p i a := by
  induction n with
  | zero => exact ⟨[], rfl, fun i a hi => by simp at hi⟩
  | succ n ih =>
    obtain ⟨l, h1, h2⟩ := ih fun i hi => h i (by omega)
    obtain ⟨a, ha⟩ := h n (by omega)
    refine ⟨l ++ [a], by simp [h1], fun i b hi => ?_⟩
    rcases Nat.lt_or_ge i l.length with hlt | hge
    · exact h2 i b (by rwa [List.getElem?_append_left hlt] at hi)
    · rw [List.getElem?_append_right hge] at hi
      by_cases h0 : i - l.length = 0
      · have : i = n := by omega
        subst this
        rw [h0] at hi
        simp at hi
        subst hi
        exact ha
      · rw [List.getElem?_eq_none (by simp; omega)] at hi
        cases hi
theorem flatten_get {s : Nat} {l : List (List Value)} (hs : ∀ x ∈ l, x.length = s) {k : Nat} {v : Value} (h : l.flatten[k]? = some v) : ∃ x, l[k / s]? = some x ∧ x[k % s]? = some v := by
  induction l generalizing k with
  | nil => simp at h
  | cons x l ih =>
    have hx := hs x (.head _)
    rw [List.flatten_cons] at h
    rcases Nat.lt_or_ge k x.length with hlt | hge
    · rw [List.getElem?_append_left hlt] at h
      refine ⟨x, ?_, ?_⟩
      · rw [Nat.div_eq_of_lt (by omega)]; rfl
      · rw [Nat.mod_eq_of_lt (by omega)]; exact h
    · rw [List.getElem?_append_right hge] at h
      obtain ⟨y, h1, h2⟩ := ih (fun z hz => hs z (.tail _ hz)) h
      have h0 : 0 < s := by
        rcases Nat.eq_zero_or_pos s with h | h
        · subst h
          obtain hy := hs y (.tail _ (List.mem_of_getElem? h1))
          rw [List.eq_nil_of_length_eq_zero hy] at h2
          simp at h2
        · exact h
      refine ⟨y, ?_, ?_⟩
      · rw [hx] at h1
        rw [show k / s = (k - s) / s + 1 by rw [← Nat.add_div_right _ h0]; congr 1; omega]
        exact h1
      · rw [hx] at h2
        rw [show k % s = (k - s) % s by rw [← Nat.add_mod_right (k - s) s]; congr 1; omega]
        exact h2
theorem flatten_len {s : Nat} {l : List (List Value)} (hs : ∀ x ∈ l, x.length = s) : l.flatten.length = l.length * s := by
  induction l with
  | nil => simp
  | cons x l ih => rw [List.flatten_cons, List.length_append, ih (fun z hz => hs z (.tail _ hz)), hs x (.head _), List.length_cons, Nat.add_mul]; omega
/-- A slice that was handed in: its elements' cells, each with its own reading. -/
theorem open_elems {r : Reach} {base : Nat} {t e s : TypeId} {v : Value} {d : DataW H} {p : List MemPlace} (ht : P.underlying t = some (.slice e)) (hc : P.cellsOf e = s) (hval : Value.okWide P W r base t v)
    (h : DataW.Trod enc P W 0 (fun _ => true) true t v d p) :
    ∃ A m cap, ∃ css : List (List Value), v = .slice A m cap ∧ css.length = m ∧ m ≤ maxLen ∧ (∀ cs ∈ css, cs.length = s ∧ ∃ n y, DataW.trod enc P W 0 (fun _ => true) true n e cs = some y) ∧ Seq W [Old W] A m s css.flatten := by
  obtain ⟨a0, len, cap, rfl⟩ := okWide_slice ht hval
  obtain ⟨fuel, hf⟩ := h
  rcases DataW.trod_slice ht hf with ⟨hcs, _⟩ | ⟨a, len', cap', elems, rest, n, _, hcs, _, _, hl, hm, hlen, hel, _, _⟩
  · simp [Value.cells] at hcs
    obtain ⟨rfl, rfl, rfl⟩ := hcs
    exact ⟨none, 0, 0, [], rfl, rfl, Nat.zero_le _, fun x hx => by (cases hx), ⟨by simp, fun i v hi => by simp at hi⟩⟩
  · simp [Value.cells] at hcs
    obtain ⟨rfl, rfl, rfl⟩ := hcs
    obtain ⟨css, h1, h2⟩ := listOf len (fun i (cs : List Value) => (cs.length = s ∧ ∃ n y, DataW.trod enc P W 0 (fun _ => true) true n e cs = some y) ∧ ∀ j v, cs[j]? = some v → W.cell? (a.add (i * s + j)) = some v) fun i hi => by
      have h3 := hel i hi
      have h4 : elems[i]? = some elems[i] := List.getElem?_eq_getElem (by omega)
      rw [h4, Option.bind_eq_some_iff] at h3
      obtain ⟨cs, h5, h6⟩ := h3
      rw [hc] at h5
      obtain ⟨k1, k2, k3⟩ := World.cells?_some h5
      refine ⟨cs, ⟨?_, n, _, h6⟩, fun j v hj => ?_⟩
      · omega
      · have hjs : j < s := by
          rcases Nat.lt_or_ge j cs.length with h | h
          · omega
          · rw [List.getElem?_eq_none h] at hj; cases hj
        rw [← add_add, k3 j (by omega), hj]
    refine ⟨some a, len, cap, css, rfl, h1, by omega, fun cs hcs => ?_, flatten_len (fun x hx => ?_) |>.trans (by rw [h1]), fun i v hi w hw => ?_⟩
    · obtain ⟨i, hi⟩ := List.getElem?_of_mem hcs
      exact (h2 i cs hi).1
    · obtain ⟨i, hi⟩ := List.getElem?_of_mem hx
      exact (h2 i x hi).1.1
    · obtain ⟨x, k1, k2⟩ := flatten_get (s := s) (fun x hx => by
        obtain ⟨i, hi⟩ := List.getElem?_of_mem hx
        exact (h2 i x hi).1.1) hi
      have h3 := (h2 _ x k1).2 _ v k2
      rw [Nat.mul_comm, Nat.div_add_mod] at h3
      exact ⟨_, rfl, (hw.below.cell (World.block_lt_of_cell? _ _ h3)).trans h3⟩
theorem open_intsTrod {t e : TypeId} {k : IntKind} {fuel : Nat} {cs : List Value} {x : DataW H × List MemPlace} (ht : P.underlying t = some (.slice e)) (he : P.underlying e = some (.int k)) (hc : P.cellsOf e = 1)
    (hf : DataW.trod enc P W 0 (fun _ => true) true fuel t cs = some x) : ∃ A m cap xs, cs = [.slice A m cap] ∧ Seq W [Old W] A m 1 (ints k xs) ∧ (∀ x ∈ xs, k.min ≤ x ∧ x ≤ k.max) ∧ xs.length = m ∧ m ≤ cap ∧ cap ≤ maxLen := by
  rcases open_ints ht he hc hf with ⟨hcs, hx⟩ | ⟨a, len, cap, zs, hcs, _, hl, hm, hz, hx, hcell, hwz⟩
  · exact ⟨none, 0, 0, [], hcs, Seq.nilI, fun x hx => (by cases hx), rfl, Nat.le_refl _, Nat.zero_le _⟩
  · simp only [if_true] at hz
    have hlen : (zs.take len).length = len := by rw [List.length_take]; omega
    refine ⟨some a, len, cap, zs.take len, hcs, ⟨by rw [ints_length, hlen, Nat.mul_one], fun i v hi w hw => ?_⟩, fun x hx => ?_, hlen, hl, hm⟩
    · have hi' : i < len := by
        rcases Nat.lt_or_ge i len with h | h
        · exact h
        · rw [List.getElem?_eq_none (by rw [ints_length, hlen]; exact h)] at hi; cases hi
      have h1 := hcell i (by omega)
      have hb := World.block_lt_of_cell? _ _ h1
      refine ⟨_, rfl, ((hw.below.cell hb).trans h1).trans ?_⟩
      rw [← hi, ints_getD _ _ (by omega)]
      simp [List.getD, List.getElem?_take, hi']
    · have := hwz x (List.mem_of_mem_take hx)
      simpa [Lit.wf] using this
theorem open_intTrod {t : TypeId} {k : IntKind} {fuel : Nat} {cs : List Value} {x : DataW H × List MemPlace} (ht : P.underlying t = some (.int k)) (hf : DataW.trod enc P W 0 (fun _ => true) true fuel t cs = some x) : ∃ i, cs = [.int k i] ∧ k.min ≤ i ∧ i ≤ k.max := by
  obtain ⟨n', h, hx, hw⟩ := DataW.trod_int ht hf
  exact ⟨n', h, by simpa [Lit.wf] using hw⟩
end
end Go.Sl
/- Scripts of casematelaw08 that are handed in. -/
namespace Go.Proofs.YtohkefolnmcjnaaGreat
open Go.Sl Go.ChangeShapes Go.WideShapes Go.ChangeAt Go.RowKit
set_option linter.unusedVariables false
set_option linter.unusedSimpArgs false
set_option maxRecDepth 100000 in
theorem open_op8 {H : Type} {enc : TypeId × Value → H} {W : World} {n : Nat} {cs : List Value} {y : DataW H × List MemPlace} (hl : cs.length = 5) (h : DataW.trod enc Tryz.prog W 0 (fun _ => true) true n 40 cs = some y) :
    ∃ o : Op8, cs = o.cells ∧ o.Ok W [Old W] := by
  obtain ⟨xs, k, _, _, _, hxl, hf⟩ := DataW.trod_struct Tryz.underlying40 h
  have c1 : Tryz.prog.cellsOf 3 = 1 := by kernel_rfl
  have c2 : Tryz.prog.cellsOf 38 = 1 := by kernel_rfl
  have c4 : Tryz.prog.cellsOf 5 = 1 := by kernel_rfl
  match cs, hl, xs, hxl with
  | [v0, v1, v2, v3, v4], _, [x0, x1, x2, x3, x4], _ =>
    have h0 : DataW.trod enc Tryz.prog W 0 (fun _ => true) true k 3 (List.take (Tryz.prog.cellsOf 3) (List.drop 0 [v0, v1, v2, v3, v4])) = some x0 := hf 0 _ rfl
    rw [c1] at h0
    have h1 : DataW.trod enc Tryz.prog W 0 (fun _ => true) true k 3 (List.take (Tryz.prog.cellsOf 3) (List.drop 1 [v0, v1, v2, v3, v4])) = some x1 := hf 1 _ rfl
    rw [c1] at h1
    have h2 : DataW.trod enc Tryz.prog W 0 (fun _ => true) true k 3 (List.take (Tryz.prog.cellsOf 3) (List.drop 2 [v0, v1, v2, v3, v4])) = some x2 := hf 2 _ rfl
    rw [c1] at h2
    have h3 : DataW.trod enc Tryz.prog W 0 (fun _ => true) true k 3 (List.take (Tryz.prog.cellsOf 3) (List.drop 3 [v0, v1, v2, v3, v4])) = some x3 := hf 3 _ rfl
    rw [c1] at h3
    have h4 : DataW.trod enc Tryz.prog W 0 (fun _ => true) true k 38 (List.take (Tryz.prog.cellsOf 38) (List.drop 4 [v0, v1, v2, v3, v4])) = some x4 := hf 4 _ rfl
    rw [c2] at h4
    obtain ⟨i0, e0, _⟩ := open_intTrod Tryz.underlying3 h0
    obtain ⟨i1, e1, _⟩ := open_intTrod Tryz.underlying3 h1
    obtain ⟨i2, e2, b2⟩ := open_intTrod Tryz.underlying3 h2
    obtain ⟨i3, e3, b3⟩ := open_intTrod Tryz.underlying3 h3
    obtain ⟨A4, m4, q4, y4, e4, s4, b4, l4, k4, w4⟩ := open_intsTrod Tryz.underlying38 Tryz.underlying5 c4 h4
    simp at e0 e1 e2 e3 e4
    subst e0 e1 e2 e3 e4 l4
    have hb4 := isBytes_of b4
    refine ⟨⟨i0, i1, i2, i3, A4, q4, natsOf y4⟩, ?_, b3.2, b2, ?_, natsOf_small hb4, ?_⟩
    · unfold Op8.cells; rw [natsOf_length]
    · rw [natsOf_length, ← ints_natsOf hb4]; exact s4
    · rw [natsOf_length]; exact k4
theorem ops_of8 {W : World} : ∀ {css : List (List Value)}, (∀ cs ∈ css, ∃ o : Op8, cs = o.cells ∧ o.Ok W [Old W]) → ∃ sc : List Op8, css = sc.map Op8.cells ∧ ∀ o ∈ sc, o.Ok W [Old W]
  | [], _ => ⟨[], rfl, fun o h => (by cases h)⟩
  | cs :: css, h => by
    obtain ⟨o, rfl, ho⟩ := h cs (.head _)
    obtain ⟨sc, rfl, hsc⟩ := ops_of8 fun x hx => h x (.tail _ hx)
    exact ⟨o :: sc, rfl, fun x hx => (List.mem_cons.1 hx).elim (fun e => e ▸ ho) (hsc x)⟩
set_option maxRecDepth 100000 in
theorem open_script8 {H : Type} {enc : TypeId × Value → H} {W : World} {r : Reach} {base : Nat} {v : Value} {d : DataW H} {p : List MemPlace} (hval : Value.okWide Tryz.prog W r base 24 v)
    (h : DataW.Trod enc Tryz.prog W 0 (fun _ => true) true 24 v d p) : ∃ A m cap sc, v = .slice A m cap ∧ Script8 W [Old W] A m sc := by
  obtain ⟨A, m, cap, css, rfl, hl, _, hcs, hs⟩ := open_elems (s := 5) Tryz.underlying24 (by kernel_rfl) hval h
  obtain ⟨sc, rfl, hsc⟩ := ops_of8 (W := W) fun cs hc => by
    obtain ⟨h1, n, y, h2⟩ := hcs cs hc
    exact open_op8 h1 h2
  exact ⟨A, m, cap, sc, rfl, hs, by simpa using hl, hsc⟩
end Go.Proofs.YtohkefolnmcjnaaGreat
