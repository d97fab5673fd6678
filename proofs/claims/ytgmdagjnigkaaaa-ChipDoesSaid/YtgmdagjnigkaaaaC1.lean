/- The chip: its state, how it lies in memory, and the functions that read it. -/
import Derived.Test.YtgmdagjnigkaaaaG1
namespace Go.Proofs.Ytgmdagjnigkaaaa
open Go.Sl Go.RowKit
set_option linter.unusedVariables false
set_option linter.unusedSimpArgs false
set_option maxRecDepth 20000

/-! ### What a chip is -/
structure Chip where
  g : Geo
  pages : Int × Int → Option (List Int)
  wrong : Int × Int → Option (List Int)
  next : List Int
  marked : Int → Bool
  weak : Int → Bool
  fuse : Int
  up : Bool
  left : Int
  keep : Int
namespace Chip
def raw (S : Chip) : Int := S.g.raw
def block (S : Chip) (b : Int) : Bool := decide (0 ≤ b) && decide (b < S.g.bl)
def page (S : Chip) (b p : Int) : Bool := S.block b && decide (0 ≤ p) && decide (p < S.g.pg)
def ready (S : Chip) : Int := if S.up then 0 else 70
/-- A deed is counted: is it cut? -/
def cut (S : Chip) : Bool := decide (S.left = 1)
def deed (S : Chip) : Chip := { S with left := if S.left = 0 then 0 else S.left - 1, up := S.up && !S.cut }
def after (cut : Bool) : Int := if cut then 70 else 0
def nextOf (S : Chip) (b : Int) : Int := S.next.getD b.toNat 0
def setNext (S : Chip) (b x : Int) : List Int := S.next.set b.toNat x
def blank (S : Chip) : List Int := List.replicate S.raw.toNat 255
def upds {α : Type} (f : Int × Int → Option α) (k : Int × Int) (v : Option α) : Int × Int → Option α := fun k' => if k' = k then v else f k'
/-- How many of n: what 'keep' says. -/
def kept (S : Chip) (n : Int) : Int := min (max S.keep 0) n
def program (S : Chip) (b p : Int) (xs : List Int) : Chip × Int :=
  if S.up = false then (S, 70)
  else if S.page b p = false ∨ (xs.length : Int) ≠ S.raw then (S, 1)
  else if p ≠ S.nextOf b then (S, 71)
  else
    let T := S.deed
    if S.cut then ({ T with pages := upds T.pages (b, p) (some (xs.take (S.kept xs.length).toNat ++ S.blank.drop (S.kept xs.length).toNat)), next := T.setNext b (p + 1) }, 70)
    else if S.weak b then (T, 72)
    else ({ T with pages := upds T.pages (b, p) (some xs), next := T.setNext b (p + 1) }, 0)
/-- The pages below n of a block are gone. -/
def dropTo {α : Type} (f : Int × Int → Option α) (b n : Int) : Int × Int → Option α := fun k => if k.1 = b ∧ 0 ≤ k.2 ∧ k.2 < n then none else f k
def erase (S : Chip) (b : Int) : Chip × Int :=
  if S.up = false then (S, 70)
  else if S.block b = false then (S, 1)
  else
    let T := S.deed
    if S.cut then ({ T with pages := dropTo T.pages b (S.kept S.g.pg), wrong := dropTo T.wrong b (S.kept S.g.pg) }, 70)
    else if S.weak b then (T, 72)
    else ({ T with pages := dropTo T.pages b S.g.pg, wrong := dropTo T.wrong b S.g.pg, next := T.setNext b 0 }, 0)
def all (S : Chip) (f : Chip → Chip) : Chip × Int := (if !S.cut || decide (0 < S.keep) then f S.deed else S.deed, after S.cut)
def mark (S : Chip) (b : Int) : Chip × Int :=
  if S.up = false then (S, 70) else if S.block b = false then (S, 1)
  else S.all fun T => { T with marked := fun k => if k = b then true else T.marked k }
def burn (S : Chip) (n : Int) : Chip × Int :=
  if S.up = false then (S, 70) else if 64 < n then (S, 1) else if n < S.fuse then (S, 74)
  else S.all fun T => { T with fuse := n }
def on (S : Chip) : Chip := { S with up := true }
def off (S : Chip) : Chip := { S with up := false }
def arm (S : Chip) (n keep : Int) : Chip := { S with left := max n 0, keep := keep }
def weaken (S : Chip) (b : Int) : Chip := if S.block b then { S with weak := fun k => if k = b then true else S.weak k } else S
def force (S : Chip) (b p : Int) (xs : List Int) : Chip × Int :=
  if S.page b p = false ∨ (xs.length : Int) ≠ S.raw then (S, 1)
  else ({ S with pages := upds S.pages (b, p) (some xs), wrong := upds S.wrong (b, p) none, next := S.setNext b (max (S.nextOf b) (p + 1)) }, 0)
def bad (S : Chip) (b : Int) : Bool := S.up && S.marked b
def fused (S : Chip) : Int := if S.up then S.fuse else 0
end Chip

/-! ### How it lies in memory -/
structure Cw where
  g : Geo
  pages : Int × Int → Option (Option Addr × Nat × List Int)
  wrong : Int × Int → Option (Option Addr × Nat × List Int)
  next : List Int
  marked : Int → Bool
  weak : Int → Bool
  fuse : Int
  up : Bool
  left : Int
  keep : Int
  (bp bw bn bm bk : Nat)
  own : List Assn
namespace Cw
def sem (C : Cw) : Chip := ⟨C.g, fun p => (C.pages p).map (·.2.2), fun p => (C.wrong p).map (·.2.2), C.next, C.marked, C.weak, C.fuse, C.up, C.left, C.keep⟩
def sliceOf (e : Option Addr × Nat × List Int) : Value := .slice e.1 e.2.2.length e.2.1
def pagesF (C : Cw) : Int × Int → Option Value := fun p => (C.pages p).map sliceOf
def wrongF (C : Cw) : Int × Int → Option Value := fun p => (C.wrong p).map sliceOf
abbrev cells (C : Cw) : List Value := [.int .i64 C.g.bl, .int .i64 C.g.pg, .int .i64 C.g.se, .int .i64 C.g.sb, .int .i64 C.g.fl, .int .i64 C.g.raw, .map (some C.bp), .map (some C.bw), .slice (some ⟨C.bn, 0, none⟩) C.next.length C.next.length,
  .map (some C.bm), .map (some C.bk), .int .i64 C.fuse, .bool C.up, .int .i64 C.left, .int .i64 C.keep]
abbrev parts (bc : Nat) (C : Cw) : List Assn := [Cells bc 77 C.cells, MapA C.bp key82 C.pagesF, MapA C.bw key82 C.wrongF, Cells C.bn 3 (ints .i64 C.next), MapA C.bm key3 (boolF C.marked), MapA C.bk key3 (boolF C.weak), AllA C.own]
def A (bc : Nat) (C : Cw) : Assn := AllA (C.parts bc)
structure Ok (C : Cw) : Prop where
  mays : C.g.mays
  page : ∀ p e, C.pages p = some e → SeqIn C.own e.1 e.2.2.length 1 (ints .u8 e.2.2) ∧ (e.2.2.length : Int) = C.g.raw ∧ IsBytes e.2.2
  wr : ∀ p e, C.wrong p = some e → SeqIn C.own e.1 e.2.2.length 1 (ints .i64 e.2.2) ∧ (∀ i ∈ e.2.2, 0 ≤ i ∧ i < 8 * C.g.raw) ∧ e.2.2.length ≤ maxLen
  len : (C.next.length : Int) = C.g.bl
  next : ∀ x ∈ C.next, 0 ≤ x ∧ x ≤ C.g.pg
  left : 0 ≤ C.left ∧ C.left ≤ 9223372036854775807
def deed (C : Cw) : Cw := { C with left := if C.left = 0 then 0 else C.left - 1, up := C.up && !decide (C.left = 1) }
end Cw
/-- The chip at bc is S. -/
def IsChip (bc : Nat) (S : Chip) (A : Assn) : Prop := ∃ C : Cw, C.Ok ∧ C.sem = S ∧ A = C.A bc
/-- The chip's entry taken apart, and put together. -/
theorem Does.openC {f : FuncId} {args : Array Value} {bc : Nat} {C : Cw} {K : World} {F : List Assn} {post : Value → List Assn → Prop} (h : Does Try.prog f args K (C.parts bc ++ F) post) : Does Try.prog f args K (C.A bc :: F) post := h.sat fun w hw => hw.unall

/-! ### Functions that only read -/
section
variable {bc : Nat} {C : Cw} {K : World} {F : List Assn}
theorem chip_ready (hR : Rds K F bc 0 C.cells) : Tells Try.prog 43 #[ptr bc 0] K F (.int .i64 C.sem.ready) := by
  refine Does.enter Try.func43 rfl Try.ntmps43 rfl ?_
  simp only [env0, Nat.reduceAdd]
  refine WC.seq ?_
  refine WC.region ?_
  refine WL.val (V.assign (OV.p rfl)) rfl ?_
  refine WL.nil ?_
  refine WC.seq ?_
  refine WC.block ?_
  refine WC.seq ?_
  refine WC.region ?_
  refine WL.val (V.move (OV.p rfl)) rfl ?_
  refine WL.val (V.eqlP Try.underlying25 (OV.p rfl) (OV.p rfl)) rfl ?_
  refine WL.val (V.assign (OV.p rfl)) rfl ?_
  refine WL.nil ?_
  refine WC.condF' rfl (by first | rfl | (simp; done) | (simp; omega)) ?_
  refine WC.seq ?_
  refine WC.region ?_
  refine WL.val (V.move (OV.p rfl)) rfl ?_
  refine WL.val (V.nilCheck (OV.p rfl)) rfl ?_
  refine WL.val (V.fieldAddr fo77_8 (OV.p rfl)) rfl ?_
  refine WL.val (V.load Try.isAgg4 (OV.p rfl) (fun _ => by repeat (first | exact Rd.here rfl | exact hR _ _ rfl | apply Rd.up))) rfl ?_
  refine WL.val (V.not (OV.p rfl)) rfl ?_
  refine WL.val (V.assign (OV.p rfl)) rfl ?_
  refine WL.nil ?_
  refine WC.cond rfl (fun hc1 => ?_) (fun hc1 => ?_)
  · try simp only [decide_eq_true_eq, decide_eq_false_iff_not, Bool.and_eq_true, Bool.or_eq_true, Bool.and_eq_false_iff, Bool.or_eq_false_iff, Bool.not_eq_true', Bool.not_eq_false', Bool.not_eq_true, Bool.not_eq_false, Int.not_lt, Int.not_le] at hc1
    refine WC.seq ?_
    refine WC.region ?_
    refine WL.val (V.assign (OV.p rfl)) rfl ?_
    refine WL.nil ?_
    refine WC.ret ?_
    refine BodyQ.ret (H' := F) (Res.tmp rfl rfl) (fun w h => by repeat (first | exact h | replace h := h.tail)) ⟨?_, rfl⟩
    unfold Chip.ready Cw.sem
    simp [*]
  · try simp only [decide_eq_true_eq, decide_eq_false_iff_not, Bool.and_eq_true, Bool.or_eq_true, Bool.and_eq_false_iff, Bool.or_eq_false_iff, Bool.not_eq_true', Bool.not_eq_false', Bool.not_eq_true, Bool.not_eq_false, Int.not_lt, Int.not_le] at hc1
    refine WC.skip ?_
    refine WC.seq ?_
    refine WC.region ?_
    refine WL.val (V.assign (OV.p rfl)) rfl ?_
    refine WL.nil ?_
    refine WC.ret ?_
    refine BodyQ.ret (H' := F) (Res.tmp rfl rfl) (fun w h => by repeat (first | exact h | replace h := h.tail)) ⟨?_, rfl⟩
    unfold Chip.ready Cw.sem
    simp [*]
theorem chip_block (b : Int) (hR : Rds K F bc 0 C.cells) : Tells Try.prog 41 #[ptr bc 0, .int .i64 b] K F (.bool (C.sem.block b)) := by
  refine Does.enter Try.func41 rfl Try.ntmps41 rfl ?_
  simp only [env0, Nat.reduceAdd]
  refine WC.seq ?_
  refine WC.region ?_
  refine WL.val (V.assign (OV.p rfl)) rfl ?_
  refine WL.nil ?_
  refine WC.seq ?_
  refine WC.region ?_
  refine WL.val (V.move (OV.p rfl)) rfl ?_
  refine WL.val (V.geq (OV.p rfl) (OV.p rfl)) rfl ?_
  refine WL.val (V.move (OV.p rfl)) rfl ?_
  refine WL.valG (oj := _) rfl rfl rfl GC.t (V.move (OV.p rfl)) rfl ?_
  refine WL.valG (oj := _) rfl rfl rfl GC.t (V.move (OV.p rfl)) rfl ?_
  refine WL.valG (oj := _) rfl rfl rfl GC.t (V.nilCheck (OV.g rfl id)) rfl ?_
  refine WL.valG (oj := _) rfl rfl rfl GC.t (V.fieldAddr fo77_0 (OV.g rfl id)) rfl ?_
  refine WL.valG (oj := _) rfl rfl rfl GC.t (V.fieldAddr fo23_0 (OV.g rfl id)) rfl ?_
  refine WL.valG (oj := _) rfl rfl rfl GC.t (V.load Try.isAgg3 (OV.g rfl id) (fun _ => by repeat (first | exact Rd.here rfl | exact hR _ _ rfl | apply Rd.up))) rfl ?_
  refine WL.valG (oj := _) rfl rfl rfl GC.t (V.lss (OV.g rfl id) (OV.g rfl id)) rfl ?_
  refine WL.val (V.pickAnd (OV.p rfl) (OV.g rfl id)) rfl ?_
  refine WL.val (V.assign (OV.p rfl)) rfl ?_
  refine WL.nil ?_
  refine WC.ret ?_
  exact BodyQ.ret (H' := F) (Res.tmp rfl rfl) (fun w h => by repeat (first | exact h | replace h := h.tail)) ⟨rfl, rfl⟩
theorem chip_page (b p : Int) (hR : Rds K F bc 0 C.cells) : Tells Try.prog 44 #[ptr bc 0, .int .i64 b, .int .i64 p] K F (.bool (C.sem.page b p)) := by
  refine Does.enter Try.func44 rfl Try.ntmps44 rfl ?_
  simp only [env0, Nat.reduceAdd]
  refine WC.seq ?_
  refine WC.region ?_
  refine WL.val (V.assign (OV.p rfl)) rfl ?_
  refine WL.nil ?_
  refine WC.seq ?_
  refine WC.region ?_
  refine WL.val (V.move (OV.p rfl)) rfl ?_
  refine WL.val (V.move (OV.p rfl)) rfl ?_
  refine WL.call (vs := [_, _]) Try.call41 ⟨OV.p rfl, OV.p rfl, trivial⟩ (chip_block b hR) rfl ?_
  rintro _ H0 ⟨rfl, h0⟩
  subst H0
  refine WL.val (V.move (OV.p rfl)) rfl ?_
  refine WL.valG (oj := _) rfl rfl rfl GC.t (V.move (OV.p rfl)) rfl ?_
  refine WL.valG (oj := _) rfl rfl rfl GC.t (V.geq (OV.g rfl id) (OV.p rfl)) rfl ?_
  refine WL.val (V.pickAnd (OV.p rfl) (OV.g rfl id)) rfl ?_
  refine WL.val (V.move (OV.p rfl)) rfl ?_
  refine WL.valG (oj := _) rfl rfl rfl GC.t (V.move (OV.p rfl)) rfl ?_
  refine WL.valG (oj := _) rfl rfl rfl GC.t (V.move (OV.p rfl)) rfl ?_
  refine WL.valG (oj := _) rfl rfl rfl GC.t (V.nilCheck (OV.g rfl id)) rfl ?_
  refine WL.valG (oj := _) rfl rfl rfl GC.t (V.fieldAddr fo77_0 (OV.g rfl id)) rfl ?_
  refine WL.valG (oj := _) rfl rfl rfl GC.t (V.fieldAddr fo23_1 (OV.g rfl id)) rfl ?_
  refine WL.valG (oj := _) rfl rfl rfl GC.t (V.load Try.isAgg3 (OV.g rfl id) (fun _ => by repeat (first | exact Rd.here rfl | exact hR _ _ rfl | apply Rd.up))) rfl ?_
  refine WL.valG (oj := _) rfl rfl rfl GC.t (V.lss (OV.g rfl id) (OV.g rfl id)) rfl ?_
  refine WL.val (V.pickAnd (OV.p rfl) (OV.g rfl id)) rfl ?_
  refine WL.val (V.assign (OV.p rfl)) rfl ?_
  refine WL.nil ?_
  refine WC.ret ?_
  exact BodyQ.ret (H' := F) (Res.tmp rfl rfl) (fun w h => by repeat (first | exact h | replace h := h.tail)) ⟨rfl, rfl⟩
theorem chip_after (v : Value) (b : Bool) : Tells Try.prog 47 #[v, .bool b] K F (.int .i64 (Chip.after b)) := by
  refine Does.enter Try.func47 rfl Try.ntmps47 rfl ?_
  simp only [env0, Nat.reduceAdd]
  refine WC.seq ?_
  refine WC.region ?_
  refine WL.val (V.assign (OV.p rfl)) rfl ?_
  refine WL.nil ?_
  refine WC.seq ?_
  refine WC.seq ?_
  refine WC.region ?_
  refine WL.val (V.move (OV.p rfl)) rfl ?_
  refine WL.nil ?_
  refine WC.cond rfl (fun hc0 => ?_) (fun hc0 => ?_)
  · try simp only [decide_eq_true_eq, decide_eq_false_iff_not, Bool.and_eq_true, Bool.or_eq_true, Bool.and_eq_false_iff, Bool.or_eq_false_iff, Bool.not_eq_true', Bool.not_eq_false', Bool.not_eq_true, Bool.not_eq_false, Int.not_lt, Int.not_le] at hc0
    refine WC.seq ?_
    refine WC.region ?_
    refine WL.val (V.assign (OV.p rfl)) rfl ?_
    refine WL.nil ?_
    refine WC.ret ?_
    exact BodyQ.ret (H' := F) (Res.tmp rfl rfl) (fun w h => by repeat (first | exact h | replace h := h.tail)) ⟨by simp [Chip.after, hc0], rfl⟩
  · try simp only [decide_eq_true_eq, decide_eq_false_iff_not, Bool.and_eq_true, Bool.or_eq_true, Bool.and_eq_false_iff, Bool.or_eq_false_iff, Bool.not_eq_true', Bool.not_eq_false', Bool.not_eq_true, Bool.not_eq_false, Int.not_lt, Int.not_le] at hc0
    refine WC.skip ?_
    refine WC.seq ?_
    refine WC.region ?_
    refine WL.val (V.assign (OV.p rfl)) rfl ?_
    refine WL.nil ?_
    refine WC.ret ?_
    exact BodyQ.ret (H' := F) (Res.tmp rfl rfl) (fun w h => by repeat (first | exact h | replace h := h.tail)) ⟨by simp [Chip.after, hc0], rfl⟩
theorem chip_deed (hl : 0 ≤ C.left ∧ C.left ≤ 9223372036854775807) : Does Try.prog 46 #[ptr bc 0] K (Cells bc 77 C.cells :: F) (fun v H' => v = .bool C.sem.cut ∧ H' = Cells bc 77 C.deed.cells :: F) := by
  dsimp only [Cw.cells]
  refine Does.enter Try.func46 rfl Try.ntmps46 rfl ?_
  simp only [env0, Nat.reduceAdd]
  refine WC.seq ?_
  refine WC.region ?_
  refine WL.val (V.assign (OV.p rfl)) rfl ?_
  refine WL.nil ?_
  refine WC.seq ?_
  refine WC.seq ?_
  refine WC.region ?_
  refine WL.val (V.move (OV.p rfl)) rfl ?_
  refine WL.val (V.nilCheck (OV.p rfl)) rfl ?_
  refine WL.val (V.fieldAddr fo77_9 (OV.p rfl)) rfl ?_
  refine WL.val (V.load Try.isAgg3 (OV.p rfl) (fun _ => by repeat (first | exact Rd.here rfl | apply Rd.up))) rfl ?_
  refine WL.val (V.eql (OV.p rfl) (OV.p rfl)) rfl ?_
  refine WL.nil ?_
  refine WC.cond rfl (fun hc0 => ?_) (fun hc0 => ?_)
  · simp only [decide_eq_true_eq, decide_eq_false_iff_not, Bool.and_eq_true, Bool.or_eq_true, Bool.and_eq_false_iff, Bool.or_eq_false_iff, Bool.not_eq_true', Bool.not_eq_false', Bool.not_eq_true, Bool.not_eq_false, Int.not_lt, Int.not_le] at hc0
    refine WC.seq ?_
    refine WC.region ?_
    refine WL.val (V.assign (OV.p rfl)) rfl ?_
    refine WL.nil ?_
    refine WC.ret ?_
    refine BodyQ.ret (H' := Cells bc _ C.deed.cells :: F) (Res.tmp rfl rfl) (fun w h => Sat.cells_eq h ?_) ⟨?_, rfl⟩
    · simp [Cw.deed, hc0]
    · simp [Chip.cut, Cw.sem, hc0]
  · simp only [decide_eq_true_eq, decide_eq_false_iff_not, Bool.and_eq_true, Bool.or_eq_true, Bool.and_eq_false_iff, Bool.or_eq_false_iff, Bool.not_eq_true', Bool.not_eq_false', Bool.not_eq_true, Bool.not_eq_false, Int.not_lt, Int.not_le] at hc0
    refine WC.skip ?_
    refine WC.seq ?_
    refine WC.region ?_
    refine WL.val (V.move (OV.p rfl)) rfl ?_
    refine WL.val (V.nilCheck (OV.p rfl)) rfl ?_
    refine WL.val (V.fieldAddr fo77_9 (OV.p rfl)) rfl ?_
    refine WL.val (V.load Try.isAgg3 (OV.p rfl) (fun _ => by repeat (first | exact Rd.here rfl | apply Rd.up))) rfl ?_
    refine WL.val (V.subI (OV.p rfl) (OV.p rfl) (fun hc => by first | omega | (simp at hc; omega))) rfl ?_
    refine WL.val (V.nilCheck (OV.p rfl)) rfl ?_
    refine WL.val (V.fieldAddr fo77_9 (OV.p rfl)) rfl ?_
    refine WL.store (cs := [_]) Try.sizeOf3 (OV.p rfl) (OV.p rfl) rfl rfl rfl (by repeat (first | exact Upd.here rfl rfl | apply Upd.up)) ?_
    refine WL.nil ?_
    refine WC.seq ?_
    refine WC.seq ?_
    refine WC.region ?_
    refine WL.val (V.move (OV.p rfl)) rfl ?_
    refine WL.val (V.nilCheck (OV.p rfl)) rfl ?_
    refine WL.val (V.fieldAddr fo77_9 (OV.p rfl)) rfl ?_
    refine WL.val (V.load Try.isAgg3 (OV.p rfl) (fun _ => by repeat (first | exact Rd.here rfl | apply Rd.up))) rfl ?_
    refine WL.val (V.eql (OV.p rfl) (OV.p rfl)) rfl ?_
    refine WL.nil ?_
    refine WC.cond rfl (fun hc1 => ?_) (fun hc1 => ?_)
    · simp only [decide_eq_true_eq, decide_eq_false_iff_not, Bool.and_eq_true, Bool.or_eq_true, Bool.and_eq_false_iff, Bool.or_eq_false_iff, Bool.not_eq_true', Bool.not_eq_false', Bool.not_eq_true, Bool.not_eq_false, Int.not_lt, Int.not_le] at hc1
      have h1 : C.left = 1 := by omega
      refine WC.region ?_
      refine WL.val (V.move (OV.p rfl)) rfl ?_
      refine WL.val (V.nilCheck (OV.p rfl)) rfl ?_
      refine WL.val (V.fieldAddr fo77_8 (OV.p rfl)) rfl ?_
      refine WL.store (cs := [_]) Try.sizeOf4 (OV.p rfl) (OV.p rfl) rfl rfl rfl (by repeat (first | exact Upd.here rfl rfl | apply Upd.up)) ?_
      refine WL.nil ?_
      refine WC.seq ?_
      refine WC.region ?_
      refine WL.val (V.move (OV.p rfl)) rfl ?_
      refine WL.val (V.nilCheck (OV.p rfl)) rfl ?_
      refine WL.val (V.fieldAddr fo77_9 (OV.p rfl)) rfl ?_
      refine WL.val (V.load Try.isAgg3 (OV.p rfl) (fun _ => by repeat (first | exact Rd.here rfl | apply Rd.up))) rfl ?_
      refine WL.val (V.eql (OV.p rfl) (OV.p rfl)) rfl ?_
      refine WL.val (V.assign (OV.p rfl)) rfl ?_
      refine WL.nil ?_
      refine WC.ret ?_
      refine BodyQ.ret (H' := Cells bc _ C.deed.cells :: F) (Res.tmp rfl rfl) (fun w h => Sat.cells_eq h ?_) ⟨?_, rfl⟩
      · simp [Cw.deed, setL, h1, hc0]
      · simp [Chip.cut, Cw.sem, h1]
        try omega
    · simp only [decide_eq_true_eq, decide_eq_false_iff_not, Bool.and_eq_true, Bool.or_eq_true, Bool.and_eq_false_iff, Bool.or_eq_false_iff, Bool.not_eq_true', Bool.not_eq_false', Bool.not_eq_true, Bool.not_eq_false, Int.not_lt, Int.not_le] at hc1
      have h1 : C.left ≠ 1 := by omega
      refine WC.skip ?_
      refine WC.seq ?_
      refine WC.region ?_
      refine WL.val (V.move (OV.p rfl)) rfl ?_
      refine WL.val (V.nilCheck (OV.p rfl)) rfl ?_
      refine WL.val (V.fieldAddr fo77_9 (OV.p rfl)) rfl ?_
      refine WL.val (V.load Try.isAgg3 (OV.p rfl) (fun _ => by repeat (first | exact Rd.here rfl | apply Rd.up))) rfl ?_
      refine WL.val (V.eql (OV.p rfl) (OV.p rfl)) rfl ?_
      refine WL.val (V.assign (OV.p rfl)) rfl ?_
      refine WL.nil ?_
      refine WC.ret ?_
      refine BodyQ.ret (H' := Cells bc _ C.deed.cells :: F) (Res.tmp rfl rfl) (fun w h => Sat.cells_eq h ?_) ⟨?_, rfl⟩
      · simp [Cw.deed, setL, h1, hc0]
      · simp [Chip.cut, Cw.sem, h1]
        try omega
theorem chip_blank (hm : C.g.mays) (hR : Rds K F bc 0 C.cells) : Does Try.prog 45 #[ptr bc 0] K F (fun v H' => ∃ b, v = .slice (some ⟨b, 0, none⟩) C.g.raw.toNat C.g.raw.toNat ∧ H' = Cells b 5 (ints .u8 (List.replicate C.g.raw.toNat 255)) :: F) := by
  have hr := Geo.raw_bd hm
  refine Does.enter Try.func45 rfl Try.ntmps45 rfl ?_
  simp only [env0, Nat.reduceAdd]
  refine WC.seq ?_
  refine WC.region ?_
  refine WL.val (V.assign (OV.p rfl)) rfl ?_
  refine WL.nil ?_
  refine WC.seq ?_
  refine WC.region ?_
  refine WL.val (V.move (OV.p rfl)) rfl ?_
  refine WL.val (V.nilCheck (OV.p rfl)) rfl ?_
  refine WL.val (V.fieldAddr fo77_1 (OV.p rfl)) rfl ?_
  refine WL.val (V.load Try.isAgg3 (OV.p rfl) (fun _ => by repeat (first | exact Rd.here rfl | exact hR _ _ rfl | apply Rd.up))) rfl ?_
  refine WL.make1 (m := C.g.raw.toNat) Try.underlying29 el5 (OV.p rfl) (OV.p rfl) (by omega) (by omega) (by omega) rfl rfl rfl (fun b9 => ?_)
  refine WL.val (V.assign (OV.p rfl)) rfl ?_
  refine WL.nil ?_
  refine WC.seq ?_
  refine WC.seq ?_
  refine WC.region ?_
  refine WL.val (V.move (OV.p rfl)) rfl ?_
  refine WL.val (V.len (t := 29) Try.runUnderlying29 (OV.p rfl)) rfl ?_
  refine WL.val (V.move (OV.p rfl)) rfl ?_
  refine WL.nil ?_
  refine WC.block ?_
  refine WC.loop (σ := Nat) (fun i => [(3, .slice (some ⟨b9, 0, none⟩) C.g.raw.toNat C.g.raw.toNat), (11, .int .i64 (C.g.raw.toNat : Int)), (12, .int .i64 (i : Int))]) (fun i => Cells b9 5 (ints .u8 (List.replicate i 255 ++ List.replicate (C.g.raw.toNat - i) 0)) :: F) (fun i => i ≤ C.g.raw.toNat) (fun i => C.g.raw.toNat - i) 0 (Nat.zero_le _) (.cons rfl (.cons rfl (.cons rfl (.nil _)))) (fun w h => Sat.cells_eq h (by simp [ints])) ?_
  rintro i hi
  refine WC.seq ?_
  refine WC.region ?_
  refine WL.val (V.lss (OV.p rfl) (OV.p rfl)) rfl ?_
  refine WL.nil ?_
  refine WC.seq ?_
  refine WC.cond rfl (fun hc0 => ?_) (fun hc0 => ?_)
  · try simp only [decide_eq_true_eq, decide_eq_false_iff_not, Bool.and_eq_true, Bool.or_eq_true, Bool.and_eq_false_iff, Bool.or_eq_false_iff, Bool.not_eq_true', Bool.not_eq_false', Bool.not_eq_true, Bool.not_eq_false, Int.not_lt, Int.not_le] at hc0
    refine WC.skip ?_
    refine WC.seq ?_
    refine WC.block ?_
    refine WC.seq ?_
    refine WC.region ?_
    refine WL.val (V.move (OV.p rfl)) rfl ?_
    refine WL.val (V.assign (OV.p rfl)) rfl ?_
    refine WL.nil ?_
    refine WC.region ?_
    refine WL.val (V.move (OV.p rfl)) rfl ?_
    refine WL.val (V.move (OV.p rfl)) rfl ?_
    refine WL.val (V.idxB st29 (OV.p rfl) (OV.p rfl) (fun hc => by first | omega | (simp at hc; omega))) rfl ?_
    refine WL.store (cs := [_]) Try.sizeOf5 (OV.p rfl) (OV.p rfl) rfl rfl rfl (Upd.at_ (by simp [ints]; omega)) ?_
    refine WL.nil ?_
    refine WC.region ?_
    refine WL.val (V.addI (OV.p rfl) (OV.p rfl) (fun hc => by first | omega | (simp at hc; omega))) rfl ?_
    refine WL.val (V.move (OV.p rfl)) rfl ?_
    refine WL.nil ?_
    refine ⟨rfl, ?_⟩
    refine ⟨i + 1, (by show i + 1 ≤ _; omega), (by show C.g.raw.toNat - (i + 1) < C.g.raw.toNat - i; omega), .cons rfl (.cons rfl (.cons (look_eq rfl (by simp)) (.nil _))), fun w h => Sat.cells_eq h ?_⟩
    rw [show 0 + (i : Int).toNat * 1 = i by simp, ints_set, replicate_step (by omega)]
  · try simp only [decide_eq_true_eq, decide_eq_false_iff_not, Bool.and_eq_true, Bool.or_eq_true, Bool.and_eq_false_iff, Bool.or_eq_false_iff, Bool.not_eq_true', Bool.not_eq_false', Bool.not_eq_true, Bool.not_eq_false, Int.not_lt, Int.not_le] at hc0
    refine WC.exit ?_
    refine WC.seq ?_
    refine WC.region ?_
    refine WL.val (V.move (OV.p rfl)) rfl ?_
    refine WL.val (V.assign (OV.p rfl)) rfl ?_
    refine WL.nil ?_
    refine WC.ret ?_
    obtain rfl : i = C.g.raw.toNat := by omega
    refine BodyQ.ret (H' := Cells b9 _ _ :: F) (Res.tmp rfl rfl) (fun w h => Sat.cells_eq h ?_) ⟨b9, rfl, rfl⟩
    simp
end
end Go.Proofs.Ytgmdagjnigkaaaa
