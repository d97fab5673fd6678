/- The reference's chip (casemateref07): how it lies in memory; blank, has, page, deed, clamp. -/
import Derived.Test.YtgmdagjnigkaaaaU0
import Derived.Test.YtgmdagjnigkaaaaC7
import Derived.Test.YtgmdagjnigkaaaaSlW
namespace Go.Proofs.Ytgmdagjnigkaaaa
open Go.Sl Go.RowKit
set_option linter.unusedVariables false
set_option linter.unusedSimpArgs false
set_option maxRecDepth 20000

structure RPage where
  A : Option Addr
  c : Nat
  raw : List Int
  B : Option Addr
  wc : Nat
  wrong : List Int
abbrev RPage.cells (y : RPage) : List Value := [.slice y.A y.raw.length y.c, .slice y.B y.wrong.length y.wc]
structure RBlock where
  (pb pc : Nat)
  pr : List Value
  pages : List RPage
  next : Int
  bad : Bool
  fails : Bool
abbrev RBlock.cells (x : RBlock) : List Value := [.slice (some ⟨x.pb, 0, none⟩) x.pages.length x.pc, .int .i64 x.next, .bool x.bad, .bool x.fails]
def RBlock.row (x : RBlock) : Assn := Cells x.pb 105 (x.pages.flatMap RPage.cells ++ x.pr)
structure RW where
  g : Geo
  (bb bc : Nat)
  rest : List Value
  blocks : List RBlock
  fuse : Int
  up : Bool
  left : Int
  keep : Int
  own : List Assn
namespace RW
abbrev cells (R : RW) : List Value := [.int .i64 R.g.bl, .int .i64 R.g.pg, .int .i64 R.g.se, .int .i64 R.g.sb, .int .i64 R.g.fl, .slice (some ⟨R.bb, 0, none⟩) R.blocks.length R.bc, .int .i64 R.fuse, .bool R.up, .int .i64 R.left, .int .i64 R.keep]
abbrev rows (R : RW) : List Assn := R.blocks.map RBlock.row
abbrev parts (a : Nat) (R : RW) : List Assn := [Cells a 68 R.cells, Cells R.bb 103 (R.blocks.flatMap RBlock.cells ++ R.rest), AllA R.rows, AllA R.own]
def A (a : Nat) (R : RW) : Assn := AllA (R.parts a)
def deed (R : RW) : RW := { R with left := if R.left = 0 then 0 else R.left - 1, up := R.up && !decide (R.left = 1) }
end RW
structure PageOk (own : List Assn) (g : Geo) (y : RPage) : Prop where
  ra : SeqIn own y.A y.raw.length 1 (ints .u8 y.raw)
  wa : SeqIn own y.B y.wrong.length 1 (ints .i64 y.wrong)
  rl : (y.raw.length : Int) = g.raw
  rb : IsBytes y.raw
  wb : ∀ i ∈ y.wrong, 0 ≤ i ∧ i < 8 * g.raw
  wl : y.wrong.length ≤ maxLen
structure RW.Ok (R : RW) : Prop where
  mays : R.g.mays
  pgs : ∀ x ∈ R.blocks, ∀ y ∈ x.pages, PageOk R.own R.g y
  left : 0 ≤ R.left ∧ R.left ≤ 9223372036854775807
  next : ∀ x ∈ R.blocks, 0 ≤ x.next ∧ x.next ≤ R.g.pg
structure PageIs (S : Chip) (b p : Nat) (y : RPage) : Prop where
  raw : y.raw = (S.pages ((b : Int), (p : Int))).getD S.blank
  wrong : List.Perm y.wrong ((S.wrong ((b : Int), (p : Int))).getD [])
structure BlockIs (S : Chip) (b : Nat) (x : RBlock) : Prop where
  next : x.next = S.nextOf (b : Int)
  bad : x.bad = S.marked (b : Int)
  fails : x.fails = S.weak (b : Int)
  len : (x.pages.length : Int) = S.g.pg
  pg : ∀ p y, x.pages[p]? = some y → PageIs S b p y
structure RW.Is (R : RW) (S : Chip) : Prop where
  g : R.g = S.g
  fuse : R.fuse = S.fuse
  up : R.up = S.up
  left : R.left = S.left
  keep : R.keep = S.keep
  len : (R.blocks.length : Int) = S.g.bl
  nlen : (S.next.length : Int) = S.g.bl
  blk : ∀ b x, R.blocks[b]? = some x → BlockIs S b x
theorem PageOk.mono {own own' : List Assn} {g : Geo} {y : RPage} (h : PageOk own g y) (hup : ∀ K w, Sat K w [AllA own'] → Sat K w [AllA own]) : PageOk own' g y :=
  ⟨h.ra.mono hup, h.wa.mono hup, h.rl, h.rb, h.wb, h.wl⟩
theorem rcells_len (x : RBlock) : x.cells.length = 4 := rfl
theorem pcells_len (y : RPage) : y.cells.length = 2 := rfl
theorem Rd.inA {K : World} {l H : List Assn} {A : Assn} {p : Option Addr} {v : Value} (hA : A ∈ l) (h : Rd K [A] p v) : Rd K (AllA l :: H) p v := fun w hw => h w (hw.memA hA)
theorem RW.blk_get {R : RW} {b : Nat} {x : RBlock} (hb : R.blocks[b]? = some x) {i : Nat} {v : Value} (hi : x.cells[i]? = some v) : (R.blocks.flatMap RBlock.cells ++ R.rest)[b * 4 + i]? = some v := by
  have h := flat_get (s := 4) rcells_len R.blocks b i x v hb hi
  rw [List.getElem?_append_left (List.getElem?_eq_some_iff.1 h).1]
  exact h
theorem RBlock.pg_get {x : RBlock} {p : Nat} {y : RPage} (hp : x.pages[p]? = some y) {i : Nat} {v : Value} (hi : y.cells[i]? = some v) : (x.pages.flatMap RPage.cells ++ x.pr)[p * 2 + i]? = some v := by
  have h := flat_get (s := 2) pcells_len x.pages p i y v hp hi
  rw [List.getElem?_append_left (List.getElem?_eq_some_iff.1 h).1]
  exact h
theorem RW.Is.deed {R : RW} {S : Chip} (h : R.Is S) : R.deed.Is S.deed := by
  have hl := h.left
  have hu := h.up
  refine ⟨h.g, h.fuse, ?_, ?_, h.keep, h.len, h.nlen, fun b x hx => ?_⟩
  · show (R.up && !decide (R.left = 1)) = (S.up && !S.cut)
    rw [hu, hl]; rfl
  · show (if R.left = 0 then 0 else R.left - 1) = (if S.left = 0 then 0 else S.left - 1)
    rw [hl]
  · obtain ⟨h1, h2, h3, h4, h5⟩ := h.blk b x hx
    exact ⟨h1, h2, h3, h4, fun p y hy => ⟨(h5 p y hy).raw, (h5 p y hy).wrong⟩⟩
theorem RW.Ok.deed {R : RW} (h : R.Ok) : R.deed.Ok := ⟨h.mays, h.pgs, by
  have := h.left
  show 0 ≤ (if R.left = 0 then 0 else R.left - 1) ∧ (if R.left = 0 then 0 else R.left - 1) ≤ 9223372036854775807
  split <;> omega, h.next⟩
theorem Does.openR {f : FuncId} {args : Array Value} {a : Nat} {R : RW} {K : World} {F : List Assn} {post : Value → List Assn → Prop} (h : Does Try.prog f args K (R.parts a ++ F) post) : Does Try.prog f args K (R.A a :: F) post := h.sat fun w hw => hw.unall
section
variable {a : Nat} {R : RW} {K : World} {F : List Assn}
theorem ref_has (b : Int) (hR : Rds K F a 0 R.cells) : Tells Try.prog 67 #[ptr a 0, .int .i64 b] K F (.bool (decide (0 ≤ b) && decide (b < R.g.bl))) := by
  refine Does.enter Try.func67 rfl Try.ntmps67 rfl ?_
  simp only [env0, Nat.reduceAdd]
  refine WC.seq ?_
  refine WC.region ?_
  refine WL.val (V.assign (OV.p rfl)) rfl ?_
  refine WL.nil ?_
  refine WC.seq ?_
  refine WC.region ?_
  refine WL.val (V.move (OV.p rfl)) rfl ?_
  refine WL.val (V.geq (OV.p rfl) (OV.p rfl)) rfl ?_
  refine WL.val (V.move (OV.p rfl)) rfl ?_
  refine WL.valG (oj := _) rfl rfl rfl GC.t (V.move (OV.p rfl)) rfl ?_
  refine WL.valG (oj := _) rfl rfl rfl GC.t (V.move (OV.p rfl)) rfl ?_
  refine WL.valG (oj := _) rfl rfl rfl GC.t (V.nilCheck (OV.g rfl id)) rfl ?_
  refine WL.valG (oj := _) rfl rfl rfl GC.t (V.fieldAddr fo68_0 (OV.g rfl id)) rfl ?_
  refine WL.valG (oj := _) rfl rfl rfl GC.t (V.fieldAddr fo23_0 (OV.g rfl id)) rfl ?_
  refine WL.valG (oj := _) rfl rfl rfl GC.t (V.load Try.isAgg3 (OV.g rfl id) (fun _ => by repeat (first | exact Rd.here rfl | exact hR _ _ rfl | apply Rd.up))) rfl ?_
  refine WL.valG (oj := _) rfl rfl rfl GC.t (V.lss (OV.g rfl id) (OV.g rfl id)) rfl ?_
  refine WL.val (V.pickAnd (OV.p rfl) (OV.g rfl id)) rfl ?_
  refine WL.val (V.assign (OV.p rfl)) rfl ?_
  refine WL.nil ?_
  refine WC.ret ?_
  exact BodyQ.ret (H' := F) (Res.tmp rfl rfl) (fun w h => h) ⟨rfl, rfl⟩
theorem ref_page (b p : Int) (hR : Rds K F a 0 R.cells) : Tells Try.prog 75 #[ptr a 0, .int .i64 b, .int .i64 p] K F (.bool (decide (0 ≤ b) && decide (b < R.g.bl) && decide (0 ≤ p) && decide (p < R.g.pg))) := by
  refine Does.enter Try.func75 rfl Try.ntmps75 rfl ?_
  simp only [env0, Nat.reduceAdd]
  refine WC.seq ?_
  refine WC.region ?_
  refine WL.val (V.assign (OV.p rfl)) rfl ?_
  refine WL.nil ?_
  refine WC.seq ?_
  refine WC.region ?_
  refine WL.val (V.move (OV.p rfl)) rfl ?_
  refine WL.val (V.move (OV.p rfl)) rfl ?_
  refine WL.call (vs := [_, _]) Try.call67 ⟨OV.p rfl, OV.p rfl, trivial⟩ (ref_has b hR) rfl ?_
  rintro _ H0 ⟨rfl, h0⟩
  subst H0
  refine WL.val (V.move (OV.p rfl)) rfl ?_
  refine WL.valG (oj := _) rfl rfl rfl GC.t (V.move (OV.p rfl)) rfl ?_
  refine WL.valG (oj := _) rfl rfl rfl GC.t (V.geq (OV.g rfl id) (OV.p rfl)) rfl ?_
  refine WL.val (V.pickAnd (OV.p rfl) (OV.g rfl id)) rfl ?_
  refine WL.val (V.move (OV.p rfl)) rfl ?_
  refine WL.valG (oj := _) rfl rfl rfl GC.t (V.move (OV.p rfl)) rfl ?_
  refine WL.valG (oj := _) rfl rfl rfl GC.t (V.move (OV.p rfl)) rfl ?_
  refine WL.valG (oj := _) rfl rfl rfl GC.t (V.nilCheck (OV.g rfl id)) rfl ?_
  refine WL.valG (oj := _) rfl rfl rfl GC.t (V.fieldAddr fo68_0 (OV.g rfl id)) rfl ?_
  refine WL.valG (oj := _) rfl rfl rfl GC.t (V.fieldAddr fo23_1 (OV.g rfl id)) rfl ?_
  refine WL.valG (oj := _) rfl rfl rfl GC.t (V.load Try.isAgg3 (OV.g rfl id) (fun _ => by repeat (first | exact Rd.here rfl | exact hR _ _ rfl | apply Rd.up))) rfl ?_
  refine WL.valG (oj := _) rfl rfl rfl GC.t (V.lss (OV.g rfl id) (OV.g rfl id)) rfl ?_
  refine WL.val (V.pickAnd (OV.p rfl) (OV.g rfl id)) rfl ?_
  refine WL.val (V.assign (OV.p rfl)) rfl ?_
  refine WL.nil ?_
  refine WC.ret ?_
  exact BodyQ.ret (H' := F) (Res.tmp rfl rfl) (fun w h => h) ⟨rfl, rfl⟩
theorem ref_deed (hl : 0 ≤ R.left ∧ R.left ≤ 9223372036854775807) : Does Try.prog 87 #[ptr a 0] K (Cells a 68 R.cells :: F) (fun v H' => v = .bool (decide (R.left = 1)) ∧ H' = Cells a 68 R.deed.cells :: F) := by
  dsimp only [RW.cells]
  refine Does.enter Try.func87 rfl Try.ntmps87 rfl ?_
  simp only [env0, Nat.reduceAdd]
  refine WC.seq ?_
  refine WC.region ?_
  refine WL.val (V.assign (OV.p rfl)) rfl ?_
  refine WL.nil ?_
  refine WC.seq ?_
  refine WC.seq ?_
  refine WC.region ?_
  refine WL.val (V.move (OV.p rfl)) rfl ?_
  refine WL.val (V.nilCheck (OV.p rfl)) rfl ?_
  refine WL.val (V.fieldAddr fo68_4 (OV.p rfl)) rfl ?_
  refine WL.val (V.load Try.isAgg3 (OV.p rfl) (fun _ => by repeat (first | exact Rd.here rfl | apply Rd.up))) rfl ?_
  refine WL.val (V.eql (OV.p rfl) (OV.p rfl)) rfl ?_
  refine WL.nil ?_
  refine WC.cond rfl (fun hc0 => ?_) (fun hc0 => ?_)
  · simp only [decide_eq_true_eq, decide_eq_false_iff_not] at hc0
    have h0 := hc0
    refine WC.seq ?_
    refine WC.region ?_
    refine WL.val (V.assign (OV.p rfl)) rfl ?_
    refine WL.nil ?_
    refine WC.ret ?_
    exact BodyQ.ret (H' := Cells a _ R.deed.cells :: F) (Res.tmp rfl rfl) (fun w h => Sat.cells_eq h (by simp [RW.deed, setL, h0])) ⟨by rw [decide_eq_false (by omega)], rfl⟩
  · simp only [decide_eq_true_eq, decide_eq_false_iff_not] at hc0
    have h0 := hc0
    refine WC.skip ?_
    refine WC.seq ?_
    refine WC.region ?_
    refine WL.val (V.move (OV.p rfl)) rfl ?_
    refine WL.val (V.nilCheck (OV.p rfl)) rfl ?_
    refine WL.val (V.fieldAddr fo68_4 (OV.p rfl)) rfl ?_
    refine WL.val (V.load Try.isAgg3 (OV.p rfl) (fun _ => by repeat (first | exact Rd.here rfl | apply Rd.up))) rfl ?_
    refine WL.val (V.subI (OV.p rfl) (OV.p rfl) (fun hc => by first | omega | (simp at hc; omega))) rfl ?_
    refine WL.val (V.nilCheck (OV.p rfl)) rfl ?_
    refine WL.val (V.fieldAddr fo68_4 (OV.p rfl)) rfl ?_
    refine WL.store (cs := [_]) Try.sizeOf3 (OV.p rfl) (OV.p rfl) rfl rfl rfl (by repeat (first | exact Upd.here rfl rfl | apply Upd.up)) ?_
    refine WL.nil ?_
    refine WC.seq ?_
    refine WC.seq ?_
    refine WC.region ?_
    refine WL.val (V.move (OV.p rfl)) rfl ?_
    refine WL.val (V.nilCheck (OV.p rfl)) rfl ?_
    refine WL.val (V.fieldAddr fo68_4 (OV.p rfl)) rfl ?_
    refine WL.val (V.load Try.isAgg3 (OV.p rfl) (fun _ => by repeat (first | exact Rd.here rfl | apply Rd.up))) rfl ?_
    refine WL.val (V.gtr (OV.p rfl) (OV.p rfl)) rfl ?_
    refine WL.nil ?_
    refine WC.cond rfl (fun hc1 => ?_) (fun hc1 => ?_)
    · simp only [decide_eq_true_eq, decide_eq_false_iff_not] at hc1
      have h1 := hc1
      refine WC.seq ?_
      refine WC.region ?_
      refine WL.val (V.assign (OV.p rfl)) rfl ?_
      refine WL.nil ?_
      refine WC.ret ?_
      exact BodyQ.ret (H' := Cells a _ R.deed.cells :: F) (Res.tmp rfl rfl) (fun w h => Sat.cells_eq h (by simp [RW.deed, setL, h0, show ¬ R.left = 1 by omega])) ⟨by rw [decide_eq_false (by omega)], rfl⟩
    · simp only [decide_eq_true_eq, decide_eq_false_iff_not] at hc1
      have h1 := hc1
      refine WC.skip ?_
      refine WC.seq ?_
      refine WC.region ?_
      refine WL.val (V.move (OV.p rfl)) rfl ?_
      refine WL.val (V.nilCheck (OV.p rfl)) rfl ?_
      refine WL.val (V.fieldAddr fo68_3 (OV.p rfl)) rfl ?_
      refine WL.store (cs := [_]) Try.sizeOf4 (OV.p rfl) (OV.p rfl) rfl rfl rfl (by repeat (first | exact Upd.here rfl rfl | apply Upd.up)) ?_
      refine WL.nil ?_
      refine WC.seq ?_
      refine WC.region ?_
      refine WL.val (V.assign (OV.p rfl)) rfl ?_
      refine WL.nil ?_
      refine WC.ret ?_
      exact BodyQ.ret (H' := Cells a _ R.deed.cells :: F) (Res.tmp rfl rfl) (fun w h => Sat.cells_eq h (by simp [RW.deed, setL, show R.left = 1 by omega])) ⟨by rw [decide_eq_true (by omega)], rfl⟩
theorem ref_clamp (n m : Int) : Tells Try.prog 88 #[.int .i64 n, .int .i64 m] K F (.int .i64 (if n < 0 then 0 else min n m)) := by
  refine Does.enter Try.func88 rfl Try.ntmps88 rfl ?_
  simp only [env0, Nat.reduceAdd]
  refine WC.seq ?_
  refine WC.region ?_
  refine WL.val (V.assign (OV.p rfl)) rfl ?_
  refine WL.nil ?_
  refine WC.seq ?_
  refine WC.seq ?_
  refine WC.region ?_
  refine WL.val (V.move (OV.p rfl)) rfl ?_
  refine WL.val (V.lss (OV.p rfl) (OV.p rfl)) rfl ?_
  refine WL.nil ?_
  refine WC.cond rfl (fun hc0 => ?_) (fun hc0 => ?_)
  · simp only [decide_eq_true_eq, decide_eq_false_iff_not] at hc0
    rw [if_pos hc0]
    refine WC.seq ?_
    refine WC.region ?_
    refine WL.val (V.assign (OV.p rfl)) rfl ?_
    refine WL.nil ?_
    refine WC.ret ?_
    exact BodyQ.ret (H' := F) (Res.tmp rfl rfl) (fun w h => h) ⟨rfl, rfl⟩
  · simp only [decide_eq_true_eq, decide_eq_false_iff_not] at hc0
    rw [if_neg hc0]
    refine WC.skip ?_
    refine WC.seq ?_
    refine WC.region ?_
    refine WL.val (V.move (OV.p rfl)) rfl ?_
    refine WL.val (V.move (OV.p rfl)) rfl ?_
    refine WL.val (V.min (OV.p rfl) (OV.p rfl)) rfl ?_
    refine WL.val (V.assign (OV.p rfl)) rfl ?_
    refine WL.nil ?_
    refine WC.ret ?_
    exact BodyQ.ret (H' := F) (Res.tmp rfl rfl) (fun w h => h) ⟨rfl, rfl⟩
theorem ref_blank {m : Nat} (hm : m ≤ 1000000) : Does Try.prog 66 #[.int .i64 (m : Int)] K F (fun v H' => ∃ g, v = .agg #[.slice (some ⟨g, 0, none⟩) m m, .slice none 0 0] ∧ H' = Cells g 5 (ints .u8 (List.replicate m 255)) :: F) := by
  refine Does.enter Try.func66 rfl Try.ntmps66 rfl ?_
  simp only [env0, Nat.reduceAdd]
  refine WC.seq ?_
  refine WC.region ?_
  refine WL.alloc (cs := [(.slice none 0 0), (.slice none 0 0)]) Try.zeroValue105 rfl rfl (fun b2 => ?_)
  refine WL.nil ?_
  refine WC.seq ?_
  refine WC.region ?_
  refine WL.val (V.move (OV.p rfl)) rfl ?_
  refine WL.make1 (m := m) Try.underlying29 el5 (OV.p rfl) (OV.p rfl) (by omega) (by omega) (by omega) rfl rfl rfl (fun b6 => ?_)
  refine WL.val (V.assign (OV.p rfl)) rfl ?_
  refine WL.nil ?_
  refine WC.seq ?_
  refine WC.seq ?_
  refine WC.region ?_
  refine WL.val (V.assign (OV.p rfl)) rfl ?_
  refine WL.nil ?_
  refine WC.block ?_
  refine WC.loop (σ := Nat) (fun i => [(0, .int .i64 (m : Int)), (2, ptr b2 0), (3, .slice (some ⟨b6, 0, none⟩) m m), (4, .int .i64 (i : Int))]) (fun i => Cells b6 5 (ints .u8 (List.replicate i 255 ++ List.replicate (m - i) 0)) :: Cells b2 105 [.slice none 0 0, .slice none 0 0] :: F) (fun i => i ≤ m) (fun i => m - i) 0 (Nat.zero_le _) (.cons rfl (.cons rfl (.cons rfl (.cons rfl (.nil _))))) (fun w h => Sat.cells_eq h (by simp [ints])) ?_
  rintro i hi
  refine WC.seq ?_
  refine WC.seq ?_
  refine WC.region ?_
  refine WL.val (V.move (OV.p rfl)) rfl ?_
  refine WL.val (V.move (OV.p rfl)) rfl ?_
  refine WL.val (V.lss (OV.p rfl) (OV.p rfl)) rfl ?_
  refine WL.nil ?_
  refine WC.cond rfl (fun hc0 => ?_) (fun hc0 => ?_)
  · simp only [decide_eq_true_eq, decide_eq_false_iff_not] at hc0
    refine WC.skip ?_
    refine WC.seq ?_
    refine WC.block ?_
    refine WC.region ?_
    refine WL.val (V.move (OV.p rfl)) rfl ?_
    refine WL.val (V.move (OV.p rfl)) rfl ?_
    refine WL.val (V.idxB st29 (OV.p rfl) (OV.p rfl) (fun hc => by omega)) rfl ?_
    refine WL.store (cs := [_]) Try.sizeOf5 (OV.p rfl) (OV.p rfl) rfl rfl rfl (Upd.at_ (by simp [ints]; omega)) ?_
    refine WL.nil ?_
    refine WC.region ?_
    refine WL.val (V.move (OV.p rfl)) rfl ?_
    refine WL.val (V.addI (OV.p rfl) (OV.p rfl) (fun hc => by first | omega | (simp at hc; omega))) rfl ?_
    refine WL.val (V.assign (OV.p rfl)) rfl ?_
    refine WL.nil ?_
    refine ⟨rfl, ?_⟩
    refine ⟨i + 1, (by show i + 1 ≤ m; omega), (by show m - (i + 1) < m - i; omega), .cons rfl (.cons rfl (.cons rfl (.cons (look_eq rfl (by simp)) (.nil _)))), fun w h => Sat.cells_eq h ?_⟩
    rw [show 0 + (i : Int).toNat * 1 = i by omega, show m - i = (m - (i + 1)) + 1 by omega]
    unfold ints
    rw [List.map_append, List.map_append, List.set_append_right _ _ (by simp), List.length_map, List.length_replicate, Nat.sub_self, List.replicate_succ, List.map_cons, List.set_cons_zero, List.replicate_succ', List.map_append]
    simp
  · simp only [decide_eq_true_eq, decide_eq_false_iff_not] at hc0
    refine WC.exit ?_
    refine WC.seq ?_
    refine WC.region ?_
    refine WL.val (V.move (OV.p rfl)) rfl ?_
    refine WL.val (V.build (vs := [(0, _)]) ⟨OV.p rfl, trivial⟩ rfl (bld105_0 _ _ _)) rfl ?_
    refine WL.store (cs := [_, _]) Try.sizeOf105 (OV.p rfl) (OV.p rfl) rfl rfl rfl (by repeat (first | exact Upd.here rfl rfl | apply Upd.up)) ?_
    refine WL.nil ?_
    refine WC.ret ?_
    obtain rfl : i = m := by omega
    refine BodyQ.normal (H' := Cells b6 5 (ints .u8 (List.replicate i 255)) :: F) (Res.one rfl (R1.cellA (vs := [_, _]) rfl ⟨Try.isAgg105, Try.sizeOf105⟩ rfl (by repeat (first | exact Rds.gets ⟨rfl, rfl, trivial⟩ | apply Rds.up)))) (fun w h => ?_) ⟨b6, rfl, rfl⟩
    have h' := h.sel 2 [0] rfl
    rw [Nat.sub_self, List.replicate_zero, List.append_nil] at h'
    exact h'
end
end Go.Proofs.Ytgmdagjnigkaaaa
