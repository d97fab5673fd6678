import Derived.Test.YtohkefolnmcjnaaGreatP5
import Derived.Test.YtohkefolnmcjnaaGreatP19
import Derived.Test.YtohkefolnmcjnaaGreatP12
/- The symbolic executor, sixteenth part: one of many entries; rows of structs. -/
namespace Go.Sl
open Go.RowKit Go.BigFrame
set_option linter.unusedVariables false
set_option linter.unusedSimpArgs false

theorem take_perm {α : Type} : ∀ (l : List α) (k : Nat) (hk : k < l.length), List.Perm (l[k] :: l.eraseIdx k) l
  | [], k, hk => absurd hk (Nat.not_lt_zero _)
  | a :: l, 0, _ => List.Perm.refl _
  | a :: l, k + 1, hk => (List.Perm.swap _ _ _).trans ((take_perm l k (Nat.lt_of_succ_lt_succ hk)).cons a)
theorem Sat.allTail {K w : World} {A : Assn} {l H : List Assn} (h : Sat K w (A :: (l ++ H))) : Sat K w (A :: AllA l :: H) :=
  ⟨h.1, h.2.1, h.2.2.1, fun b hb B hB => by
    rcases List.mem_cons.1 hB with rfl | hB
    · rintro ⟨C, hC, hf⟩; exact h.2.2.2.1 b hb C (List.mem_append_left _ hC) hf
    · exact h.2.2.2.1 b hb B (List.mem_append_right _ hB), SatL.all.2 h.2.tail⟩
theorem Sat.unallTail {K w : World} {A : Assn} {l H : List Assn} (h : Sat K w (A :: AllA l :: H)) : Sat K w (A :: (l ++ H)) :=
  ⟨h.1, h.2.1, h.2.2.1, fun b hb B hB => by
    rcases List.mem_append.1 hB with hB | hB
    · exact fun hf => h.2.2.2.1 b hb (AllA l) (.head _) ⟨B, hB, hf⟩
    · exact h.2.2.2.1 b hb B (.tail _ hB), SatL.all.1 h.2.tail⟩
theorem Sat.perm' {K w : World} {l l' : List Assn} (hp : List.Perm l l') (h : Sat K w l) : Sat K w l' := ⟨h.1, SatL.perm hp h.2⟩
/-- One of many, ahead of the others. -/
theorem Sat.takeA {K w : World} {l H : List Assn} {k : Nat} (hk : k < l.length) (h : Sat K w (AllA l :: H)) : Sat K w (l[k] :: AllA (l.eraseIdx k) :: H) :=
  Sat.allTail (Sat.perm' ((take_perm l k hk).symm.append_right H) h.unall)
theorem Sat.putA {K w : World} {l H : List Assn} {k : Nat} {A : Assn} (hk : k < l.length) (h : Sat K w (A :: AllA (l.eraseIdx k) :: H)) : Sat K w (AllA (l.set k A) :: H) := by
  have hk' : k < (l.set k A).length := by rw [List.length_set]; exact hk
  have hp := take_perm (l.set k A) k hk'
  rw [List.getElem_set_self, List.eraseIdx_set_eq] at hp
  exact Sat.all (Sat.perm' (hp.append_right H) h.unallTail)

/-! ### Rows of structs: each of s cells -/
section
variable {α : Type} {f : α → List Value} {s : Nat}
theorem flat_length (hf : ∀ x, (f x).length = s) : ∀ l : List α, (l.flatMap f).length = l.length * s
  | [] => by simp
  | x :: l => by rw [List.flatMap_cons, List.length_append, hf, flat_length hf l, List.length_cons, Nat.succ_mul, Nat.add_comm]
theorem flat_get (hf : ∀ x, (f x).length = s) : ∀ (l : List α) (k i : Nat) (x : α) (v : Value), l[k]? = some x → (f x)[i]? = some v → (l.flatMap f)[k * s + i]? = some v
  | [], k, i, x, v, h, _ => by simp at h
  | y :: l, 0, i, x, v, h, hi => by
    simp only [List.getElem?_cons_zero, Option.some.injEq] at h
    subst h
    rw [List.flatMap_cons, Nat.zero_mul, Nat.zero_add, List.getElem?_append_left (List.getElem?_eq_some_iff.1 hi).1]
    exact hi
  | y :: l, k + 1, i, x, v, h, hi => by
    have ih := flat_get hf l k i x v (by simpa using h) hi
    rw [List.flatMap_cons, List.getElem?_append_right (by rw [hf, Nat.succ_mul]; omega), hf, ← ih]
    congr 1
    rw [Nat.succ_mul]; omega
theorem flat_set (hf : ∀ x, (f x).length = s) : ∀ (l : List α) (k i : Nat) (x y : α) (v : Value), l[k]? = some x → i < s → f y = (f x).set i v → (l.flatMap f).set (k * s + i) v = (l.set k y).flatMap f
  | [], k, i, x, y, v, h, _, _ => by simp at h
  | z :: l, 0, i, x, y, v, h, hi, hy => by
    simp only [List.getElem?_cons_zero, Option.some.injEq] at h
    subst h
    rw [List.set_cons_zero, List.flatMap_cons, List.flatMap_cons, Nat.zero_mul, Nat.zero_add, List.set_append, if_pos (by rw [hf]; exact hi), hy]
  | z :: l, k + 1, i, x, y, v, h, hi, hy => by
    have ih := flat_set hf l k i x y v (by simpa using h) hi hy
    rw [List.set_cons_succ, List.flatMap_cons, List.flatMap_cons, List.set_append, if_neg (by rw [hf, Nat.succ_mul]; omega), hf, ← ih]
    congr 2
    rw [Nat.succ_mul]; omega
theorem flat_put (hf : ∀ x, (f x).length = s) : ∀ (l : List α) (k : Nat) (x y : α), l[k]? = some x → setL (l.flatMap f) (k * s) (f y) = (l.set k y).flatMap f := fun l k x y h => by
  have hk := (List.getElem?_eq_some_iff.1 h).1
  have h1 : (k + 1) * s ≤ l.length * s := Nat.mul_le_mul_right _ hk
  rw [Nat.succ_mul] at h1
  rw [setL_append _ _ _ (by rw [hf, flat_length hf]; exact h1), hf]
  have h2 : l.set k y = l.take k ++ y :: l.drop (k + 1) := List.set_eq_take_append_cons_drop .. |>.trans (by rw [if_pos hk])
  have h3 : ∀ j, j ≤ l.length → (l.flatMap f).take (j * s) = (l.take j).flatMap f ∧ (l.flatMap f).drop (j * s) = (l.drop j).flatMap f := fun j hj => by
    have e : l.flatMap f = (l.take j).flatMap f ++ (l.drop j).flatMap f := by rw [← List.flatMap_append, List.take_append_drop]
    have e2 : ((l.take j).flatMap f).length = j * s := by rw [flat_length hf, List.length_take, Nat.min_eq_left hj]
    rw [e]
    exact ⟨List.take_left' e2, List.drop_left' e2⟩
  rw [h2, List.flatMap_append, List.flatMap_cons, (h3 k (Nat.le_of_lt hk)).1, show k * s + s = (k + 1) * s by rw [Nat.succ_mul], (h3 (k + 1) hk).2, List.append_assoc]
end
end Go.Sl
/- The reference's chip (casemateref07): how it lies in memory; blank, has, page, deed, clamp. -/
namespace Go.Proofs.YtohkefolnmcjnaaGreat
open Go.Sl Go.RowKit
set_option linter.unusedVariables false
set_option linter.unusedSimpArgs false
set_option maxRecDepth 20000

structure RPage where
  A : Option Addr
  c : Nat
  raw : List Int
  B : Option Addr
  wc : Nat
  wrong : List Int
abbrev RPage.cells (y : RPage) : List Value := [.slice y.A y.raw.length y.c, .slice y.B y.wrong.length y.wc]
structure RBlock where
  (pb pc : Nat)
  pr : List Value
  pages : List RPage
  next : Int
  bad : Bool
  fails : Bool
abbrev RBlock.cells (x : RBlock) : List Value := [.slice (some ⟨x.pb, 0, none⟩) x.pages.length x.pc, .int .i64 x.next, .bool x.bad, .bool x.fails]
def RBlock.row (x : RBlock) : Assn := Cells x.pb 102 (x.pages.flatMap RPage.cells ++ x.pr)
structure RW where
  g : Geo
  (bb bc : Nat)
  rest : List Value
  blocks : List RBlock
  fuse : Int
  up : Bool
  left : Int
  keep : Int
  own : List Assn
namespace RW
abbrev cells (R : RW) : List Value := [.int .i64 R.g.bl, .int .i64 R.g.pg, .int .i64 R.g.se, .int .i64 R.g.sb, .int .i64 R.g.fl, .slice (some ⟨R.bb, 0, none⟩) R.blocks.length R.bc, .int .i64 R.fuse, .bool R.up, .int .i64 R.left, .int .i64 R.keep]
abbrev rows (R : RW) : List Assn := R.blocks.map RBlock.row
abbrev parts (a : Nat) (R : RW) : List Assn := [Cells a 97 R.cells, Cells R.bb 100 (R.blocks.flatMap RBlock.cells ++ R.rest), AllA R.rows, AllA R.own]
def A (a : Nat) (R : RW) : Assn := AllA (R.parts a)
def deed (R : RW) : RW := { R with left := if R.left = 0 then 0 else R.left - 1, up := R.up && !decide (R.left = 1) }
end RW
structure PageOk (own : List Assn) (g : Geo) (y : RPage) : Prop where
  ra : SeqIn own y.A y.raw.length 1 (ints .u8 y.raw)
  wa : SeqIn own y.B y.wrong.length 1 (ints .i64 y.wrong)
  rl : (y.raw.length : Int) = g.raw
  rb : IsBytes y.raw
  wb : ∀ i ∈ y.wrong, 0 ≤ i ∧ i < 8 * g.raw
  wl : y.wrong.length ≤ maxLen
structure RW.Ok (R : RW) : Prop where
  mays : R.g.mays
  pgs : ∀ x ∈ R.blocks, ∀ y ∈ x.pages, PageOk R.own R.g y
  left : 0 ≤ R.left ∧ R.left ≤ 9223372036854775807
  next : ∀ x ∈ R.blocks, 0 ≤ x.next ∧ x.next ≤ R.g.pg
structure PageIs (S : Chip) (b p : Nat) (y : RPage) : Prop where
  raw : y.raw = (S.pages ((b : Int), (p : Int))).getD S.blank
  wrong : List.Perm y.wrong ((S.wrong ((b : Int), (p : Int))).getD [])
structure BlockIs (S : Chip) (b : Nat) (x : RBlock) : Prop where
  next : x.next = S.nextOf (b : Int)
  bad : x.bad = S.marked (b : Int)
  fails : x.fails = S.weak (b : Int)
  len : (x.pages.length : Int) = S.g.pg
  pg : ∀ p y, x.pages[p]? = some y → PageIs S b p y
structure RW.Is (R : RW) (S : Chip) : Prop where
  g : R.g = S.g
  fuse : R.fuse = S.fuse
  up : R.up = S.up
  left : R.left = S.left
  keep : R.keep = S.keep
  len : (R.blocks.length : Int) = S.g.bl
  nlen : (S.next.length : Int) = S.g.bl
  blk : ∀ b x, R.blocks[b]? = some x → BlockIs S b x
theorem PageOk.mono {own own' : List Assn} {g : Geo} {y : RPage} (h : PageOk own g y) (hup : ∀ K w, Sat K w [AllA own'] → Sat K w [AllA own]) : PageOk own' g y :=
  ⟨h.ra.mono hup, h.wa.mono hup, h.rl, h.rb, h.wb, h.wl⟩
theorem rcells_len (x : RBlock) : x.cells.length = 4 := rfl
theorem pcells_len (y : RPage) : y.cells.length = 2 := rfl
theorem Rd.inA {K : World} {l H : List Assn} {A : Assn} {p : Option Addr} {v : Value} (hA : A ∈ l) (h : Rd K [A] p v) : Rd K (AllA l :: H) p v := fun w hw => h w (hw.memA hA)
theorem RW.blk_get {R : RW} {b : Nat} {x : RBlock} (hb : R.blocks[b]? = some x) {i : Nat} {v : Value} (hi : x.cells[i]? = some v) : (R.blocks.flatMap RBlock.cells ++ R.rest)[b * 4 + i]? = some v := by
  have h := flat_get (s := 4) rcells_len R.blocks b i x v hb hi
  rw [List.getElem?_append_left (List.getElem?_eq_some_iff.1 h).1]
  exact h
theorem RBlock.pg_get {x : RBlock} {p : Nat} {y : RPage} (hp : x.pages[p]? = some y) {i : Nat} {v : Value} (hi : y.cells[i]? = some v) : (x.pages.flatMap RPage.cells ++ x.pr)[p * 2 + i]? = some v := by
  have h := flat_get (s := 2) pcells_len x.pages p i y v hp hi
  rw [List.getElem?_append_left (List.getElem?_eq_some_iff.1 h).1]
  exact h
theorem RW.Is.deed {R : RW} {S : Chip} (h : R.Is S) : R.deed.Is S.deed := by
  have hl := h.left
  have hu := h.up
  refine ⟨h.g, h.fuse, ?_, ?_, h.keep, h.len, h.nlen, fun b x hx => ?_⟩
  · show (R.up && !decide (R.left = 1)) = (S.up && !S.cut)
    rw [hu, hl]; rfl
  · show (if R.left = 0 then 0 else R.left - 1) = (if S.left = 0 then 0 else S.left - 1)
    rw [hl]
  · obtain ⟨h1, h2, h3, h4, h5⟩ := h.blk b x hx
    exact ⟨h1, h2, h3, h4, fun p y hy => ⟨(h5 p y hy).raw, (h5 p y hy).wrong⟩⟩
theorem RW.Ok.deed {R : RW} (h : R.Ok) : R.deed.Ok := ⟨h.mays, h.pgs, by
  have := h.left
  show 0 ≤ (if R.left = 0 then 0 else R.left - 1) ∧ (if R.left = 0 then 0 else R.left - 1) ≤ 9223372036854775807
  split <;> omega, h.next⟩
theorem Does.openR {f : FuncId} {args : Array Value} {a : Nat} {R : RW} {K : World} {F : List Assn} {post : Value → List Assn → Prop} (h : Does Tryz.prog f args K (R.parts a ++ F) post) : Does Tryz.prog f args K (R.A a :: F) post := h.sat fun w hw => hw.unall
section
variable {a : Nat} {R : RW} {K : World} {F : List Assn}
theorem ref_has (b : Int) (hR : Rds K F a 0 R.cells) : Tells Tryz.prog 59 #[ptr a 0, .int .i64 b] K F (.bool (decide (0 ≤ b) && decide (b < R.g.bl))) := by
  refine Does.enter Tryz.func59 rfl Tryz.ntmps59 rfl ?_
  simp only [env0, Nat.reduceAdd]
  refine WC.sr ?_
  refine WL.val (V.assign (OV.p rfl)) rfl ?_
  refine WL.nil ?_
  refine WC.sr ?_
  refine WL.val (V.move (OV.p rfl)) rfl ?_
  refine WL.val (V.geq (OV.p rfl) (OV.p rfl)) rfl ?_
  refine WL.val (V.move (OV.p rfl)) rfl ?_
  refine WL.valG (oj := _) rfl rfl rfl GC.t (V.move (OV.p rfl)) rfl ?_
  refine WL.valG (oj := _) rfl rfl rfl GC.t (V.move (OV.p rfl)) rfl ?_
  refine WL.valG (oj := _) rfl rfl rfl GC.t (V.nilCheck (OV.g rfl id)) rfl ?_
  refine WL.valG (oj := _) rfl rfl rfl GC.t (V.fieldAddr fo97_0 (OV.g rfl id)) rfl ?_
  refine WL.valG (oj := _) rfl rfl rfl GC.t (V.fieldAddr fo23_0 (OV.g rfl id)) rfl ?_
  refine WL.valG (oj := _) rfl rfl rfl GC.t (V.load Tryz.isAgg3 (OV.g rfl id) (fun _ => by repeat (first | exact Rd.here rfl | exact hR _ _ rfl | apply Rd.up))) rfl ?_
  refine WL.valG (oj := _) rfl rfl rfl GC.t (V.lss (OV.g rfl id) (OV.g rfl id)) rfl ?_
  refine WL.val (V.pickAnd (OV.p rfl) (OV.g rfl id)) rfl ?_
  refine WL.val (V.assign (OV.p rfl)) rfl ?_
  refine WL.nil ?_
  refine WC.ret ?_
  exact BodyQ.ret (H' := F) (Res.tmp rfl rfl) (fun w h => h) ⟨rfl, rfl⟩
theorem ref_page (b p : Int) (hR : Rds K F a 0 R.cells) : Tells Tryz.prog 111 #[ptr a 0, .int .i64 b, .int .i64 p] K F (.bool (decide (0 ≤ b) && decide (b < R.g.bl) && decide (0 ≤ p) && decide (p < R.g.pg))) := by
  refine Does.enter Tryz.func111 rfl Tryz.ntmps111 rfl ?_
  simp only [env0, Nat.reduceAdd]
  refine WC.sr ?_
  refine WL.val (V.assign (OV.p rfl)) rfl ?_
  refine WL.nil ?_
  refine WC.sr ?_
  refine WL.val (V.move (OV.p rfl)) rfl ?_
  refine WL.val (V.move (OV.p rfl)) rfl ?_
  refine WL.call (vs := [_, _]) Tryz.call59 ⟨OV.p rfl, OV.p rfl, trivial⟩ (ref_has b hR) rfl ?_
  rintro _ H0 ⟨rfl, h0⟩
  subst H0
  refine WL.val (V.move (OV.p rfl)) rfl ?_
  refine WL.valG (oj := _) rfl rfl rfl GC.t (V.move (OV.p rfl)) rfl ?_
  refine WL.valG (oj := _) rfl rfl rfl GC.t (V.geq (OV.g rfl id) (OV.p rfl)) rfl ?_
  refine WL.val (V.pickAnd (OV.p rfl) (OV.g rfl id)) rfl ?_
  refine WL.val (V.move (OV.p rfl)) rfl ?_
  refine WL.valG (oj := _) rfl rfl rfl GC.t (V.move (OV.p rfl)) rfl ?_
  refine WL.valG (oj := _) rfl rfl rfl GC.t (V.move (OV.p rfl)) rfl ?_
  refine WL.valG (oj := _) rfl rfl rfl GC.t (V.nilCheck (OV.g rfl id)) rfl ?_
  refine WL.valG (oj := _) rfl rfl rfl GC.t (V.fieldAddr fo97_0 (OV.g rfl id)) rfl ?_
  refine WL.valG (oj := _) rfl rfl rfl GC.t (V.fieldAddr fo23_1 (OV.g rfl id)) rfl ?_
  refine WL.valG (oj := _) rfl rfl rfl GC.t (V.load Tryz.isAgg3 (OV.g rfl id) (fun _ => by repeat (first | exact Rd.here rfl | exact hR _ _ rfl | apply Rd.up))) rfl ?_
  refine WL.valG (oj := _) rfl rfl rfl GC.t (V.lss (OV.g rfl id) (OV.g rfl id)) rfl ?_
  refine WL.val (V.pickAnd (OV.p rfl) (OV.g rfl id)) rfl ?_
  refine WL.val (V.assign (OV.p rfl)) rfl ?_
  refine WL.nil ?_
  refine WC.ret ?_
  exact BodyQ.ret (H' := F) (Res.tmp rfl rfl) (fun w h => h) ⟨rfl, rfl⟩
theorem ref_deed (hl : 0 ≤ R.left ∧ R.left ≤ 9223372036854775807) : Does Tryz.prog 142 #[ptr a 0] K (Cells a 97 R.cells :: F) (fun v H' => v = .bool (decide (R.left = 1)) ∧ H' = Cells a 97 R.deed.cells :: F) := by
  dsimp only [RW.cells]
  refine Does.enter Tryz.func142 rfl Tryz.ntmps142 rfl ?_
  simp only [env0, Nat.reduceAdd]
  refine WC.sr ?_
  refine WL.val (V.assign (OV.p rfl)) rfl ?_
  refine WL.nil ?_
  refine WC.seq ?_
  refine WC.sr ?_
  refine WL.val (V.move (OV.p rfl)) rfl ?_
  refine WL.val (V.nilCheck (OV.p rfl)) rfl ?_
  refine WL.val (V.fieldAddr fo97_4 (OV.p rfl)) rfl ?_
  refine WL.val (V.load Tryz.isAgg3 (OV.p rfl) (fun _ => by repeat (first | exact Rd.here rfl | apply Rd.up))) rfl ?_
  refine WL.val (V.eql (OV.p rfl) (OV.p rfl)) rfl ?_
  refine WL.nil ?_
  refine WC.cond rfl (fun hc0 => ?_) (fun hc0 => ?_)
  ·simp only [decide_eq_true_eq, decide_eq_false_iff_not] at hc0
   have h0 := hc0
   refine WC.sr ?_
   refine WL.val (V.assign (OV.p rfl)) rfl ?_
   refine WL.nil ?_
   refine WC.ret ?_
   exact BodyQ.ret (H' := Cells a _ R.deed.cells :: F) (Res.tmp rfl rfl) (fun w h => Sat.cells_eq h (by simp [RW.deed, setL, h0])) ⟨by rw [decide_eq_false (by omega)], rfl⟩
  ·simp only [decide_eq_true_eq, decide_eq_false_iff_not] at hc0
   have h0 := hc0
   refine WC.skip ?_
   refine WC.sr ?_
   refine WL.val (V.move (OV.p rfl)) rfl ?_
   refine WL.val (V.nilCheck (OV.p rfl)) rfl ?_
   refine WL.val (V.fieldAddr fo97_4 (OV.p rfl)) rfl ?_
   refine WL.val (V.load Tryz.isAgg3 (OV.p rfl) (fun _ => by repeat (first | exact Rd.here rfl | apply Rd.up))) rfl ?_
   refine WL.val (V.subI (OV.p rfl) (OV.p rfl) (fun hc => by first | omega | (simp at hc; omega))) rfl ?_
   refine WL.val (V.nilCheck (OV.p rfl)) rfl ?_
   refine WL.val (V.fieldAddr fo97_4 (OV.p rfl)) rfl ?_
   refine WL.store (cs := [_]) Tryz.sizeOf3 (OV.p rfl) (OV.p rfl) rfl rfl rfl (by repeat (first | exact Upd.here rfl rfl | apply Upd.up)) ?_
   refine WL.nil ?_
   refine WC.seq ?_
   refine WC.sr ?_
   refine WL.val (V.move (OV.p rfl)) rfl ?_
   refine WL.val (V.nilCheck (OV.p rfl)) rfl ?_
   refine WL.val (V.fieldAddr fo97_4 (OV.p rfl)) rfl ?_
   refine WL.val (V.load Tryz.isAgg3 (OV.p rfl) (fun _ => by repeat (first | exact Rd.here rfl | apply Rd.up))) rfl ?_
   refine WL.val (V.gtr (OV.p rfl) (OV.p rfl)) rfl ?_
   refine WL.nil ?_
   refine WC.cond rfl (fun hc1 => ?_) (fun hc1 => ?_)
   ·simp only [decide_eq_true_eq, decide_eq_false_iff_not] at hc1
    have h1 := hc1
    refine WC.sr ?_
    refine WL.val (V.assign (OV.p rfl)) rfl ?_
    refine WL.nil ?_
    refine WC.ret ?_
    exact BodyQ.ret (H' := Cells a _ R.deed.cells :: F) (Res.tmp rfl rfl) (fun w h => Sat.cells_eq h (by simp [RW.deed, setL, h0, show ¬ R.left = 1 by omega])) ⟨by rw [decide_eq_false (by omega)], rfl⟩
   ·simp only [decide_eq_true_eq, decide_eq_false_iff_not] at hc1
    have h1 := hc1
    refine WC.skip ?_
    refine WC.sr ?_
    refine WL.val (V.move (OV.p rfl)) rfl ?_
    refine WL.val (V.nilCheck (OV.p rfl)) rfl ?_
    refine WL.val (V.fieldAddr fo97_3 (OV.p rfl)) rfl ?_
    refine WL.store (cs := [_]) Tryz.sizeOf4 (OV.p rfl) (OV.p rfl) rfl rfl rfl (by repeat (first | exact Upd.here rfl rfl | apply Upd.up)) ?_
    refine WL.nil ?_
    refine WC.sr ?_
    refine WL.val (V.assign (OV.p rfl)) rfl ?_
    refine WL.nil ?_
    refine WC.ret ?_
    exact BodyQ.ret (H' := Cells a _ R.deed.cells :: F) (Res.tmp rfl rfl) (fun w h => Sat.cells_eq h (by simp [RW.deed, setL, show R.left = 1 by omega])) ⟨by rw [decide_eq_true (by omega)], rfl⟩
theorem ref_clamp (n m : Int) : Tells Tryz.prog 143 #[.int .i64 n, .int .i64 m] K F (.int .i64 (if n < 0 then 0 else min n m)) := by
  refine Does.enter Tryz.func143 rfl Tryz.ntmps143 rfl ?_
  simp only [env0, Nat.reduceAdd]
  refine WC.sr ?_
  refine WL.val (V.assign (OV.p rfl)) rfl ?_
  refine WL.nil ?_
  refine WC.seq ?_
  refine WC.sr ?_
  refine WL.val (V.move (OV.p rfl)) rfl ?_
  refine WL.val (V.lss (OV.p rfl) (OV.p rfl)) rfl ?_
  refine WL.nil ?_
  refine WC.cond rfl (fun hc0 => ?_) (fun hc0 => ?_)
  ·simp only [decide_eq_true_eq, decide_eq_false_iff_not] at hc0
   rw [if_pos hc0]
   refine WC.sr ?_
   refine WL.val (V.assign (OV.p rfl)) rfl ?_
   refine WL.nil ?_
   refine WC.ret ?_
   exact BodyQ.ret (H' := F) (Res.tmp rfl rfl) (fun w h => h) ⟨rfl, rfl⟩
  ·simp only [decide_eq_true_eq, decide_eq_false_iff_not] at hc0
   rw [if_neg hc0]
   refine WC.skip ?_
   refine WC.sr ?_
   refine WL.val (V.move (OV.p rfl)) rfl ?_
   refine WL.val (V.move (OV.p rfl)) rfl ?_
   refine WL.val (V.min (OV.p rfl) (OV.p rfl)) rfl ?_
   refine WL.val (V.assign (OV.p rfl)) rfl ?_
   refine WL.nil ?_
   refine WC.ret ?_
   exact BodyQ.ret (H' := F) (Res.tmp rfl rfl) (fun w h => h) ⟨rfl, rfl⟩
theorem ref_blank {m : Nat} (hm : m ≤ 1000000) : Does Tryz.prog 57 #[.int .i64 (m : Int)] K F (fun v H' => ∃ g, v = .agg #[.slice (some ⟨g, 0, none⟩) m m, .slice none 0 0] ∧ H' = Cells g 5 (ints .u8 (List.replicate m 255)) :: F) := by
  refine Does.enter Tryz.func57 rfl Tryz.ntmps57 rfl ?_
  simp only [env0, Nat.reduceAdd]
  refine WC.sr ?_
  refine WL.alloc (cs := [(.slice none 0 0), (.slice none 0 0)]) Tryz.zeroValue102 rfl rfl (fun b2 => ?_)
  refine WL.nil ?_
  refine WC.sr ?_
  refine WL.val (V.move (OV.p rfl)) rfl ?_
  refine WL.make1 (m := m) Tryz.underlying38 el5 (OV.p rfl) (OV.p rfl) (by omega) (by omega) (by omega) rfl rfl rfl (fun b6 => ?_)
  refine WL.val (V.assign (OV.p rfl)) rfl ?_
  refine WL.nil ?_
  refine WC.seq ?_
  refine WC.sr ?_
  refine WL.val (V.assign (OV.p rfl)) rfl ?_
  refine WL.nil ?_
  refine WC.block ?_
  refine WC.loop (σ := Nat) (fun i => [(0, .int .i64 (m : Int)), (2, ptr b2 0), (3, .slice (some ⟨b6, 0, none⟩) m m), (4, .int .i64 (i : Int))]) (fun i => Cells b6 5 (ints .u8 (List.replicate i 255 ++ List.replicate (m - i) 0)) :: Cells b2 102 [.slice none 0 0, .slice none 0 0] :: F) (fun i => i ≤ m) (fun i => m - i) 0 (Nat.zero_le _) (.cons rfl (.cons rfl (.cons rfl (.cons rfl (.nil _))))) (fun w h => Sat.cells_eq h (by simp [ints])) ?_
  rintro i hi
  refine WC.seq ?_
  refine WC.sr ?_
  refine WL.val (V.move (OV.p rfl)) rfl ?_
  refine WL.val (V.move (OV.p rfl)) rfl ?_
  refine WL.val (V.lss (OV.p rfl) (OV.p rfl)) rfl ?_
  refine WL.nil ?_
  refine WC.cond rfl (fun hc0 => ?_) (fun hc0 => ?_)
  ·simp only [decide_eq_true_eq, decide_eq_false_iff_not] at hc0
   refine WC.skip ?_
   refine WC.seq ?_
   refine WC.block ?_
   refine WC.region ?_
   refine WL.val (V.move (OV.p rfl)) rfl ?_
   refine WL.val (V.move (OV.p rfl)) rfl ?_
   refine WL.val (V.idxB st38 (OV.p rfl) (OV.p rfl) (fun hc => by omega)) rfl ?_
   refine WL.store (cs := [_]) Tryz.sizeOf5 (OV.p rfl) (OV.p rfl) rfl rfl rfl (Upd.at_ (by simp [ints]; omega)) ?_
   refine WL.nil ?_
   refine WC.region ?_
   refine WL.val (V.move (OV.p rfl)) rfl ?_
   refine WL.val (V.addI (OV.p rfl) (OV.p rfl) (fun hc => by first | omega | (simp at hc; omega))) rfl ?_
   refine WL.val (V.assign (OV.p rfl)) rfl ?_
   refine WL.nil ?_
   refine ⟨rfl, ?_⟩
   refine ⟨i + 1, (by show i + 1 ≤ m; omega), (by show m - (i + 1) < m - i; omega), .cons rfl (.cons rfl (.cons rfl (.cons (look_eq rfl (by simp)) (.nil _)))), fun w h => Sat.cells_eq h ?_⟩
   rw [show 0 + (i : Int).toNat * 1 = i by omega, show m - i = (m - (i + 1)) + 1 by omega]
   unfold ints
   rw [List.map_append, List.map_append, List.set_append_right _ _ (by simp), List.length_map, List.length_replicate, Nat.sub_self, List.replicate_succ, List.map_cons, List.set_cons_zero, List.replicate_succ', List.map_append]
   simp
  ·simp only [decide_eq_true_eq, decide_eq_false_iff_not] at hc0
   refine WC.exit ?_
   refine WC.sr ?_
   refine WL.val (V.move (OV.p rfl)) rfl ?_
   refine WL.val (V.build (vs := [(0, _)]) ⟨OV.p rfl, trivial⟩ rfl (bld102_0 _ _ _)) rfl ?_
   refine WL.store (cs := [_, _]) Tryz.sizeOf102 (OV.p rfl) (OV.p rfl) rfl rfl rfl (by repeat (first | exact Upd.here rfl rfl | apply Upd.up)) ?_
   refine WL.nil ?_
   refine WC.ret ?_
   obtain rfl : i = m := by omega
   refine BodyQ.normal (H' := Cells b6 5 (ints .u8 (List.replicate i 255)) :: F) (Res.one rfl (R1.cellA (vs := [_, _]) rfl ⟨Tryz.isAgg102, Tryz.sizeOf102⟩ rfl (by repeat (first | exact Rds.gets ⟨rfl, rfl, trivial⟩ | apply Rds.up)))) (fun w h => ?_) ⟨b6, rfl, rfl⟩
   have h' := h.sel 2 [0] rfl
   rw [Nat.sub_self, List.replicate_zero, List.append_nil] at h'
   exact h'
end
end Go.Proofs.YtohkefolnmcjnaaGreat
