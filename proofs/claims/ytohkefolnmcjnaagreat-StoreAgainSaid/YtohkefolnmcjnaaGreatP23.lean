import Derived.Test.YtohkefolnmcjnaaGreatP22
/- attach: Pick, Stale. -/
namespace Go.Proofs.YtohkefolnmcjnaaGreat
open Go.Sl Go.RowKit
set_option linter.unusedVariables false
set_option linter.unusedSimpArgs false
set_option maxRecDepth 20000

/-- The greatest of the first i + 1. -/
def mxTo (c : Fd → Fd → Int) (fs : List Fd) : Nat → Fd
  | 0 => fs.getD 0 fd0
  | i + 1 => if 0 < c (fs.getD (i + 1) fd0) (mxTo c fs i) then fs.getD (i + 1) fd0 else mxTo c fs i
def lastB (l : List Fd) : Int := match l.getLast? with | none => -1 | some x => x.block
def pickF (lebs : Nat) (fs : List Fd) : List Int := (rowsF lebs fs).map fun l => lastB (isort (ltOf cmpN) l)
def nextF (fs : List Fd) : Int := if fs.length = 0 then 1 else (mxTo cmpM fs (fs.length - 1)).hd.num + 1
def staleF (lebs : Nat) (fs : List Fd) : List (List Int) := (rowsF lebs fs).map fun l => (isort (ltOf cmpS) (isort (ltOf cmpN) l).dropLast).map Fd.block
theorem pickF_length (lebs : Nat) (fs : List Fd) : (pickF lebs fs).length = lebs := by unfold pickF; rw [List.length_map, rowsF_length]
theorem staleF_length (lebs : Nat) (fs : List Fd) : (staleF lebs fs).length = lebs := by unfold staleF; rw [List.length_map, rowsF_length]
/-! ### Rows of numbers -/
structure IRow where
  A : Option Addr
  c : Nat
  l : List Int
abbrev IRow.v (x : IRow) : Value := .slice x.A x.l.length x.c
def IRow.row (x : IRow) : Assn := SlA (.slice x.A x.l.length x.c) 3 1 x.l.length (ints .i64 x.l)
def ir0 : IRow := ⟨none, 0, []⟩
theorem Rd.inAll {K : World} {l H : List Assn} {A : Assn} {p : Option Addr} {v : Value} (hA : A ∈ l) (h : Rd K [A] p v) : Rd K (AllA l :: H) p v := fun w hw => h w (hw.memA hA)
theorem FRow.rd {K : World} {r : FRow} {i j : Nat} {x : Fd} {v : Value} (hi : r.l[i]? = some x) (hj : x.cells[j]? = some v) : Rd K [r.row] (r.A.map (·.add (i * 5 + j))) v := by
  have h : Seq K [r.row] r.A r.l.length 5 (flatF r.l) := SlA.seq (flatF_length _)
  exact found_rd h hi hj
section
variable {K : World} {F : List Assn}
theorem max_found {f : Nat} {c : Fd → Fd → Int} (hf : CmpIs f c) {A : Option Addr} {n cap : Nat} {fs : List Fd} (hs : Seq K F A n 5 (flatF fs)) (hn : fs.length = n) (h0 : 0 < n) (hn2 : n ≤ 1000000) :
    Tells Tryz.prog 130 #[.slice A n cap, .func (.func f) #[] #[]] K F (mxTo c fs (n - 1)).v := by
  have hel : ∀ {X : List Assn} (k : Nat), k < n → (∀ w, Sat K w X → Sat K w F) → ∀ (j : Nat) v, (fs.getD k fd0).cells[j]? = some v → Rd K X (A.map (·.add (k * 5 + j))) v := fun k hk hX j v hj => by
    have hx : fs[k]? = some (fs.getD k fd0) := by simp [List.getD, show k < fs.length by omega]
    exact found_rd (hs.sat hX) hx hj
  have hup : ∀ {X : Assn} {Y : List Assn}, (∀ w, Sat K w Y → Sat K w F) → ∀ w, Sat K w (X :: Y) → Sat K w F := fun h w hw => h w hw.tail
  refine Does.enter Tryz.func130 rfl Tryz.ntmps130 rfl ?_
  simp only [env0, Nat.reduceAdd]
  refine WC.sr ?_
  refine WL.alloc (cs := [(.int .i64 0), (.int .i64 0), (.int .i64 0), (.int .i64 0), (.bool false)]) Tryz.zeroValue167 rfl rfl (fun b4 => ?_)
  refine WL.nil ?_
  refine WC.seq ?_
  refine WC.sr ?_
  refine WL.val (V.move (OV.p rfl)) rfl ?_
  refine WL.val (V.len (t := 133) Tryz.runUnderlying133 (OV.p rfl)) rfl ?_
  refine WL.val (V.lss (OV.p rfl) (OV.p rfl)) rfl ?_
  refine WL.nil ?_
  refine WC.condF' rfl ((decide_eq_false (by omega))) ?_
  refine WC.skip ?_
  refine WC.sr ?_
  refine WL.val (V.move (OV.p rfl)) rfl ?_
  refine WL.val (V.val_eq (v' := sp A (0 * 5)) (V.idxS st133 (OV.p rfl) (OV.p rfl) (fun hc => by omega) (fun hc => by rw [show ((0 : Int)).toNat = 0 from rfl]; exact hel 0 h0 (by repeat (first | exact (fun w h => h) | apply hup)) 0 _ rfl)) (fun _ => rfl)) rfl ?_
  refine WL.val (V.loadS (vs := (fs.getD 0 fd0).cells) ⟨Tryz.isAgg167, Tryz.sizeOf167⟩ (OV.p rfl) rfl (by decide) (fun _ j v hj => by exact hel 0 h0 (by repeat (first | exact (fun w h => h) | apply hup)) j v hj)) rfl ?_
  refine WL.alloc (cs := [(.int .i64 0), (.int .i64 0), (.int .i64 0), (.int .i64 0), (.bool false)]) Tryz.zeroValue167 rfl rfl (fun b5 => ?_)
  refine WL.store (cs := [_, _, _, _, _]) Tryz.sizeOf167 (OV.p rfl) (OV.p rfl) rfl rfl rfl (by repeat (first | exact Upd.here (cs' := [_, _, _, _, _]) rfl rfl | apply Upd.up)) ?_
  refine WL.nil ?_
  refine WC.seq ?_
  refine WC.sr ?_
  refine WL.val (V.assign (OV.p rfl)) rfl ?_
  refine WL.nil ?_
  refine WC.block ?_
  refine WC.loop (σ := Nat) (fun i => [(0, .slice A n cap), (1, .func (.func f) #[] #[]), (4, ptr b4 0), (5, ptr b5 0), (6, .int .i64 ((i + 1 : Nat) : Int))]) (fun i => Cells b5 167 (mxTo c fs i).cells :: Cells b4 167 [.int .i64 0, .int .i64 0, .int .i64 0, .int .i64 0, .bool false] :: F) (fun i => i < n) (fun i => n - i) 0 h0 (.cons rfl (.cons rfl (.cons rfl (.cons rfl (.cons rfl (.nil _)))))) (fun w h => h) ?_
  rintro i hi
  obtain ⟨m, hm⟩ : ∃ m, m = mxTo c fs i := ⟨_, rfl⟩
  rw [← hm]
  refine WC.seq ?_
  refine WC.sr ?_
  refine WL.val (V.move (OV.p rfl)) rfl ?_
  refine WL.val (V.move (OV.p rfl)) rfl ?_
  refine WL.val (V.len (t := 133) Tryz.runUnderlying133 (OV.p rfl)) rfl ?_
  refine WL.val (V.lss (OV.p rfl) (OV.p rfl)) rfl ?_
  refine WL.nil ?_
  refine WC.cond rfl (fun hc1 => ?_) (fun hc1 => ?_)
  ·simp only [decide_eq_true_eq, decide_eq_false_iff_not] at hc1
   have hi1 : i + 1 < n := by omega
   obtain ⟨x, hx⟩ : ∃ x, x = fs.getD (i + 1) fd0 := ⟨_, rfl⟩
   have hti : (((i + 1 : Nat) : Int)).toNat = i + 1 := by omega
   have hxe : ∀ {X : List Assn}, (∀ w, Sat K w X → Sat K w F) → ∀ (j : Nat) v, x.cells[j]? = some v → Rd K X (A.map (·.add ((i + 1) * 5 + j))) v := fun hX j v hj => hel (i + 1) hi1 hX j v (by rw [← hx]; exact hj)
   have hst : mxTo c fs (i + 1) = if 0 < c x m then x else m := by rw [mxTo, ← hx, ← hm]
   refine WC.skip ?_
   refine WC.seq ?_
   refine WC.block ?_
   refine WC.seq ?_
   refine WC.regionQ (by kernel_rfl) (by kernel_rfl) ?_
   refine WQ.val (V.move (OV.p rfl)) rfl ?_
   refine WQ.val (V.move (OV.p rfl)) rfl ?_
   refine WQ.val (V.move (OV.p rfl)) rfl ?_
   refine WQ.val (V.val_eq (v' := sp A ((i + 1) * 5)) (V.idxS st133 (OV.p rfl) (OV.p rfl) (fun hc => by omega) (fun hc => by rw [hti]; exact hxe (by repeat (first | exact (fun w h => h) | apply hup)) 0 _ rfl)) (fun _ => by rw [hti])) rfl ?_
   refine WQ.val (V.loadS (vs := x.cells) ⟨Tryz.isAgg167, Tryz.sizeOf167⟩ (OV.p rfl) rfl (by decide) (fun _ j v hj => by exact hxe (by repeat (first | exact (fun w h => h) | apply hup)) j v hj)) rfl ?_
   refine WQ.val (V.loadA (vs := [_, _, _, _, _]) ⟨Tryz.isAgg167, Tryz.sizeOf167⟩ (OV.p rfl) rfl (fun _ => by repeat (first | exact Rds.gets ⟨rfl, rfl, rfl, rfl, rfl, trivial⟩ | apply Rds.up))) rfl ?_
   refine WQ.callV (first := []) (vs := [_, _]) (captured := []) hf.1 (OV.p rfl) ⟨OV.p rfl, OV.p rfl, trivial⟩ (hf.2 _ _ x m) rfl ?_
   refine WQ.val (V.gtr (OV.p rfl) (OV.p rfl)) rfl ?_
   refine WQ.nil ?_
   refine WC.cond rfl (fun hc2 => ?_) (fun hc2 => ?_)
   ·simp only [decide_eq_true_eq, decide_eq_false_iff_not] at hc2
    have h2 := hc2
    rw [if_pos h2] at hst
    refine WC.region ?_
    refine WL.val (V.move (OV.p rfl)) rfl ?_
    refine WL.val (V.move (OV.p rfl)) rfl ?_
    refine WL.val (V.val_eq (v' := sp A ((i + 1) * 5)) (V.idxS st133 (OV.p rfl) (OV.p rfl) (fun hc => by omega) (fun hc => by rw [hti]; exact hxe (by repeat (first | exact (fun w h => h) | apply hup)) 0 _ rfl)) (fun _ => by rw [hti])) rfl ?_
    refine WL.val (V.loadS (vs := x.cells) ⟨Tryz.isAgg167, Tryz.sizeOf167⟩ (OV.p rfl) rfl (by decide) (fun _ j v hj => by exact hxe (by repeat (first | exact (fun w h => h) | apply hup)) j v hj)) rfl ?_
    refine WL.store (cs := x.cells) Tryz.sizeOf167 (OV.p rfl) (OV.p rfl) rfl rfl rfl (by repeat (first | exact Upd.here (cs' := [_, _, _, _, _]) rfl rfl | apply Upd.up)) ?_
    refine WL.nil ?_
    refine WC.region ?_
    refine WL.val (V.move (OV.p rfl)) rfl ?_
    refine WL.val (V.addI (OV.p rfl) (OV.p rfl) (fun hc => by first | omega | (simp at hc; omega))) rfl ?_
    refine WL.val (V.assign (OV.p rfl)) rfl ?_
    refine WL.nil ?_
    refine ⟨rfl, ?_⟩
    refine ⟨i + 1, hi1, (by show n - (i + 1) < n - i; omega), .cons rfl (.cons rfl (.cons rfl (.cons rfl (.cons (look_eq rfl (by simp)) (.nil _))))), fun w h => ?_⟩
    dsimp only
    rw [hst]
    exact h
   ·simp only [decide_eq_true_eq, decide_eq_false_iff_not] at hc2
    have h2 := hc2
    rw [if_neg (by omega)] at hst
    refine WC.skip ?_
    refine WC.region ?_
    refine WL.val (V.move (OV.p rfl)) rfl ?_
    refine WL.val (V.addI (OV.p rfl) (OV.p rfl) (fun hc => by first | omega | (simp at hc; omega))) rfl ?_
    refine WL.val (V.assign (OV.p rfl)) rfl ?_
    refine WL.nil ?_
    refine ⟨rfl, ?_⟩
    refine ⟨i + 1, hi1, (by show n - (i + 1) < n - i; omega), .cons rfl (.cons rfl (.cons rfl (.cons rfl (.cons (look_eq rfl (by simp)) (.nil _))))), fun w h => ?_⟩
    dsimp only
    rw [hst]
    exact h
  ·simp only [decide_eq_true_eq, decide_eq_false_iff_not] at hc1
   refine WC.exit ?_
   refine WC.sr ?_
   refine WL.val (V.loadA (vs := [_, _, _, _, _]) ⟨Tryz.isAgg167, Tryz.sizeOf167⟩ (OV.p rfl) rfl (fun _ => by repeat (first | exact Rds.gets ⟨rfl, rfl, rfl, rfl, rfl, trivial⟩ | apply Rds.up))) rfl ?_
   refine WL.store (cs := [_, _, _, _, _]) Tryz.sizeOf167 (OV.p rfl) (OV.p rfl) rfl rfl rfl (by repeat (first | exact Upd.here rfl rfl | apply Upd.up)) ?_
   refine WL.nil ?_
   refine WC.ret ?_
   obtain rfl : i = n - 1 := by omega
   rw [← hm]
   exact BodyQ.normal (H' := F) (Res.one rfl (R1.cellA (vs := [_, _, _, _, _]) rfl ⟨Tryz.isAgg167, Tryz.sizeOf167⟩ rfl (by repeat (first | exact Rds.gets ⟨rfl, rfl, rfl, rfl, rfl, trivial⟩ | apply Rds.up)))) (fun w h => h.drop 2) ⟨rfl, rfl⟩
theorem attach_Pick {lebs n cap : Nat} {A : Option Addr} {fs : List Fd} (hl : 1 ≤ lebs ∧ lebs ≤ 64) (hs : Seq K F A n 5 (flatF fs)) (hn : fs.length = n) (h20 : n < 20) (hnum : ∀ x ∈ fs, x.hd.num ≤ 1000000001 ∧ 0 ≤ x.hd.num) :
    Does Tryz.prog 93 #[.int .i64 (lebs : Int), .slice A n cap] K F
      (fun v H' => ∃ A' c', v = .tuple #[.slice A' lebs c', .int .i64 (nextF fs), .int .i64 0] ∧ H' = SlA (.slice A' lebs c') 3 1 lebs (ints .i64 (pickF lebs fs)) :: F) := by
  obtain ⟨pk, hpk⟩ : ∃ pk, pk = pickF lebs fs := ⟨_, rfl⟩
  have hpl : pk.length = lebs := by rw [hpk]; exact pickF_length _ _
  refine Does.enter Tryz.func93 rfl Tryz.ntmps93 rfl ?_
  simp only [env0, Nat.reduceAdd]
  refine WC.sr ?_
  refine WL.val (V.assign (OV.p rfl)) rfl ?_
  refine WL.val (V.assign (OV.p rfl)) rfl ?_
  refine WL.val (V.assign (OV.p rfl)) rfl ?_
  refine WL.nil ?_
  refine WC.sr ?_
  refine WL.val (V.move (OV.p rfl)) rfl ?_
  refine WL.val (V.move (OV.p rfl)) rfl ?_
  refine WL.call (vs := [_, _, _]) Tryz.call128 ⟨OV.p rfl, OV.p rfl, OV.p rfl, trivial⟩ (attach_whole byNumber_is hl hs hn h20) rfl ?_
  rintro _ _ ⟨bo, rs, hrl, hrs, rfl, rfl⟩
  have hpr : ∀ j r, rs[j]? = some r → pk.getD j 0 = lastB r.l ∧ j < lebs := fun j r hj => by
    have h1 : (rs.map FRow.l)[j]? = some r.l := by rw [List.getElem?_map, hj]; rfl
    have hjl : j < lebs := by rw [← hrl]; exact (List.getElem?_eq_some_iff.1 hj).1
    refine ⟨?_, hjl⟩
    rw [hrs] at h1
    simp only [List.getElem?_map, rowsF, List.getElem?_range hjl, Option.map_some] at h1
    injection h1 with h1
    rw [hpk]
    unfold pickF
    simp only [List.getD, List.getElem?_map, rowsF, List.getElem?_range hjl, Option.map_some, Option.getD_some]
    rw [h1]
  refine WL.val (V.move (OV.p rfl)) rfl ?_
  refine WL.val (V.extract (OV.p rfl) rfl) rfl ?_
  refine WL.val (V.extract (OV.p rfl) rfl) rfl ?_
  refine WL.val (V.assign (OV.p rfl)) rfl ?_
  refine WL.val (V.assign (OV.p rfl)) rfl ?_
  refine WL.nil ?_
  refine WC.seq ?_
  refine WC.sr ?_
  refine WL.val (V.move (OV.p rfl)) rfl ?_
  refine WL.val (V.neq (OV.p rfl) (OV.p rfl)) rfl ?_
  refine WL.nil ?_
  refine WC.condF' rfl (by first | rfl | (simp; done) | (simp; omega)) ?_
  refine WC.skip ?_
  refine WC.sr ?_
  refine WL.val (V.assign (OV.p rfl)) rfl ?_
  refine WL.nil ?_
  refine WC.seq ?_
  refine WC.sr ?_
  refine WL.val (V.move (OV.p rfl)) rfl ?_
  refine WL.val (V.len (t := 168) Tryz.runUnderlying168 (OV.p rfl)) rfl ?_
  refine WL.val (V.move (OV.p rfl)) rfl ?_
  refine WL.nil ?_
  refine WC.block ?_
  refine WC.loop (σ := Nat × Option Addr × Nat) (fun s => [(1, .slice A n cap), (9, .slice s.2.1 s.1 s.2.2), (22, .slice (some ⟨bo, 0, none⟩) lebs lebs), (23, .int .i64 (lebs : Int)), (24, .int .i64 (s.1 : Int))]) (fun s => SlA (.slice s.2.1 s.1 s.2.2) 3 1 s.1 (ints .i64 (pk.take s.1)) :: Cells bo 133 (rs.map FRow.v) :: AllA (rs.map FRow.row) :: F) (fun s => s.1 ≤ lebs) (fun s => lebs - s.1) (0, none, 0) (Nat.zero_le _) (.cons rfl (.cons rfl (.cons rfl (.cons rfl (.cons rfl (.nil _)))))) (fun w h => Sat.slNil h _ _) ?_
  rintro ⟨j, Ao, co⟩ hj
  dsimp only at hj ⊢
  refine WC.sr ?_
  refine WL.val (V.lss (OV.p rfl) (OV.p rfl)) rfl ?_
  refine WL.nil ?_
  refine WC.seq ?_
  refine WC.cond rfl (fun hc1 => ?_) (fun hc1 => ?_)
  ·simp only [decide_eq_true_eq, decide_eq_false_iff_not] at hc1
   have hjl : j < lebs := by omega
   obtain ⟨r, hr⟩ : ∃ r, rs[j]? = some r := ⟨_, List.getElem?_eq_getElem (by omega)⟩
   have hvg : (rs.map FRow.v)[0 + ((j : Nat) : Int).toNat * 1]? = some r.v := by rw [show 0 + ((j : Nat) : Int).toNat * 1 = j by omega, List.getElem?_map, hr]; rfl
   have hmem : r.row ∈ rs.map FRow.row := List.mem_map.2 ⟨r, List.mem_of_getElem? hr, rfl⟩
   have htk : pk.take (j + 1) = pk.take j ++ [lastB r.l] := by rw [List.take_add_one, List.getElem?_eq_getElem (by omega), ← (hpr j r hr).1]; simp [List.getD, show j < pk.length by omega]
   refine WC.skip ?_
   refine WC.seq ?_
   refine WC.block ?_
   refine WC.sr ?_
   refine WL.val (V.idxB st168 (OV.p rfl) (OV.p rfl) (fun hc => by omega)) rfl ?_
   refine WL.val (V.load Tryz.isAgg133 (OV.p rfl) (fun _ => by repeat (first | exact Rd.here hvg | apply Rd.up))) rfl ?_
   refine WL.val (V.assign (OV.p rfl)) rfl ?_
   refine WL.nil ?_
   refine WC.sr ?_
   refine WL.val (V.move (OV.p rfl)) rfl ?_
   refine WL.val (V.len (t := 133) Tryz.runUnderlying133 (OV.p rfl)) rfl ?_
   refine WL.val (V.eql (OV.p rfl) (OV.p rfl)) rfl ?_
   refine WL.nil ?_
   refine WC.cond rfl (fun hc2 => ?_) (fun hc2 => ?_)
   ·simp only [decide_eq_true_eq, decide_eq_false_iff_not] at hc2
    have h2 := hc2
    have hlast : lastB r.l = -1 := by
      have : r.l = [] := List.eq_nil_of_length_eq_zero (by omega)
      unfold lastB; rw [this]; rfl
    refine WC.region ?_
    refine WL.val (V.move (OV.p rfl)) rfl ?_
    refine WL.buildSlice (E := 3) (cs := [_]) (vs := [(0, _)]) ⟨OV.p rfl, trivial⟩ rfl (bsl42_1_0 _) rfl (fun b32 => ?_)
    refine WL.sub (Sub.refl _) (fun w h => h.p1) ?_
    refine WL.append (m := j) (q := 1) (news := [.int .i64 (-1)]) Tryz.underlying42 el3 (OV.p rfl) (OV.p rfl) (Seq.all rfl) (by intro u hu; rw [List.mem_singleton.1 hu]; rfl) (by omega) rfl rfl (fun A5 c5 hA5 hc5 => ?_)
    refine WL.val (V.assign (OV.p rfl)) rfl ?_
    refine WL.nil ?_
    refine WC.region ?_
    refine WL.val (V.addI (OV.p rfl) (OV.p rfl) (fun hc => by first | omega | (simp at hc; omega))) rfl ?_
    refine WL.val (V.move (OV.p rfl)) rfl ?_
    refine WL.nil ?_
    refine ⟨rfl, ?_⟩
    refine ⟨(j + 1, A5, c5), hjl, (by show lebs - (j + 1) < lebs - j; omega), .cons rfl (.cons rfl (.cons rfl (.cons rfl (.cons (look_eq rfl (by simp)) (.nil _))))), fun w h => ?_⟩
    dsimp only
    rw [htk, hlast, ints_append]
    exact h.sel 2 [0] rfl
   ·simp only [decide_eq_true_eq, decide_eq_false_iff_not] at hc2
    have h2 := hc2
    obtain ⟨x, hx⟩ : ∃ x, r.l[r.l.length - 1]? = some x := ⟨_, List.getElem?_eq_getElem (by omega)⟩
    have hlast : lastB r.l = x.block := by unfold lastB; rw [List.getLast?_eq_getElem?, hx]
    have hrx : ∀ (i : Nat) v, x.cells[i]? = some v → ∀ {X : List Assn}, Rd K (AllA (rs.map FRow.row) :: X) (r.A.map (·.add ((r.l.length - 1) * 5 + i))) v := fun i v hi X => Rd.inAll hmem (FRow.rd hx hi)
    have hri : ((r.l.length : Int) - 1).toNat = r.l.length - 1 := by omega
    have hrll : r.l.length ≤ 1000000 := by
      have h3 : (rs.map FRow.l)[j]? = some r.l := by rw [List.getElem?_map, hr]; rfl
      rw [hrs] at h3
      simp only [rowsF, List.getElem?_map, List.getElem?_range hjl, Option.map_some] at h3
      injection h3 with h3
      rw [← h3, isort_length]
      exact Nat.le_trans (List.length_filter_le _ _) (by omega)
    refine WC.region ?_
    refine WL.val (V.move (OV.p rfl)) rfl ?_
    refine WL.val (V.move (OV.p rfl)) rfl ?_
    refine WL.val (V.move (OV.p rfl)) rfl ?_
    refine WL.val (V.len (t := 133) Tryz.runUnderlying133 (OV.p rfl)) rfl ?_
    refine WL.val (V.subI (OV.p rfl) (OV.p rfl) (fun hc => by first | omega | (simp at hc; omega))) rfl ?_
    refine WL.val (V.val_eq (v' := sp r.A ((r.l.length - 1) * 5)) (V.idxS st133 (OV.p rfl) (OV.p rfl) (fun hc => by omega) (fun hc => by rw [hri]; repeat (first | exact hrx 0 _ rfl | apply Rd.up))) (fun _ => by rw [hri])) rfl ?_
    refine WL.val (V.fieldS (k' := (r.l.length - 1) * 5) fo167_0 (OV.p rfl) (fun _ => by repeat (first | exact hrx 0 _ rfl | apply Rd.up))) rfl ?_
    refine WL.val (V.load Tryz.isAgg3 (OV.p rfl) (fun _ => by repeat (first | exact hrx 0 _ rfl | apply Rd.up))) rfl ?_
    refine WL.buildSlice (E := 3) (cs := [_]) (vs := [(0, _)]) ⟨OV.p rfl, trivial⟩ rfl (bsl42_1_0 _) rfl (fun b42 => ?_)
    refine WL.sub (Sub.refl _) (fun w h => h.p1) ?_
    refine WL.append (m := j) (q := 1) (news := [.int .i64 x.block]) Tryz.underlying42 el3 (OV.p rfl) (OV.p rfl) (Seq.all rfl) (by intro u hu; rw [List.mem_singleton.1 hu]; rfl) (by omega) rfl rfl (fun A5 c5 hA5 hc5 => ?_)
    refine WL.val (V.assign (OV.p rfl)) rfl ?_
    refine WL.nil ?_
    refine WC.region ?_
    refine WL.val (V.addI (OV.p rfl) (OV.p rfl) (fun hc => by first | omega | (simp at hc; omega))) rfl ?_
    refine WL.val (V.move (OV.p rfl)) rfl ?_
    refine WL.nil ?_
    refine ⟨rfl, ?_⟩
    refine ⟨(j + 1, A5, c5), hjl, (by show lebs - (j + 1) < lebs - j; omega), .cons rfl (.cons rfl (.cons rfl (.cons rfl (.cons (look_eq rfl (by simp)) (.nil _))))), fun w h => ?_⟩
    dsimp only
    rw [htk, hlast, ints_append]
    exact h.sel 2 [0] rfl
  ·simp only [decide_eq_true_eq, decide_eq_false_iff_not] at hc1
   refine WC.exit ?_
   refine WC.seq ?_
   refine WC.seq ?_
   obtain rfl : j = lebs := by omega
   rw [List.take_of_length_le (by omega), hpk]
   refine WC.sub (Sub.refl _) (fun w h => h.sel 3 [0] rfl) ?_
   refine WC.region ?_
   refine WL.val (V.move (OV.p rfl)) rfl ?_
   refine WL.val (V.len (t := 133) Tryz.runUnderlying133 (OV.p rfl)) rfl ?_
   refine WL.val (V.eql (OV.p rfl) (OV.p rfl)) rfl ?_
   refine WL.nil ?_
   refine WC.cond rfl (fun hc3 => ?_) (fun hc3 => ?_)
   ·simp only [decide_eq_true_eq, decide_eq_false_iff_not] at hc3
    have h3 := hc3
    have hnx : nextF fs = 1 := by unfold nextF; rw [if_pos (by omega)]
    refine WC.sr ?_
    refine WL.val (V.move (OV.p rfl)) rfl ?_
    refine WL.val (V.assign (OV.p rfl)) rfl ?_
    refine WL.val (V.assign (OV.p rfl)) rfl ?_
    refine WL.val (V.assign (OV.p rfl)) rfl ?_
    refine WL.nil ?_
    refine WC.ret ?_
    rw [hnx]
    exact BodyQ.ret (H' := SlA (.slice Ao j co) 3 1 j (ints .i64 (pickF j fs)) :: F) (Res.tmp3 rfl rfl rfl rfl) (fun w h => h) ⟨Ao, co, rfl, rfl⟩
   ·simp only [decide_eq_true_eq, decide_eq_false_iff_not] at hc3
    have h3 := hc3
    have hnx : nextF fs = (mxTo cmpM fs (n - 1)).hd.num + 1 := by unfold nextF; rw [if_neg (by omega), hn]
    have hmem : ∀ k, k < n → mxTo cmpM fs k ∈ fs := fun k => by
      induction k with
      | zero => intro hk; show fs.getD 0 fd0 ∈ fs; simp only [List.getD, List.getElem?_eq_getElem (show 0 < fs.length by omega)]; exact List.getElem_mem _
      | succ k ih =>
        intro hk
        rw [mxTo]
        split
        · simp only [List.getD, List.getElem?_eq_getElem (show k + 1 < fs.length by omega)]; exact List.getElem_mem _
        · exact ih (by omega)
    have hmb := hnum _ (hmem (n - 1) (by omega))
    refine WC.skip ?_
    refine WC.sr ?_
    refine WL.val (V.move (OV.p rfl)) rfl ?_
    refine WL.call (vs := [_, _]) Tryz.call130 ⟨OV.p rfl, OV.p rfl, trivial⟩ (max_found pick1_is (by repeat (first | exact hs | apply Seq.up)) hn (by omega) (by omega)) rfl ?_
    rintro _ H0 ⟨rfl, h0⟩
    subst H0
    refine WL.alloc (cs := [(.int .i64 0), (.int .i64 0), (.int .i64 0), (.int .i64 0), (.bool false)]) Tryz.zeroValue167 rfl rfl (fun b12 => ?_)
    refine WL.store (cs := [_, _, _, _, _]) Tryz.sizeOf167 (OV.p rfl) (OV.p rfl) rfl rfl rfl (by repeat (first | exact Upd.here (cs' := [_, _, _, _, _]) rfl rfl | apply Upd.up)) ?_
    refine WL.nil ?_
    refine WC.seq ?_
    refine WC.regionQ (by kernel_rfl) (by kernel_rfl) ?_
    refine WQ.val (V.move (OV.p rfl)) rfl ?_
    refine WQ.val (V.fieldAddr fo167_1 (OV.p rfl)) rfl ?_
    refine WQ.val (V.fieldAddr fo129_2 (OV.p rfl)) rfl ?_
    refine WQ.val (V.load Tryz.isAgg3 (OV.p rfl) (fun _ => by repeat (first | exact Rd.here rfl | apply Rd.up))) rfl ?_
    refine WQ.val (V.addI (OV.p rfl) (OV.p rfl) (fun hc => by first | omega | (simp at hc; omega))) rfl ?_
    refine WQ.val (V.assign (OV.p rfl)) rfl ?_
    refine WQ.val (V.assign (OV.p rfl)) rfl ?_
    refine WQ.val (V.assign (OV.p rfl)) rfl ?_
    refine WQ.nil ?_
    refine WC.ret ?_
    rw [hnx]
    exact BodyQ.ret (H' := SlA (.slice Ao j co) 3 1 j (ints .i64 (pickF j fs)) :: F) (Res.tmp3 rfl rfl rfl rfl) (fun w h => h.drop 1) ⟨Ao, co, rfl, rfl⟩
end
end Go.Proofs.YtohkefolnmcjnaaGreat
/- attach: Stale. -/
namespace Go.Proofs.YtohkefolnmcjnaaGreat
open Go.Sl Go.RowKit
set_option linter.unusedVariables false
set_option linter.unusedSimpArgs false
set_option maxRecDepth 20000

theorem slA_init {K : World} {F : List Assn} {A : Option Addr} {m cap : Nat} {l : List Fd} (hm : l.length = m) (h0 : 0 < m) : ∀ w, Sat K w (SlA (.slice A m cap) 167 5 m (flatF l) :: F) → Sat K w (SlA (.slice A (m - 1) cap) 167 5 (m - 1) (flatF l.dropLast) :: F) := fun w h => by
  cases A with
  | none => have := (SlA.nilCs h).1; omega
  | some a =>
    obtain ⟨g, rfl⟩ := SlA.addr h
    obtain ⟨r, ⟨h1, h2, h3, h4⟩, h5⟩ := Sat.slCells h
    have h6 := Sat.toSl (m := m - 1) (cap := cap) (s := 5) h5 h1 (by omega) h4
    have hne : l ≠ [] := fun e => by rw [e] at hm; simp at hm; omega
    have e1 : flatF l = flatF l.dropLast ++ (l.getLast hne).cells := by
      conv => lhs; rw [← List.dropLast_concat_getLast hne]
      exact flatF_snoc _ _
    have e2 : (flatF l ++ r).take ((m - 1) * 5) = flatF l.dropLast := by
      rw [e1, List.append_assoc, List.take_left']
      rw [flatF_length, List.length_dropLast, hm]
    rw [e2] at h6
    exact h6
section
variable {K : World} {F : List Assn}
theorem attach_Stale {lebs n cap : Nat} {A : Option Addr} {fs : List Fd} (hl : 1 ≤ lebs ∧ lebs ≤ 64) (hs : Seq K F A n 5 (flatF fs)) (hn : fs.length = n) (h20 : n < 20) :
    Does Tryz.prog 94 #[.int .i64 (lebs : Int), .slice A n cap] K F
      (fun v H' => ∃ b8 : Nat, ∃ irs : List IRow, irs.length = lebs ∧ irs.map IRow.l = staleF lebs fs ∧ v = .tuple #[.slice (some ⟨b8, 0, none⟩) lebs lebs, .int .i64 0] ∧ H' = Cells b8 42 (irs.map IRow.v) :: AllA (irs.map IRow.row) :: F) := by
  obtain ⟨st, hst⟩ : ∃ st, st = staleF lebs fs := ⟨_, rfl⟩
  have hstl : st.length = lebs := by rw [hst]; exact staleF_length _ _
  rw [← hst]
  refine Does.enter Tryz.func94 rfl Tryz.ntmps94 rfl ?_
  simp only [env0, Nat.reduceAdd]
  refine WC.sr ?_
  refine WL.val (V.assign (OV.p rfl)) rfl ?_
  refine WL.val (V.assign (OV.p rfl)) rfl ?_
  refine WL.nil ?_
  refine WC.sr ?_
  refine WL.val (V.move (OV.p rfl)) rfl ?_
  refine WL.val (V.move (OV.p rfl)) rfl ?_
  refine WL.call (vs := [_, _, _]) Tryz.call128 ⟨OV.p rfl, OV.p rfl, OV.p rfl, trivial⟩ (attach_whole byNumber_is hl hs hn h20) rfl ?_
  rintro _ _ ⟨bo, rs, hrl, hrs, rfl, rfl⟩
  have hpr : ∀ j r, rs[j]? = some r → st.getD j [] = (isort (ltOf cmpS) r.l.dropLast).map Fd.block ∧ j < lebs ∧ r.l.length ≤ 19 := fun j r hj => by
    have h1 : (rs.map FRow.l)[j]? = some r.l := by rw [List.getElem?_map, hj]; rfl
    have hjl : j < lebs := by rw [← hrl]; exact (List.getElem?_eq_some_iff.1 hj).1
    rw [hrs] at h1
    simp only [List.getElem?_map, rowsF, List.getElem?_range hjl, Option.map_some] at h1
    injection h1 with h1
    refine ⟨?_, hjl, ?_⟩
    · rw [hst]
      unfold staleF
      simp only [List.getD, List.getElem?_map, rowsF, List.getElem?_range hjl, Option.map_some, Option.getD_some]
      rw [h1]
    · rw [← h1, isort_length]
      exact Nat.le_trans (List.length_filter_le _ _) (by omega)
  refine WL.val (V.move (OV.p rfl)) rfl ?_
  refine WL.val (V.extract (OV.p rfl) rfl) rfl ?_
  refine WL.val (V.extract (OV.p rfl) rfl) rfl ?_
  refine WL.val (V.assign (OV.p rfl)) rfl ?_
  refine WL.val (V.assign (OV.p rfl)) rfl ?_
  refine WL.nil ?_
  refine WC.seq ?_
  refine WC.sr ?_
  refine WL.val (V.move (OV.p rfl)) rfl ?_
  refine WL.val (V.neq (OV.p rfl) (OV.p rfl)) rfl ?_
  refine WL.nil ?_
  refine WC.condF' rfl (by first | rfl | (simp; done) | (simp; omega)) ?_
  refine WC.skip ?_
  refine WC.sr ?_
  refine WL.val (V.move (OV.p rfl)) rfl ?_
  refine WL.make1 (m := lebs) Tryz.underlying124 el42 (OV.p rfl) (OV.p rfl) rfl rfl (by omega) rfl rfl rfl (fun b8 => ?_)
  refine WL.val (V.assign (OV.p rfl)) rfl ?_
  refine WL.nil ?_
  refine WC.seq ?_
  refine WC.sr ?_
  refine WL.val (V.move (OV.p rfl)) rfl ?_
  refine WL.val (V.len (t := 168) Tryz.runUnderlying168 (OV.p rfl)) rfl ?_
  refine WL.val (V.move (OV.p rfl)) rfl ?_
  refine WL.nil ?_
  refine WC.block ?_
  refine WC.loop (σ := Nat × List IRow) (fun s => [(8, .slice (some ⟨b8, 0, none⟩) lebs lebs), (24, .slice (some ⟨bo, 0, none⟩) lebs lebs), (25, .int .i64 (lebs : Int)), (26, .int .i64 (s.1 : Int))]) (fun s => Cells b8 42 (s.2.map IRow.v) :: AllA (s.2.map IRow.row) :: Cells bo 133 (rs.map FRow.v) :: AllA ((rs.drop s.1).map FRow.row) :: F) (fun s => s.1 ≤ lebs ∧ s.2.length = lebs ∧ s.2.map IRow.l = st.take s.1 ++ List.replicate (lebs - s.1) []) (fun s => lebs - s.1) (0, List.replicate lebs ir0) ⟨Nat.zero_le _, List.length_replicate, by
    rw [List.map_replicate]; rfl⟩ (.cons rfl (.cons rfl (.cons rfl (.cons rfl (.nil _))))) (fun w h => by
    dsimp only
    rw [List.map_replicate, List.map_replicate]
    have key : ∀ m, ∀ H, Sat K w H → Sat K w (List.replicate m ir0.row ++ H) := fun m => by
      induction m with
      | zero => intro H h; exact h
      | succ m ih => intro H h; exact Sat.slNil (ih H h) _ _
    have h1 : Sat K w (List.replicate lebs ir0.row ++ (Cells b8 42 (List.replicate lebs ir0.v) :: Cells bo 133 (rs.map FRow.v) :: AllA (rs.map FRow.row) :: F)) := key lebs _ h
    exact (Sat.all h1).p1) ?_
  rintro ⟨j, irs⟩ ⟨hj, hil, his⟩
  dsimp only at hj hil his ⊢
  refine WC.sr ?_
  refine WL.val (V.lss (OV.p rfl) (OV.p rfl)) rfl ?_
  refine WL.nil ?_
  refine WC.seq ?_
  refine WC.cond rfl (fun hc1 => ?_) (fun hc1 => ?_)
  ·simp only [decide_eq_true_eq, decide_eq_false_iff_not] at hc1
   have hjl : j < lebs := by omega
   obtain ⟨r, hr⟩ : ∃ r, r = rs[j]'(by omega) := ⟨_, rfl⟩
   have hrg : rs[j]? = some r := by rw [hr]; exact List.getElem?_eq_getElem (by omega)
   obtain ⟨hpv, _, hrll⟩ := hpr j r hrg
   have hvg : (rs.map FRow.v)[0 + ((j : Nat) : Int).toNat * 1]? = some r.v := by rw [show 0 + ((j : Nat) : Int).toNat * 1 = j by omega, List.getElem?_map, hrg]; rfl
   have hdr : rs.drop j = r :: rs.drop (j + 1) := by rw [hr]; exact List.drop_eq_getElem_cons (by omega)
   have htk : st.take (j + 1) = st.take j ++ [st.getD j []] := by rw [List.take_add_one, List.getElem?_eq_getElem (by omega)]; simp [List.getD, show j < st.length by omega]
   have hrep : List.replicate (lebs - j) ([] : List Int) = [] :: List.replicate (lebs - (j + 1)) [] := by rw [show lebs - j = (lebs - (j + 1)) + 1 by omega, List.replicate_succ]
   have hstk : (st.take j).length = j := by rw [List.length_take]; omega
   refine WC.skip ?_
   refine WC.seq ?_
   refine WC.block ?_
   refine WC.sr ?_
   refine WL.val (V.move (OV.p rfl)) rfl ?_
   refine WL.val (V.idxB st168 (OV.p rfl) (OV.p rfl) (fun hc => by omega)) rfl ?_
   refine WL.val (V.load Tryz.isAgg133 (OV.p rfl) (fun _ => by repeat (first | exact Rd.here hvg | apply Rd.up))) rfl ?_
   refine WL.val (V.assign (OV.p rfl)) rfl ?_
   refine WL.val (V.assign (OV.p rfl)) rfl ?_
   refine WL.nil ?_
   refine WC.seq ?_
   refine WC.sr ?_
   refine WL.val (V.move (OV.p rfl)) rfl ?_
   refine WL.val (V.len (t := 133) Tryz.runUnderlying133 (OV.p rfl)) rfl ?_
   refine WL.val (V.eql (OV.p rfl) (OV.p rfl)) rfl ?_
   refine WL.nil ?_
   refine WC.cond rfl (fun hc2 => ?_) (fun hc2 => ?_)
   ·simp only [decide_eq_true_eq, decide_eq_false_iff_not] at hc2
    have h2 := hc2
    have hnil : r.l = [] := List.eq_nil_of_length_eq_zero (by omega)
    have hsj : st.getD j [] = [] := by rw [hpv, hnil]; rfl
    refine WC.exit ?_
    refine WC.region ?_
    refine WL.val (V.addI (OV.p rfl) (OV.p rfl) (fun hc => by first | omega | (simp at hc; omega))) rfl ?_
    refine WL.val (V.move (OV.p rfl)) rfl ?_
    refine WL.nil ?_
    refine ⟨rfl, ?_⟩
    first
    | (refine ⟨(j + 1, qrs), ⟨hjl, hql, ?_⟩, (by show lebs - (j + 1) < lebs - j; omega), .cons rfl (.cons rfl (.cons rfl (.cons (look_eq rfl (by simp)) (.nil _)))), fun w h => h.sel 1 [] rfl⟩
       obtain rfl : k = r.l.length - 1 := by omega
       show qrs.map IRow.l = _
       rw [hqs, htk, hsj, List.take_of_length_le (l := ll) (by omega), List.append_assoc]; rfl)
    | (refine ⟨(j + 1, irs), ⟨hjl, hil, ?_⟩, (by show lebs - (j + 1) < lebs - j; omega), .cons rfl (.cons rfl (.cons rfl (.cons (look_eq rfl (by simp)) (.nil _)))), fun w h => ?_⟩
       · show irs.map IRow.l = _
         rw [his, htk, hsj, hrep, List.append_assoc]; rfl
       · rw [hdr, List.map_cons] at h
         have h4 := Sat.takeA (k := 0) (by simp) (h.sel 4 [3, 0, 1, 2] rfl)
         have h5 : Sat K w (r.row :: AllA ((rs.drop (j + 1)).map FRow.row) :: Cells b8 42 (irs.map IRow.v) :: AllA (irs.map IRow.row) :: Cells bo 133 (rs.map FRow.v) :: F) := h4
         exact h5.sel 5 [2, 3, 4, 1] rfl)
   ·simp only [decide_eq_true_eq, decide_eq_false_iff_not] at hc2
    have h2 := hc2
    have hlen0 : 0 < r.l.length := by omega
    obtain ⟨ll, hll⟩ : ∃ ll, ll = isort (ltOf cmpS) r.l.dropLast := ⟨_, rfl⟩
    have hlll : ll.length = r.l.length - 1 := by rw [hll, isort_length, List.length_dropLast]
    have hsj : st.getD j [] = ll.map Fd.block := by rw [hpv, hll]
    refine WC.sub (H' := SlA (.slice r.A (r.l.length - 1) r.c) 167 5 (r.l.length - 1) (flatF r.l.dropLast) :: Cells b8 42 (irs.map IRow.v) :: AllA (irs.map IRow.row) :: Cells bo 133 (rs.map FRow.v) :: AllA ((rs.drop (j + 1)).map FRow.row) :: F) (Sub.refl _) (fun w h => by
      rw [hdr, List.map_cons] at h
      have h4 := Sat.takeA (k := 0) (by simp) (h.sel 4 [3, 0, 1, 2] rfl)
      have h5 : Sat K w (r.row :: AllA ((rs.drop (j + 1)).map FRow.row) :: Cells b8 42 (irs.map IRow.v) :: AllA (irs.map IRow.row) :: Cells bo 133 (rs.map FRow.v) :: F) := h4
      exact (slA_init (l := r.l) rfl hlen0 w h5).sel 5 [0, 2, 3, 4, 1] rfl) ?_
    refine WC.skip ?_
    refine WC.seq ?_
    refine WC.have_ (p := r.l.length - 1 ≤ r.c) (fun w h => by
      obtain ⟨_, cap', hv, hle, _⟩ := SlA.shape h.head
      injection hv with _ _ e3
      rw [e3]; exact hle) (fun hrc => ?_)
    refine WC.region ?_
    refine WL.val (V.move (OV.p rfl)) rfl ?_
    refine WL.val (V.move (OV.p rfl)) rfl ?_
    refine WL.val (V.len (t := 133) Tryz.runUnderlying133 (OV.p rfl)) rfl ?_
    refine WL.val (V.subI (OV.p rfl) (OV.p rfl) (fun hc => by first | omega | (simp at hc; omega))) rfl ?_
    refine WL.val (V.val_eq (v' := .slice r.A (r.l.length - 1) r.c) (V.slice (l := 0) (h := r.l.length - 1) (u := r.c) st133 (OV.p rfl) OO.none (OO.some (OV.p rfl) (fun _ => by omega)) OO.none (by simp) (Nat.zero_le _) hrc (Nat.le_refl _)) (fun _ => by rw [Nat.sub_zero, Nat.sub_zero, sub0])) rfl ?_
    refine WL.val (V.assign (OV.p rfl)) rfl ?_
    refine WL.nil ?_
    refine WC.sr ?_
    refine WL.val (V.move (OV.p rfl)) rfl ?_
    refine WL.call (vs := [_, _]) Tryz.call133 ⟨OV.p rfl, OV.p rfl, trivial⟩ (sort_found stale1_is (by rw [List.length_dropLast]) (by omega)) rfl ?_
    rintro v0 H0 h0
    refine WL.sub (H' := SlA (.slice r.A (r.l.length - 1) r.c) 167 5 (r.l.length - 1) (flatF ll) :: Cells b8 42 (irs.map IRow.v) :: AllA (irs.map IRow.row) :: Cells bo 133 (rs.map FRow.v) :: AllA ((rs.drop (j + 1)).map FRow.row) :: F) (Sub.refl _) (fun w h => by rw [hll]; exact h0 w h) ?_
    refine WL.nil ?_
    refine WC.seq ?_
    have hnj : (irs.map IRow.l)[j]? = some [] := by rw [his, List.getElem?_append_right (by omega), hstk, Nat.sub_self, hrep]; rfl
    have hll2 : ∀ {X : List Assn} (k : Nat) (x : Fd), ll[k]? = some x → ∀ i v, x.cells[i]? = some v → Rd K (SlA (.slice r.A (r.l.length - 1) r.c) 167 5 (r.l.length - 1) (flatF ll) :: X) (r.A.map (·.add (k * 5 + i))) v := fun {X} k x hk i v hi => by
      have h9 : Seq K (SlA (.slice r.A (r.l.length - 1) r.c) 167 5 (r.l.length - 1) (flatF ll) :: X) r.A (r.l.length - 1) 5 (flatF ll) := SlA.seq (by rw [flatF_length, hlll])
      exact found_rd h9 hk hi
    refine WC.region ?_
    refine WL.val (V.move (OV.p rfl)) rfl ?_
    refine WL.val (V.len (t := 133) Tryz.runUnderlying133 (OV.p rfl)) rfl ?_
    refine WL.val (V.move (OV.p rfl)) rfl ?_
    refine WL.nil ?_
    refine WC.block ?_
    refine WC.loop (σ := Nat × List IRow) (fun s => [(8, .slice (some ⟨b8, 0, none⟩) lebs lebs), (9, .int .i64 (j : Int)), (24, .slice (some ⟨bo, 0, none⟩) lebs lebs), (25, .int .i64 (lebs : Int)), (26, .int .i64 (j : Int)), (41, .slice r.A (r.l.length - 1) r.c), (42, .int .i64 ((r.l.length - 1 : Nat) : Int)), (43, .int .i64 (s.1 : Int))]) (fun s => SlA (.slice r.A (r.l.length - 1) r.c) 167 5 (r.l.length - 1) (flatF ll) :: Cells b8 42 (s.2.map IRow.v) :: AllA (s.2.map IRow.row) :: Cells bo 133 (rs.map FRow.v) :: AllA ((rs.drop (j + 1)).map FRow.row) :: F) (fun s => s.1 ≤ r.l.length - 1 ∧ s.2.length = lebs ∧ s.2.map IRow.l = st.take j ++ ((ll.take s.1).map Fd.block :: List.replicate (lebs - (j + 1)) [])) (fun s => r.l.length - 1 - s.1) (0, irs) ⟨Nat.zero_le _, hil, by rw [his, hrep]; rfl⟩ (.cons rfl (.cons rfl (.cons rfl (.cons rfl (.cons rfl (.cons rfl (.cons rfl (.cons rfl (.nil _))))))))) (fun w h => h) ?_
    rintro ⟨k, qrs⟩ ⟨hk, hql, hqs⟩
    dsimp only at hk hql hqs ⊢
    refine WC.sr ?_
    refine WL.val (V.lss (OV.p rfl) (OV.p rfl)) rfl ?_
    refine WL.nil ?_
    refine WC.seq ?_
    refine WC.cond rfl (fun hc3 => ?_) (fun hc3 => ?_)
    ·simp only [decide_eq_true_eq, decide_eq_false_iff_not] at hc3
     have hkl : k < r.l.length - 1 := by omega
     obtain ⟨x, hx⟩ : ∃ x, ll[k]? = some x := ⟨_, List.getElem?_eq_getElem (by omega)⟩
     have hxr := fun {X : List Assn} i v hi => hll2 (X := X) k x hx i v hi
     have hti : (k : Int).toNat = k := by omega
     have hlk : ll.take (k + 1) = ll.take k ++ [x] := by rw [List.take_add_one, hx]; rfl
     obtain ⟨q, hq⟩ : ∃ q, q = qrs[j]'(by omega) := ⟨_, rfl⟩
     have hqg : qrs[j]? = some q := by rw [hq]; exact List.getElem?_eq_getElem (by omega)
     have hql2 : q.l = (ll.take k).map Fd.block := by
       have h3 : (qrs.map IRow.l)[j]? = some q.l := by rw [List.getElem?_map, hqg]; rfl
       rw [hqs, List.getElem?_append_right (by omega), hstk, Nat.sub_self] at h3
       injection h3 with h3
       exact h3.symm
     have hqb : q.l.length ≤ 20 := by rw [hql2, List.length_map, List.length_take]; omega
     have hqrow : (qrs.map IRow.row)[j]'(by rw [List.length_map]; omega) = q.row := by rw [List.getElem_map, hq]
     have hqv : (qrs.map IRow.v)[0 + (j : Int).toNat * 1]? = some q.v := by rw [show 0 + ((j : Nat) : Int).toNat * 1 = j by omega, List.getElem?_map, hqg]; rfl
     refine WC.skip ?_
     refine WC.seq ?_
     refine WC.block ?_
     refine WC.sr ?_
     refine WL.val (V.val_eq (v' := sp r.A (k * 5)) (V.idxS st133 (OV.p rfl) (OV.p rfl) (fun hc => by omega) (fun hc => by rw [hti]; repeat (first | exact hxr 0 _ rfl | apply Rd.up))) (fun _ => by rw [hti])) rfl ?_
     refine WL.val (V.loadS (vs := x.cells) ⟨Tryz.isAgg167, Tryz.sizeOf167⟩ (OV.p rfl) rfl (by decide) (fun _ i v hi => by repeat (first | exact hxr i v hi | apply Rd.up))) rfl ?_
     refine WL.alloc (cs := [(.int .i64 0), (.int .i64 0), (.int .i64 0), (.int .i64 0), (.bool false)]) Tryz.zeroValue167 rfl rfl (fun b12 => ?_)
     refine WL.store (cs := [_, _, _, _, _]) Tryz.sizeOf167 (OV.p rfl) (OV.p rfl) rfl rfl rfl (by repeat (first | exact Upd.here (cs' := [_, _, _, _, _]) rfl rfl | apply Upd.up)) ?_
     refine WL.nil ?_
     refine WC.sub (H' := SlA (.slice q.A q.l.length q.c) 3 1 q.l.length (ints .i64 q.l) :: Cells b8 42 (qrs.map IRow.v) :: AllA ((qrs.map IRow.row).eraseIdx j) :: Cells b12 167 x.cells :: SlA (.slice r.A (r.l.length - 1) r.c) 167 5 (r.l.length - 1) (flatF ll) :: Cells bo 133 (rs.map FRow.v) :: AllA ((rs.drop (j + 1)).map FRow.row) :: F) (Sub.refl _) (fun w h => by
       have h4 := Sat.takeA (k := j) (by rw [List.length_map]; omega) (h.sel 4 [3, 2, 0, 1] rfl)
       rw [hqrow] at h4
       exact h4.sel 5 [0, 2, 1, 3, 4] rfl) ?_
     refine WC.regionA (AllA ((qrs.map IRow.row).eraseIdx j) :: Cells b12 167 x.cells :: SlA (.slice r.A (r.l.length - 1) r.c) 167 5 (r.l.length - 1) (flatF ll) :: Cells bo 133 (rs.map FRow.v) :: AllA ((rs.drop (j + 1)).map FRow.row) :: F) (by kernel_rfl) ?_
     refine WA.t 0 rfl (V.move (OV.p rfl)) ?_
     refine WA.t 1 rfl (V.move (OV.p rfl)) ?_
     refine WA.t 2 rfl (V.move (OV.p rfl)) ?_
     refine WA.t 3 rfl (V.move (OV.p rfl)) ?_
     refine WA.t 4 rfl (V.idxB st124 (OV.p rfl) (OV.p rfl) (fun hc => by omega)) ?_
     refine WA.t 6 rfl (V.fieldAddr fo167_0 (OV.p rfl)) ?_
     refine WA.t 7 rfl (V.load Tryz.isAgg3 (OV.p rfl) (fun _ => by repeat (first | exact Rd.here rfl | apply Rd.up))) ?_
     refine WA.two (i := 5) (j := 8) (fun w h => by repeat (first | exact h | replace h := h.tail)) (by kernel_rfl) rfl rfl ?_ ?_
     ·refine WL.val (V.load Tryz.isAgg42 (OV.p rfl) (fun _ => by repeat (first | exact Rd.here hqv | apply Rd.up))) rfl ?_
      refine WL.nil ?_
      refine WA.o 8 rfl ?_
      refine WL.buildSlice (E := 3) (cs := [_]) (vs := [(0, _)]) ⟨OV.p rfl, trivial⟩ rfl (bsl42_1_0 _) rfl (fun b55 => ?_)
      refine WL.nil ?_
      refine WA.o 9 rfl ?_
      refine WL.sub (Sub.refl _) (fun w h => h.p1) ?_
      refine WL.append (m := q.l.length) (q := 1) (news := [.int .i64 x.block]) Tryz.underlying42 el3 (OV.p rfl) (OV.p rfl) (Seq.all rfl) (by intro u hu; rw [List.mem_singleton.1 hu]; rfl) (by omega) rfl rfl (fun A5 c5 hA5 hc5 => ?_)
      refine WL.nil ?_
      refine WA.t 10 rfl (V.idxB st124 (OV.p rfl) (OV.p rfl) (fun hc => by omega)) ?_
      refine WA.o 11 rfl ?_
      refine WL.store (cs := [_]) Tryz.sizeOf42 (OV.p rfl) (OV.p rfl) rfl rfl rfl (Upd.up (Upd.up (Upd.at_ (by rw [List.length_map]; omega)))) ?_
      refine WL.nil ?_
      refine WA.fin ?_
      refine WC.region ?_
      refine WL.val (V.addI (OV.p rfl) (OV.p rfl) (fun hc => by first | omega | (simp at hc; omega))) rfl ?_
      refine WL.val (V.move (OV.p rfl)) rfl ?_
      refine WL.nil ?_
      refine ⟨rfl, ?_⟩
      refine ⟨(k + 1, qrs.set j ⟨A5, c5, q.l ++ [x.block]⟩), ⟨hkl, by show (qrs.set _ _).length = lebs; rw [List.length_set]; exact hql, ?_⟩, (by show r.l.length - 1 - (k + 1) < r.l.length - 1 - k; omega), .cons rfl (.cons rfl (.cons rfl (.cons rfl (.cons rfl (.cons rfl (.cons rfl (.cons (look_eq rfl (by simp)) (.nil _)))))))), fun w h => ?_⟩
      · show (qrs.set j _).map IRow.l = _
        rw [List.map_set, hqs, List.set_append_right _ _ (by omega), hstk, Nat.sub_self, List.set_cons_zero, hlk, List.map_append, ← hql2]; rfl
      · have h5 := h.sel 5 [0, 3, 2, 4] rfl
        have e1 : SlA (.slice A5 (q.l.length + 1) c5) 3 1 (q.l.length + 1) (ints .i64 q.l ++ [.int .i64 x.block]) = IRow.row ⟨A5, c5, q.l ++ [x.block]⟩ := by
          unfold IRow.row
          rw [ints_append, List.length_append]; rfl
        rw [e1] at h5
        have h6 := Sat.putA (l := qrs.map IRow.row) (k := j) (by rw [List.length_map]; omega) h5
        have e2 : (qrs.map IRow.v).set (0 + (j : Int).toNat * 1) (.slice A5 (q.l.length + 1) c5) = (qrs.set j ⟨A5, c5, q.l ++ [x.block]⟩).map IRow.v := by
          rw [show 0 + ((j : Nat) : Int).toNat * 1 = j by omega, List.map_set]
          show _ = (qrs.map IRow.v).set j (.slice A5 (q.l ++ [x.block]).length c5)
          rw [List.length_append]; rfl
        rw [e2, ← List.map_set] at h6
        exact h6.sel 4 [3, 1, 0] rfl
     ·refine WL.buildSlice (E := 3) (cs := [_]) (vs := [(0, _)]) ⟨OV.p rfl, trivial⟩ rfl (bsl42_1_0 _) rfl (fun b55 => ?_)
      refine WL.nil ?_
      refine WA.o 5 rfl ?_
      refine WL.val (V.load Tryz.isAgg42 (OV.p rfl) (fun _ => by repeat (first | exact Rd.here hqv | apply Rd.up))) rfl ?_
      refine WL.nil ?_
      refine WA.o 9 rfl ?_
      refine WL.sub (Sub.refl _) (fun w h => h.p1) ?_
      refine WL.append (m := q.l.length) (q := 1) (news := [.int .i64 x.block]) Tryz.underlying42 el3 (OV.p rfl) (OV.p rfl) (Seq.all rfl) (by intro u hu; rw [List.mem_singleton.1 hu]; rfl) (by omega) rfl rfl (fun A5 c5 hA5 hc5 => ?_)
      refine WL.nil ?_
      refine WA.t 10 rfl (V.idxB st124 (OV.p rfl) (OV.p rfl) (fun hc => by omega)) ?_
      refine WA.o 11 rfl ?_
      refine WL.store (cs := [_]) Tryz.sizeOf42 (OV.p rfl) (OV.p rfl) rfl rfl rfl (Upd.up (Upd.up (Upd.at_ (by rw [List.length_map]; omega)))) ?_
      refine WL.nil ?_
      refine WA.fin ?_
      refine WC.region ?_
      refine WL.val (V.addI (OV.p rfl) (OV.p rfl) (fun hc => by first | omega | (simp at hc; omega))) rfl ?_
      refine WL.val (V.move (OV.p rfl)) rfl ?_
      refine WL.nil ?_
      refine ⟨rfl, ?_⟩
      refine ⟨(k + 1, qrs.set j ⟨A5, c5, q.l ++ [x.block]⟩), ⟨hkl, by show (qrs.set _ _).length = lebs; rw [List.length_set]; exact hql, ?_⟩, (by show r.l.length - 1 - (k + 1) < r.l.length - 1 - k; omega), .cons rfl (.cons rfl (.cons rfl (.cons rfl (.cons rfl (.cons rfl (.cons rfl (.cons (look_eq rfl (by simp)) (.nil _)))))))), fun w h => ?_⟩
      · show (qrs.set j _).map IRow.l = _
        rw [List.map_set, hqs, List.set_append_right _ _ (by omega), hstk, Nat.sub_self, List.set_cons_zero, hlk, List.map_append, ← hql2]; rfl
      · have h5 := h.sel 5 [0, 3, 2, 4] rfl
        have e1 : SlA (.slice A5 (q.l.length + 1) c5) 3 1 (q.l.length + 1) (ints .i64 q.l ++ [.int .i64 x.block]) = IRow.row ⟨A5, c5, q.l ++ [x.block]⟩ := by
          unfold IRow.row
          rw [ints_append, List.length_append]; rfl
        rw [e1] at h5
        have h6 := Sat.putA (l := qrs.map IRow.row) (k := j) (by rw [List.length_map]; omega) h5
        have e2 : (qrs.map IRow.v).set (0 + (j : Int).toNat * 1) (.slice A5 (q.l.length + 1) c5) = (qrs.set j ⟨A5, c5, q.l ++ [x.block]⟩).map IRow.v := by
          rw [show 0 + ((j : Nat) : Int).toNat * 1 = j by omega, List.map_set]
          show _ = (qrs.map IRow.v).set j (.slice A5 (q.l ++ [x.block]).length c5)
          rw [List.length_append]; rfl
        rw [e2, ← List.map_set] at h6
        exact h6.sel 4 [3, 1, 0] rfl
    ·simp only [decide_eq_true_eq, decide_eq_false_iff_not] at hc3
     refine WC.exit ?_
     refine WC.region ?_
     refine WL.val (V.addI (OV.p rfl) (OV.p rfl) (fun hc => by first | omega | (simp at hc; omega))) rfl ?_
     refine WL.val (V.move (OV.p rfl)) rfl ?_
     refine WL.nil ?_
     refine ⟨rfl, ?_⟩
     first
     | (refine ⟨(j + 1, qrs), ⟨hjl, hql, ?_⟩, (by show lebs - (j + 1) < lebs - j; omega), .cons rfl (.cons rfl (.cons rfl (.cons (look_eq rfl (by simp)) (.nil _)))), fun w h => h.sel 1 [] rfl⟩
        obtain rfl : k = r.l.length - 1 := by omega
        show qrs.map IRow.l = _
        rw [hqs, htk, hsj, List.take_of_length_le (l := ll) (by omega), List.append_assoc]; rfl)
     | (refine ⟨(j + 1, irs), ⟨hjl, hil, ?_⟩, (by show lebs - (j + 1) < lebs - j; omega), .cons rfl (.cons rfl (.cons rfl (.cons (look_eq rfl (by simp)) (.nil _)))), fun w h => ?_⟩
        · show irs.map IRow.l = _
          rw [his, htk, hsj, hrep, List.append_assoc]; rfl
        · rw [hdr, List.map_cons] at h
          have h4 := Sat.takeA (k := 0) (by simp) (h.sel 4 [3, 0, 1, 2] rfl)
          have h5 : Sat K w (r.row :: AllA ((rs.drop (j + 1)).map FRow.row) :: Cells b8 42 (irs.map IRow.v) :: AllA (irs.map IRow.row) :: Cells bo 133 (rs.map FRow.v) :: F) := h4
          exact h5.sel 5 [2, 3, 4, 1] rfl)
  ·simp only [decide_eq_true_eq, decide_eq_false_iff_not] at hc1
   refine WC.exit ?_
   refine WC.sr ?_
   refine WL.val (V.move (OV.p rfl)) rfl ?_
   refine WL.val (V.assign (OV.p rfl)) rfl ?_
   refine WL.val (V.assign (OV.p rfl)) rfl ?_
   refine WL.nil ?_
   refine WC.ret ?_
   obtain rfl : j = lebs := by omega
   refine BodyQ.ret (H' := Cells b8 42 (irs.map IRow.v) :: AllA (irs.map IRow.row) :: F) (Res.tmp2 rfl rfl rfl) (fun w h => h.sel 4 [0, 1] rfl) ⟨b8, irs, hil, ?_, rfl, rfl⟩
   rw [his, List.take_of_length_le (by omega), Nat.sub_self, List.replicate_zero, List.append_nil]
end
end Go.Proofs.YtohkefolnmcjnaaGreat
