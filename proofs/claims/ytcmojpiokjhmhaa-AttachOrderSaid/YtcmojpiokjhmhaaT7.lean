/- attach: Pick, Stale. -/
import Derived.Test.YtcmojpiokjhmhaaT4
namespace Go.Proofs.Ytcmojpiokjhmhaa
open Go.Sl Go.RowKit
set_option linter.unusedVariables false
set_option linter.unusedSimpArgs false
set_option maxRecDepth 20000

/-- The greatest of the first i + 1. -/
def mxTo (c : Fd → Fd → Int) (fs : List Fd) : Nat → Fd
  | 0 => fs.getD 0 fd0
  | i + 1 => if 0 < c (fs.getD (i + 1) fd0) (mxTo c fs i) then fs.getD (i + 1) fd0 else mxTo c fs i
def lastB (l : List Fd) : Int := match l.getLast? with | none => -1 | some x => x.block
def pickF (lebs : Nat) (fs : List Fd) : List Int := (rowsF lebs fs).map fun l => lastB (isort (ltOf cmpN) l)
def nextF (fs : List Fd) : Int := if fs.length = 0 then 1 else (mxTo cmpM fs (fs.length - 1)).hd.num + 1
def staleF (lebs : Nat) (fs : List Fd) : List (List Int) := (rowsF lebs fs).map fun l => (isort (ltOf cmpS) (isort (ltOf cmpN) l).dropLast).map Fd.block
theorem pickF_length (lebs : Nat) (fs : List Fd) : (pickF lebs fs).length = lebs := by unfold pickF; rw [List.length_map, rowsF_length]
theorem staleF_length (lebs : Nat) (fs : List Fd) : (staleF lebs fs).length = lebs := by unfold staleF; rw [List.length_map, rowsF_length]
/-! ### Rows of numbers -/
structure IRow where
  A : Option Addr
  c : Nat
  l : List Int
abbrev IRow.v (x : IRow) : Value := .slice x.A x.l.length x.c
def IRow.row (x : IRow) : Assn := SlA (.slice x.A x.l.length x.c) 3 1 x.l.length (ints .i64 x.l)
def ir0 : IRow := ⟨none, 0, []⟩
theorem Rd.inAll {K : World} {l H : List Assn} {A : Assn} {p : Option Addr} {v : Value} (hA : A ∈ l) (h : Rd K [A] p v) : Rd K (AllA l :: H) p v := fun w hw => h w (hw.memA hA)
theorem FRow.rd {K : World} {r : FRow} {i j : Nat} {x : Fd} {v : Value} (hi : r.l[i]? = some x) (hj : x.cells[j]? = some v) : Rd K [r.row] (r.A.map (·.add (i * 5 + j))) v := by
  have h : Seq K [r.row] r.A r.l.length 5 (flatF r.l) := SlA.seq (flatF_length _)
  exact found_rd h hi hj
section
variable {K : World} {F : List Assn}
theorem max_found {f : Nat} {c : Fd → Fd → Int} (hf : CmpIs f c) {A : Option Addr} {n cap : Nat} {fs : List Fd} (hs : Seq K F A n 5 (flatF fs)) (hn : fs.length = n) (h0 : 0 < n) (hn2 : n ≤ 1000000) :
    Tells Try.prog 9 #[.slice A n cap, .func (.func f) #[] #[]] K F (mxTo c fs (n - 1)).v := by
  have hel : ∀ {X : List Assn} (k : Nat), k < n → (∀ w, Sat K w X → Sat K w F) → ∀ (j : Nat) v, (fs.getD k fd0).cells[j]? = some v → Rd K X (A.map (·.add (k * 5 + j))) v := fun k hk hX j v hj => by
    have hx : fs[k]? = some (fs.getD k fd0) := by simp [List.getD, show k < fs.length by omega]
    exact found_rd (hs.sat hX) hx hj
  have hup : ∀ {X : Assn} {Y : List Assn}, (∀ w, Sat K w Y → Sat K w F) → ∀ w, Sat K w (X :: Y) → Sat K w F := fun h w hw => h w hw.tail
  refine Does.enter Try.func9 rfl Try.ntmps9 rfl ?_
  simp only [env0, Nat.reduceAdd]
  refine WC.sr ?_
  refine WL.alloc (cs := [(.int .i64 0), (.int .i64 0), (.int .i64 0), (.int .i64 0), (.bool false)]) Try.zeroValue26 rfl rfl (fun b4 => ?_)
  refine WL.nil ?_
  refine WC.seq ?_
  refine WC.sr ?_
  refine WL.mv rfl rfl ?_
  refine WL.val (V.len (t := 22) Try.runUnderlying22 (OV.p rfl)) rfl ?_
  refine WL.val (V.lss (OV.p rfl) (OV.p rfl)) rfl ?_
  refine WL.nil ?_
  refine WC.condF' rfl ((decide_eq_false (by omega))) ?_
  refine WC.skip ?_
  refine WC.sr ?_
  refine WL.mv rfl rfl ?_
  refine WL.val (V.val_eq (v' := sp A (0 * 5)) (V.idxS st22 (OV.p rfl) (OV.p rfl) (fun hc => by omega) (fun hc => by rw [show ((0 : Int)).toNat = 0 from rfl]; exact hel 0 h0 (by repeat (first | exact (fun w h => h) | apply hup)) 0 _ rfl)) (fun _ => rfl)) rfl ?_
  refine WL.val (V.loadS (vs := (fs.getD 0 fd0).cells) ⟨Try.isAgg26, Try.sizeOf26⟩ (OV.p rfl) rfl (by decide) (fun _ j v hj => by exact hel 0 h0 (by repeat (first | exact (fun w h => h) | apply hup)) j v hj)) rfl ?_
  refine WL.alloc (cs := [(.int .i64 0), (.int .i64 0), (.int .i64 0), (.int .i64 0), (.bool false)]) Try.zeroValue26 rfl rfl (fun b5 => ?_)
  refine WL.store (cs := [_, _, _, _, _]) Try.sizeOf26 (OV.p rfl) (OV.p rfl) rfl rfl rfl (by repeat (first | exact Upd.here (cs' := [_, _, _, _, _]) rfl rfl | apply Upd.up)) ?_
  refine WL.nil ?_
  refine WC.seq ?_
  refine WC.sr ?_
  refine WL.sg rfl rfl ?_
  refine WL.nil ?_
  refine WC.block ?_
  refine WC.loop (σ := Nat) (fun i => [(0, .slice A n cap), (1, .func (.func f) #[] #[]), (4, ptr b4 0), (5, ptr b5 0), (6, .int .i64 ((i + 1 : Nat) : Int))]) (fun i => Cells b5 26 (mxTo c fs i).cells :: Cells b4 26 [.int .i64 0, .int .i64 0, .int .i64 0, .int .i64 0, .bool false] :: F) (fun i => i < n) (fun i => n - i) 0 h0 (.cons rfl (.cons rfl (.cons rfl (.cons rfl (.cons rfl (.nil _)))))) (fun w h => h) ?_
  rintro i hi
  obtain ⟨m, hm⟩ : ∃ m, m = mxTo c fs i := ⟨_, rfl⟩
  rw [← hm]
  refine WC.seq ?_
  refine WC.sr ?_
  refine WL.mv rfl rfl ?_
  refine WL.mv rfl rfl ?_
  refine WL.val (V.len (t := 22) Try.runUnderlying22 (OV.p rfl)) rfl ?_
  refine WL.val (V.lss (OV.p rfl) (OV.p rfl)) rfl ?_
  refine WL.nil ?_
  refine WC.cond rfl (fun hc1 => ?_) (fun hc1 => ?_)
  ·simp only [decide_eq_true_eq, decide_eq_false_iff_not] at hc1
   have hi1 : i + 1 < n := by omega
   obtain ⟨x, hx⟩ : ∃ x, x = fs.getD (i + 1) fd0 := ⟨_, rfl⟩
   have hti : (((i + 1 : Nat) : Int)).toNat = i + 1 := by omega
   have hxe : ∀ {X : List Assn}, (∀ w, Sat K w X → Sat K w F) → ∀ (j : Nat) v, x.cells[j]? = some v → Rd K X (A.map (·.add ((i + 1) * 5 + j))) v := fun hX j v hj => hel (i + 1) hi1 hX j v (by rw [← hx]; exact hj)
   have hst : mxTo c fs (i + 1) = if 0 < c x m then x else m := by rw [mxTo, ← hx, ← hm]
   refine WC.skip ?_
   refine WC.seq ?_
   refine WC.block ?_
   refine WC.seq ?_
   refine WC.regionQ (by kernel_rfl) (by kernel_rfl) ?_
   refine WQ.val (V.move (OV.p rfl)) rfl ?_
   refine WQ.val (V.move (OV.p rfl)) rfl ?_
   refine WQ.val (V.move (OV.p rfl)) rfl ?_
   refine WQ.val (V.val_eq (v' := sp A ((i + 1) * 5)) (V.idxS st22 (OV.p rfl) (OV.p rfl) (fun hc => by omega) (fun hc => by rw [hti]; exact hxe (by repeat (first | exact (fun w h => h) | apply hup)) 0 _ rfl)) (fun _ => by rw [hti])) rfl ?_
   refine WQ.val (V.loadS (vs := x.cells) ⟨Try.isAgg26, Try.sizeOf26⟩ (OV.p rfl) rfl (by decide) (fun _ j v hj => by exact hxe (by repeat (first | exact (fun w h => h) | apply hup)) j v hj)) rfl ?_
   refine WQ.val (V.loadA (vs := [_, _, _, _, _]) ⟨Try.isAgg26, Try.sizeOf26⟩ (OV.p rfl) rfl (fun _ => by repeat (first | exact Rds.gets ⟨rfl, rfl, rfl, rfl, rfl, trivial⟩ | apply Rds.up))) rfl ?_
   refine WQ.callV (first := []) (vs := [_, _]) (captured := []) hf.1 (OV.p rfl) ⟨OV.p rfl, OV.p rfl, trivial⟩ (hf.2 _ _ x m) rfl ?_
   refine WQ.val (V.gtr (OV.p rfl) (OV.p rfl)) rfl ?_
   refine WQ.nil ?_
   refine WC.cond rfl (fun hc2 => ?_) (fun hc2 => ?_)
   ·simp only [decide_eq_true_eq, decide_eq_false_iff_not] at hc2
    have h2 := hc2
    rw [if_pos h2] at hst
    refine WC.region ?_
    refine WL.mv rfl rfl ?_
    refine WL.mv rfl rfl ?_
    refine WL.val (V.val_eq (v' := sp A ((i + 1) * 5)) (V.idxS st22 (OV.p rfl) (OV.p rfl) (fun hc => by omega) (fun hc => by rw [hti]; exact hxe (by repeat (first | exact (fun w h => h) | apply hup)) 0 _ rfl)) (fun _ => by rw [hti])) rfl ?_
    refine WL.val (V.loadS (vs := x.cells) ⟨Try.isAgg26, Try.sizeOf26⟩ (OV.p rfl) rfl (by decide) (fun _ j v hj => by exact hxe (by repeat (first | exact (fun w h => h) | apply hup)) j v hj)) rfl ?_
    refine WL.store (cs := x.cells) Try.sizeOf26 (OV.p rfl) (OV.p rfl) rfl rfl rfl (by repeat (first | exact Upd.here (cs' := [_, _, _, _, _]) rfl rfl | apply Upd.up)) ?_
    refine WL.nil ?_
    refine WC.region ?_
    refine WL.mv rfl rfl ?_
    refine WL.ad rfl rfl rfl ?_
    refine WL.sg rfl rfl ?_
    refine WL.nil ?_
    refine ⟨rfl, ?_⟩
    refine ⟨i + 1, hi1, (by show n - (i + 1) < n - i; omega), .cons rfl (.cons rfl (.cons rfl (.cons rfl (.cons (look_eq rfl (by simp)) (.nil _))))), fun w h => ?_⟩
    dsimp only
    rw [hst]
    exact h
   ·simp only [decide_eq_true_eq, decide_eq_false_iff_not] at hc2
    have h2 := hc2
    rw [if_neg (by omega)] at hst
    refine WC.skip ?_
    refine WC.region ?_
    refine WL.mv rfl rfl ?_
    refine WL.ad rfl rfl rfl ?_
    refine WL.sg rfl rfl ?_
    refine WL.nil ?_
    refine ⟨rfl, ?_⟩
    refine ⟨i + 1, hi1, (by show n - (i + 1) < n - i; omega), .cons rfl (.cons rfl (.cons rfl (.cons rfl (.cons (look_eq rfl (by simp)) (.nil _))))), fun w h => ?_⟩
    dsimp only
    rw [hst]
    exact h
  ·simp only [decide_eq_true_eq, decide_eq_false_iff_not] at hc1
   refine WC.exit ?_
   refine WC.sr ?_
   refine WL.val (V.loadA (vs := [_, _, _, _, _]) ⟨Try.isAgg26, Try.sizeOf26⟩ (OV.p rfl) rfl (fun _ => by repeat (first | exact Rds.gets ⟨rfl, rfl, rfl, rfl, rfl, trivial⟩ | apply Rds.up))) rfl ?_
   refine WL.store (cs := [_, _, _, _, _]) Try.sizeOf26 (OV.p rfl) (OV.p rfl) rfl rfl rfl (by repeat (first | exact Upd.here rfl rfl | apply Upd.up)) ?_
   refine WL.nil ?_
   refine WC.ret ?_
   obtain rfl : i = n - 1 := by omega
   rw [← hm]
   exact BodyQ.normal (H' := F) (Res.one rfl (R1.cellA (vs := [_, _, _, _, _]) rfl ⟨Try.isAgg26, Try.sizeOf26⟩ rfl (by repeat (first | exact Rds.gets ⟨rfl, rfl, rfl, rfl, rfl, trivial⟩ | apply Rds.up)))) (fun w h => h.drop 2) ⟨rfl, rfl⟩
theorem attach_PickG {lebs n cap : Nat} {A : Option Addr} {fs : List Fd} (hl : 1 ≤ lebs ∧ lebs ≤ 64) (hs : Seq K F A n 5 (flatF fs)) (hn : fs.length = n) (h20 : n < 1000) (hso : ∀ leb, leb < lebs → SortAt 8 cmpN (fs.filter (isOf leb))) (hnum : ∀ x ∈ fs, x.hd.num ≤ 1000000001 ∧ 0 ≤ x.hd.num) :
    Does Try.prog 4 #[.int .i64 (lebs : Int), .slice A n cap] K F
      (fun v H' => ∃ A' c', v = .tuple #[.slice A' lebs c', .int .i64 (nextF fs), .int .i64 0] ∧ H' = SlA (.slice A' lebs c') 3 1 lebs (ints .i64 (pickF lebs fs)) :: F) := by
  obtain ⟨pk, hpk⟩ : ∃ pk, pk = pickF lebs fs := ⟨_, rfl⟩
  have hpl : pk.length = lebs := by rw [hpk]; exact pickF_length _ _
  refine Does.enter Try.func4 rfl Try.ntmps4 rfl ?_
  simp only [env0, Nat.reduceAdd]
  refine WC.sr ?_
  refine WL.sg rfl rfl ?_
  refine WL.sg rfl rfl ?_
  refine WL.sg rfl rfl ?_
  refine WL.nil ?_
  refine WC.sr ?_
  refine WL.mv rfl rfl ?_
  refine WL.mv rfl rfl ?_
  refine WL.call (vs := [_, _, _]) Try.call7 ⟨OV.p rfl, OV.p rfl, OV.p rfl, trivial⟩ (attach_wholeG byNumber_is hl hs hn h20 hso) rfl ?_
  rintro _ _ ⟨bo, rs, hrl, hrs, rfl, rfl⟩
  have hpr : ∀ j r, rs[j]? = some r → pk.getD j 0 = lastB r.l ∧ j < lebs := fun j r hj => by
    have h1 : (rs.map FRow.l)[j]? = some r.l := by rw [List.getElem?_map, hj]; rfl
    have hjl : j < lebs := by rw [← hrl]; exact (List.getElem?_eq_some_iff.1 hj).1
    refine ⟨?_, hjl⟩
    rw [hrs] at h1
    simp only [List.getElem?_map, rowsF, List.getElem?_range hjl, Option.map_some] at h1
    injection h1 with h1
    rw [hpk]
    unfold pickF
    simp only [List.getD, List.getElem?_map, rowsF, List.getElem?_range hjl, Option.map_some, Option.getD_some]
    rw [h1]
  refine WL.mv rfl rfl ?_
  refine WL.xt rfl rfl rfl ?_
  refine WL.xt rfl rfl rfl ?_
  refine WL.sg rfl rfl ?_
  refine WL.sg rfl rfl ?_
  refine WL.nil ?_
  refine WC.seq ?_
  refine WC.sr ?_
  refine WL.mv rfl rfl ?_
  refine WL.val (V.neq (OV.p rfl) (OV.p rfl)) rfl ?_
  refine WL.nil ?_
  refine WC.condF' rfl (by first | rfl | (simp; done) | (simp; omega)) ?_
  refine WC.skip ?_
  refine WC.sr ?_
  refine WL.sg rfl rfl ?_
  refine WL.nil ?_
  refine WC.seq ?_
  refine WC.sr ?_
  refine WL.mv rfl rfl ?_
  refine WL.val (V.len (t := 34) Try.runUnderlying34 (OV.p rfl)) rfl ?_
  refine WL.mv rfl rfl ?_
  refine WL.nil ?_
  refine WC.block ?_
  refine WC.loop (σ := Nat × Option Addr × Nat) (fun s => [(1, .slice A n cap), (9, .slice s.2.1 s.1 s.2.2), (22, .slice (some ⟨bo, 0, none⟩) lebs lebs), (23, .int .i64 (lebs : Int)), (24, .int .i64 (s.1 : Int))]) (fun s => SlA (.slice s.2.1 s.1 s.2.2) 3 1 s.1 (ints .i64 (pk.take s.1)) :: Cells bo 22 (rs.map FRow.v) :: AllA (rs.map FRow.row) :: F) (fun s => s.1 ≤ lebs) (fun s => lebs - s.1) (0, none, 0) (Nat.zero_le _) (.cons rfl (.cons rfl (.cons rfl (.cons rfl (.cons rfl (.nil _)))))) (fun w h => Sat.slNil h _ _) ?_
  rintro ⟨j, Ao, co⟩ hj
  dsimp only at hj ⊢
  refine WC.sr ?_
  refine WL.val (V.lss (OV.p rfl) (OV.p rfl)) rfl ?_
  refine WL.nil ?_
  refine WC.seq ?_
  refine WC.cond rfl (fun hc1 => ?_) (fun hc1 => ?_)
  ·simp only [decide_eq_true_eq, decide_eq_false_iff_not] at hc1
   have hjl : j < lebs := by omega
   obtain ⟨r, hr⟩ : ∃ r, rs[j]? = some r := ⟨_, List.getElem?_eq_getElem (by omega)⟩
   have hvg : (rs.map FRow.v)[0 + ((j : Nat) : Int).toNat * 1]? = some r.v := by rw [show 0 + ((j : Nat) : Int).toNat * 1 = j by omega, List.getElem?_map, hr]; rfl
   have hmem : r.row ∈ rs.map FRow.row := List.mem_map.2 ⟨r, List.mem_of_getElem? hr, rfl⟩
   have htk : pk.take (j + 1) = pk.take j ++ [lastB r.l] := by rw [List.take_add_one, List.getElem?_eq_getElem (by omega), ← (hpr j r hr).1]; simp [List.getD, show j < pk.length by omega]
   refine WC.skip ?_
   refine WC.seq ?_
   refine WC.block ?_
   refine WC.sr ?_
   refine WL.val (V.idxB st34 (OV.p rfl) (OV.p rfl) (fun hc => by omega)) rfl ?_
   refine WL.val (V.load Try.isAgg22 (OV.p rfl) (fun _ => by repeat (first | exact Rd.here hvg | apply Rd.up))) rfl ?_
   refine WL.sg rfl rfl ?_
   refine WL.nil ?_
   refine WC.sr ?_
   refine WL.mv rfl rfl ?_
   refine WL.val (V.len (t := 22) Try.runUnderlying22 (OV.p rfl)) rfl ?_
   refine WL.val (V.eql (OV.p rfl) (OV.p rfl)) rfl ?_
   refine WL.nil ?_
   refine WC.cond rfl (fun hc2 => ?_) (fun hc2 => ?_)
   ·simp only [decide_eq_true_eq, decide_eq_false_iff_not] at hc2
    have h2 := hc2
    have hlast : lastB r.l = -1 := by
      have : r.l = [] := List.eq_nil_of_length_eq_zero (by omega)
      unfold lastB; rw [this]; rfl
    refine WC.region ?_
    refine WL.mv rfl rfl ?_
    refine WL.buildSlice (E := 3) (cs := [_]) (vs := [(0, _)]) ⟨OV.p rfl, trivial⟩ rfl (bsl27_1_0 _) rfl (fun b32 => ?_)
    refine WL.sub (Sub.refl _) (fun w h => h.p1) ?_
    refine WL.append (m := j) (q := 1) (news := [.int .i64 (-1)]) Try.underlying27 el3 (OV.p rfl) (OV.p rfl) (Seq.all rfl) (by intro u hu; rw [List.mem_singleton.1 hu]; rfl) (by omega) rfl rfl (fun A5 c5 hA5 hc5 => ?_)
    refine WL.sg rfl rfl ?_
    refine WL.nil ?_
    refine WC.region ?_
    refine WL.ad rfl rfl rfl ?_
    refine WL.mv rfl rfl ?_
    refine WL.nil ?_
    refine ⟨rfl, ?_⟩
    refine ⟨(j + 1, A5, c5), hjl, (by show lebs - (j + 1) < lebs - j; omega), .cons rfl (.cons rfl (.cons rfl (.cons rfl (.cons (look_eq rfl (by simp)) (.nil _))))), fun w h => ?_⟩
    dsimp only
    rw [htk, hlast, ints_append]
    exact h.sel 2 [0] rfl
   ·simp only [decide_eq_true_eq, decide_eq_false_iff_not] at hc2
    have h2 := hc2
    obtain ⟨x, hx⟩ : ∃ x, r.l[r.l.length - 1]? = some x := ⟨_, List.getElem?_eq_getElem (by omega)⟩
    have hlast : lastB r.l = x.block := by unfold lastB; rw [List.getLast?_eq_getElem?, hx]
    have hrx : ∀ (i : Nat) v, x.cells[i]? = some v → ∀ {X : List Assn}, Rd K (AllA (rs.map FRow.row) :: X) (r.A.map (·.add ((r.l.length - 1) * 5 + i))) v := fun i v hi X => Rd.inAll hmem (FRow.rd hx hi)
    have hri : ((r.l.length : Int) - 1).toNat = r.l.length - 1 := by omega
    have hrll : r.l.length ≤ 1000000 := by
      have h3 : (rs.map FRow.l)[j]? = some r.l := by rw [List.getElem?_map, hr]; rfl
      rw [hrs] at h3
      simp only [rowsF, List.getElem?_map, List.getElem?_range hjl, Option.map_some] at h3
      injection h3 with h3
      rw [← h3, isort_length]
      exact Nat.le_trans (List.length_filter_le _ _) (by omega)
    refine WC.region ?_
    refine WL.mv rfl rfl ?_
    refine WL.mv rfl rfl ?_
    refine WL.mv rfl rfl ?_
    refine WL.val (V.len (t := 22) Try.runUnderlying22 (OV.p rfl)) rfl ?_
    refine WL.sb rfl rfl rfl ?_
    refine WL.val (V.val_eq (v' := sp r.A ((r.l.length - 1) * 5)) (V.idxS st22 (OV.p rfl) (OV.p rfl) (fun hc => by omega) (fun hc => by rw [hri]; repeat (first | exact hrx 0 _ rfl | apply Rd.up))) (fun _ => by rw [hri])) rfl ?_
    refine WL.val (V.fieldS (k' := (r.l.length - 1) * 5) fo26_0 (OV.p rfl) (fun _ => by repeat (first | exact hrx 0 _ rfl | apply Rd.up))) rfl ?_
    refine WL.val (V.load Try.isAgg3 (OV.p rfl) (fun _ => by repeat (first | exact hrx 0 _ rfl | apply Rd.up))) rfl ?_
    refine WL.buildSlice (E := 3) (cs := [_]) (vs := [(0, _)]) ⟨OV.p rfl, trivial⟩ rfl (bsl27_1_0 _) rfl (fun b42 => ?_)
    refine WL.sub (Sub.refl _) (fun w h => h.p1) ?_
    refine WL.append (m := j) (q := 1) (news := [.int .i64 x.block]) Try.underlying27 el3 (OV.p rfl) (OV.p rfl) (Seq.all rfl) (by intro u hu; rw [List.mem_singleton.1 hu]; rfl) (by omega) rfl rfl (fun A5 c5 hA5 hc5 => ?_)
    refine WL.sg rfl rfl ?_
    refine WL.nil ?_
    refine WC.region ?_
    refine WL.ad rfl rfl rfl ?_
    refine WL.mv rfl rfl ?_
    refine WL.nil ?_
    refine ⟨rfl, ?_⟩
    refine ⟨(j + 1, A5, c5), hjl, (by show lebs - (j + 1) < lebs - j; omega), .cons rfl (.cons rfl (.cons rfl (.cons rfl (.cons (look_eq rfl (by simp)) (.nil _))))), fun w h => ?_⟩
    dsimp only
    rw [htk, hlast, ints_append]
    exact h.sel 2 [0] rfl
  ·simp only [decide_eq_true_eq, decide_eq_false_iff_not] at hc1
   refine WC.exit ?_
   refine WC.seq ?_
   refine WC.seq ?_
   obtain rfl : j = lebs := by omega
   rw [List.take_of_length_le (by omega), hpk]
   refine WC.sub (Sub.refl _) (fun w h => h.sel 3 [0] rfl) ?_
   refine WC.region ?_
   refine WL.mv rfl rfl ?_
   refine WL.val (V.len (t := 22) Try.runUnderlying22 (OV.p rfl)) rfl ?_
   refine WL.val (V.eql (OV.p rfl) (OV.p rfl)) rfl ?_
   refine WL.nil ?_
   refine WC.cond rfl (fun hc3 => ?_) (fun hc3 => ?_)
   ·simp only [decide_eq_true_eq, decide_eq_false_iff_not] at hc3
    have h3 := hc3
    have hnx : nextF fs = 1 := by unfold nextF; rw [if_pos (by omega)]
    refine WC.sr ?_
    refine WL.mv rfl rfl ?_
    refine WL.sg rfl rfl ?_
    refine WL.sg rfl rfl ?_
    refine WL.sg rfl rfl ?_
    refine WL.nil ?_
    refine WC.ret ?_
    rw [hnx]
    exact BodyQ.ret (H' := SlA (.slice Ao j co) 3 1 j (ints .i64 (pickF j fs)) :: F) (Res.tmp3 rfl rfl rfl rfl) (fun w h => h) ⟨Ao, co, rfl, rfl⟩
   ·simp only [decide_eq_true_eq, decide_eq_false_iff_not] at hc3
    have h3 := hc3
    have hnx : nextF fs = (mxTo cmpM fs (n - 1)).hd.num + 1 := by unfold nextF; rw [if_neg (by omega), hn]
    have hmem : ∀ k, k < n → mxTo cmpM fs k ∈ fs := fun k => by
      induction k with
      | zero => intro hk; show fs.getD 0 fd0 ∈ fs; simp only [List.getD, List.getElem?_eq_getElem (show 0 < fs.length by omega)]; exact List.getElem_mem _
      | succ k ih =>
        intro hk
        rw [mxTo]
        split
        · simp only [List.getD, List.getElem?_eq_getElem (show k + 1 < fs.length by omega)]; exact List.getElem_mem _
        · exact ih (by omega)
    have hmb := hnum _ (hmem (n - 1) (by omega))
    refine WC.skip ?_
    refine WC.sr ?_
    refine WL.mv rfl rfl ?_
    refine WL.call (vs := [_, _]) Try.call9 ⟨OV.p rfl, OV.p rfl, trivial⟩ (max_found pick1_is (by repeat (first | exact hs | apply Seq.up)) hn (by omega) (by omega)) rfl ?_
    rintro _ H0 ⟨rfl, h0⟩
    subst H0
    refine WL.alloc (cs := [(.int .i64 0), (.int .i64 0), (.int .i64 0), (.int .i64 0), (.bool false)]) Try.zeroValue26 rfl rfl (fun b12 => ?_)
    refine WL.store (cs := [_, _, _, _, _]) Try.sizeOf26 (OV.p rfl) (OV.p rfl) rfl rfl rfl (by repeat (first | exact Upd.here (cs' := [_, _, _, _, _]) rfl rfl | apply Upd.up)) ?_
    refine WL.nil ?_
    refine WC.seq ?_
    refine WC.regionQ (by kernel_rfl) (by kernel_rfl) ?_
    refine WQ.val (V.move (OV.p rfl)) rfl ?_
    refine WQ.val (V.fieldAddr fo26_1 (OV.p rfl)) rfl ?_
    refine WQ.val (V.fieldAddr fo24_2 (OV.p rfl)) rfl ?_
    refine WQ.val (V.load Try.isAgg3 (OV.p rfl) (fun _ => by repeat (first | exact Rd.here rfl | apply Rd.up))) rfl ?_
    refine WQ.val (V.addI (OV.p rfl) (OV.p rfl) (fun hc => by first | omega | (simp at hc; omega))) rfl ?_
    refine WQ.val (V.assign (OV.p rfl)) rfl ?_
    refine WQ.val (V.assign (OV.p rfl)) rfl ?_
    refine WQ.val (V.assign (OV.p rfl)) rfl ?_
    refine WQ.nil ?_
    refine WC.ret ?_
    rw [hnx]
    exact BodyQ.ret (H' := SlA (.slice Ao j co) 3 1 j (ints .i64 (pickF j fs)) :: F) (Res.tmp3 rfl rfl rfl rfl) (fun w h => h.drop 1) ⟨Ao, co, rfl, rfl⟩
theorem attach_Pick {lebs n cap : Nat} {A : Option Addr} {fs : List Fd} (hl : 1 ≤ lebs ∧ lebs ≤ 64) (hs : Seq K F A n 5 (flatF fs)) (hn : fs.length = n) (h20 : n < 20) (hnum : ∀ x ∈ fs, x.hd.num ≤ 1000000001 ∧ 0 ≤ x.hd.num) :
    Does Try.prog 4 #[.int .i64 (lebs : Int), .slice A n cap] K F
      (fun v H' => ∃ A' c', v = .tuple #[.slice A' lebs c', .int .i64 (nextF fs), .int .i64 0] ∧ H' = SlA (.slice A' lebs c') 3 1 lebs (ints .i64 (pickF lebs fs)) :: F) :=
  attach_PickG hl hs hn (by omega) (fun leb _ _ _ _ _ => sort_found byNumber_is rfl (Nat.lt_of_le_of_lt (List.length_filter_le _ _) (by omega))) hnum
end
end Go.Proofs.Ytcmojpiokjhmhaa
