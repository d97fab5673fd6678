/- attach: whole, walked. -/
import Derived.Test.YtcmojpiokjhmhaaT3
namespace Go.Proofs.Ytcmojpiokjhmhaa
open Go.Sl Go.RowKit
set_option linter.unusedVariables false
set_option linter.unusedSimpArgs false
set_option maxRecDepth 20000

def FRow.sort (c : Fd → Fd → Int) (x : FRow) : FRow := { x with l := isort (ltOf c) x.l }
theorem FRow.sort_v (c : Fd → Fd → Int) (x : FRow) : (x.sort c).v = x.v := by
  show Value.slice x.A (isort (ltOf c) x.l).length x.c = _
  rw [isort_length]
def fr0 : FRow := ⟨none, 0, []⟩
def srtTo (c : Fd → Fd → Int) (rs : List FRow) : Nat → List FRow
  | 0 => rs
  | j + 1 => (srtTo c rs j).set j ((rs.getD j fr0).sort c)
theorem srtTo_length (c : Fd → Fd → Int) (rs : List FRow) : ∀ j, (srtTo c rs j).length = rs.length
  | 0 => rfl
  | j + 1 => by rw [srtTo, List.length_set, srtTo_length]
theorem srtTo_get (c : Fd → Fd → Int) (rs : List FRow) : ∀ j, j ≤ rs.length → ∀ i, (srtTo c rs j)[i]? = if i < j then (rs[i]?).map (FRow.sort c) else rs[i]?
  | 0, _, i => by simp [srtTo]
  | j + 1, hj, i => by
    rw [srtTo, List.getElem?_set, srtTo_length, srtTo_get c rs j (by omega)]
    by_cases h : j = i
    · subst h
      rw [if_pos rfl, if_pos (by omega), if_pos (by omega)]
      simp [List.getD, show j < rs.length by omega]
    · rw [if_neg h]
      by_cases h2 : i < j
      · rw [if_pos h2, if_pos (by omega)]
      · rw [if_neg h2, if_neg (by omega)]
theorem srtTo_v (c : Fd → Fd → Int) (rs : List FRow) (j : Nat) (hj : j ≤ rs.length) : (srtTo c rs j).map FRow.v = rs.map FRow.v := by
  apply List.ext_getElem?
  intro i
  rw [List.getElem?_map, List.getElem?_map, srtTo_get c rs j hj]
  split
  · rw [Option.map_map]
    congr 1
    funext x
    exact FRow.sort_v c x
  · rfl
theorem srtTo_l (c : Fd → Fd → Int) (rs : List FRow) : (srtTo c rs rs.length).map FRow.l = (rs.map FRow.l).map (isort (ltOf c)) := by
  apply List.ext_getElem?
  intro i
  rw [List.getElem?_map, List.getElem?_map, List.getElem?_map, srtTo_get c rs _ (Nat.le_refl _)]
  by_cases h : i < rs.length
  · rw [if_pos h, Option.map_map, Option.map_map]; rfl
  · rw [if_neg h, List.getElem?_eq_none (by omega)]; rfl
theorem flatF_snoc (l : List Fd) (x : Fd) : flatF (l ++ [x]) = flatF l ++ x.cells := by simp [flatF]
theorem found_rd {K : World} {F : List Assn} {A : Option Addr} {n : Nat} {fs : List Fd} (hs : Seq K F A n 5 (flatF fs)) {k : Nat} {x : Fd} (hx : fs[k]? = some x) {j : Nat} {v : Value} (hj : x.cells[j]? = some v) : Rd K F (A.map (·.add (k * 5 + j))) v :=
  hs.rd _ _ (flat_get (s := 5) Fd.len fs k j x v hx hj)
section
variable {K : World} {F : List Assn}
/-- A row is sorted, in code. -/
def SortAt (f : Nat) (c : Fd → Fd → Int) (ys : List Fd) : Prop := ∀ (K : World) (F : List Assn) (A : Option Addr) (cap : Nat), Does Try.prog 14 #[.slice A ys.length cap, .func (.func f) #[] #[]] K (SlA (.slice A ys.length cap) 26 5 ys.length (flatF ys) :: F)
  (fun v H' => ∀ w, Sat K w H' → Sat K w (SlA (.slice A ys.length cap) 26 5 ys.length (flatF (isort (ltOf c) ys)) :: F))
theorem attach_wholeG {f : Nat} {c : Fd → Fd → Int} (hf : CmpIs f c) {lebs n cap : Nat} {A : Option Addr} {fs : List Fd} (hl : 1 ≤ lebs ∧ lebs ≤ 64) (hs : Seq K F A n 5 (flatF fs)) (hn : fs.length = n) (h20 : n < 1000) (hso : ∀ leb, leb < lebs → SortAt f c (fs.filter (isOf leb))) :
    Does Try.prog 7 #[.int .i64 (lebs : Int), .slice A n cap, .func (.func f) #[] #[]] K F
      (fun v H' => ∃ bo : Nat, ∃ rs : List FRow, rs.length = lebs ∧ rs.map FRow.l = (rowsF lebs fs).map (isort (ltOf c)) ∧ v = .tuple #[.slice (some ⟨bo, 0, none⟩) lebs lebs, .int .i64 0] ∧ H' = Cells bo 22 (rs.map FRow.v) :: AllA (rs.map FRow.row) :: F) := by
  refine Does.enter Try.func7 rfl Try.ntmps7 rfl ?_
  simp only [env0, Nat.reduceAdd]
  refine WC.sr ?_
  refine WL.sg rfl rfl ?_
  refine WL.sg rfl rfl ?_
  refine WL.nil ?_
  refine WC.seq ?_
  refine WC.sr ?_
  refine WL.mv rfl rfl ?_
  refine WL.val (V.lss (OV.p rfl) (OV.p rfl)) rfl ?_
  refine WL.mv rfl rfl ?_
  refine WL.valG (oj := _) rfl rfl rfl GC.f (V.move (OV.p rfl)) rfl ?_
  refine WL.valG (oj := _) rfl rfl rfl GC.f (V.gtr (OV.g rfl id) (OV.p rfl)) rfl ?_
  refine WL.val (V.pickOr (OV.p rfl) (OV.g rfl id)) rfl ?_
  refine WL.nil ?_
  refine WC.condF' rfl ((by simp; omega)) ?_
  refine WC.skip ?_
  refine WC.sr ?_
  refine WL.mv rfl rfl ?_
  refine WL.make1 (m := lebs) Try.underlying34 el22 (OV.p rfl) (OV.p rfl) rfl rfl (by omega) rfl rfl rfl (fun bo => ?_)
  refine WL.sg rfl rfl ?_
  refine WL.nil ?_
  refine WC.seq ?_
  refine WC.sr ?_
  refine WL.mv rfl rfl ?_
  refine WL.val (V.len (t := 22) Try.runUnderlying22 (OV.p rfl)) rfl ?_
  refine WL.mv rfl rfl ?_
  refine WL.nil ?_
  refine WC.block ?_
  refine WC.loop (σ := Nat × List FRow) (fun s => [(0, .int .i64 (lebs : Int)), (2, .func (.func f) #[] #[]), (8, .slice (some ⟨bo, 0, none⟩) lebs lebs), (22, .slice A n cap), (23, .int .i64 (n : Int)), (24, .int .i64 (s.1 : Int))]) (fun s => Cells bo 22 (s.2.map FRow.v) :: AllA (s.2.map FRow.row) :: F) (fun s => s.1 ≤ n ∧ s.2.length = lebs ∧ s.2.map FRow.l = rowsF lebs (fs.take s.1)) (fun s => n - s.1) (0, List.replicate lebs fr0) ⟨Nat.zero_le _, List.length_replicate, by
    rw [List.map_replicate]
    apply List.ext_getElem
    · simp [rowsF]
    · intro i h1 h2; simp [rowsF, fr0]⟩ (.cons rfl (.cons rfl (.cons rfl (.cons rfl (.cons rfl (.cons rfl (.nil _))))))) (fun w h => by
    dsimp only
    rw [List.map_replicate, List.map_replicate]
    have key : ∀ m, ∀ H, Sat K w H → Sat K w (List.replicate m fr0.row ++ H) := fun m => by
      induction m with
      | zero => intro H h; exact h
      | succ m ih => intro H h; exact Sat.slNil (ih H h) _ _
    have h1 : Sat K w (List.replicate lebs fr0.row ++ (Cells bo 22 (List.replicate lebs fr0.v) :: F)) := key lebs _ h
    exact (Sat.all h1).p1) ?_
  rintro ⟨k, rs⟩ ⟨hk, hrl, hrs⟩
  dsimp only at hk hrl hrs ⊢
  refine WC.sr ?_
  refine WL.val (V.lss (OV.p rfl) (OV.p rfl)) rfl ?_
  refine WL.nil ?_
  refine WC.seq ?_
  refine WC.cond rfl (fun hc1 => ?_) (fun hc1 => ?_)
  ·simp only [decide_eq_true_eq, decide_eq_false_iff_not] at hc1
   obtain ⟨x, hx⟩ : ∃ x, fs[k]? = some x := ⟨_, List.getElem?_eq_getElem (by omega)⟩
   have hel : ∀ (j : Nat) v, x.cells[j]? = some v → Rd K F (A.map (·.add (k * 5 + j))) v := fun j v hj => found_rd hs hx hj
   have htk : fs.take (k + 1) = fs.take k ++ [x] := by rw [List.take_add_one, hx]; rfl
   have hti : (k : Int).toNat = k := by omega
   refine WC.skip ?_
   refine WC.seq ?_
   refine WC.block ?_
   refine WC.sr ?_
   refine WL.val (V.val_eq (v' := sp A (k * 5)) (V.idxS st22 (OV.p rfl) (OV.p rfl) (fun hc => by omega) (fun hc => by rw [hti]; repeat (first | exact hel 0 _ rfl | apply Rd.up))) (fun _ => by rw [hti])) rfl ?_
   refine WL.val (V.loadS (vs := x.cells) ⟨Try.isAgg26, Try.sizeOf26⟩ (OV.p rfl) rfl (by decide) (fun _ j v hj => by repeat (first | exact hel j v hj | apply Rd.up))) rfl ?_
   refine WL.alloc (cs := [(.int .i64 0), (.int .i64 0), (.int .i64 0), (.int .i64 0), (.bool false)]) Try.zeroValue26 rfl rfl (fun b10 => ?_)
   refine WL.store (cs := [_, _, _, _, _]) Try.sizeOf26 (OV.p rfl) (OV.p rfl) rfl rfl rfl (by repeat (first | exact Upd.here (cs' := [_, _, _, _, _]) rfl rfl | apply Upd.up)) ?_
   refine WL.nil ?_
   refine WC.sr ?_
   refine WL.val (V.fieldAddr fo26_1 (OV.p rfl)) rfl ?_
   refine WL.val (V.fieldAddr fo24_0 (OV.p rfl)) rfl ?_
   refine WL.ld Try.isAgg3 rfl rfl ?_
   refine WL.sg rfl rfl ?_
   refine WL.nil ?_
   refine WC.sr ?_
   refine WL.val (V.fieldAddr fo26_2 (OV.p rfl)) rfl ?_
   refine WL.ld Try.isAgg4 rfl rfl ?_
   refine WL.mv rfl rfl ?_
   refine WL.valG (oj := _) rfl rfl rfl GC.t (V.move (OV.p rfl)) rfl ?_
   refine WL.valG (oj := _) rfl rfl rfl GC.t (V.geq (OV.g rfl id) (OV.p rfl)) rfl ?_
   refine WL.val (V.pickAnd (OV.p rfl) (OV.g rfl id)) rfl ?_
   refine WL.mv rfl rfl ?_
   refine WL.valG (oj := _) rfl rfl rfl GC.t (V.move (OV.p rfl)) rfl ?_
   refine WL.valG (oj := _) rfl rfl rfl GC.t (V.move (OV.p rfl)) rfl ?_
   refine WL.valG (oj := _) rfl rfl rfl GC.t (V.lss (OV.g rfl id) (OV.g rfl id)) rfl ?_
   refine WL.val (V.pickAnd (OV.p rfl) (OV.g rfl id)) rfl ?_
   refine WL.nil ?_
   refine WC.cond rfl (fun hc2 => ?_) (fun hc2 => ?_)
   ·simp only [Bool.and_eq_true, Bool.and_eq_false_iff, decide_eq_true_eq, decide_eq_false_iff_not] at hc2
    have h2 := hc2
    obtain ⟨lb, hlb⟩ : ∃ lb : Nat, x.hd.leb = (lb : Int) := ⟨x.hd.leb.toNat, by omega⟩
    have hll : lb < lebs := by omega
    obtain ⟨r, hr⟩ : ∃ r, r = rs[lb]'(by omega) := ⟨_, rfl⟩
    have hrg : rs[lb]? = some r := by rw [hr]; exact List.getElem?_eq_getElem (by omega)
    have hrl2 : r.l = (fs.take k).filter (isOf lb) := by
      have h3 : (rs.map FRow.l)[lb]? = some r.l := by rw [List.getElem?_map, hrg]; rfl
      rw [hrs] at h3
      simp only [rowsF, List.getElem?_map, List.getElem?_range hll, Option.map_some] at h3
      injection h3 with h3
      exact h3.symm
    have hrb : r.l.length ≤ 1000 := by rw [hrl2]; exact Nat.le_trans (List.length_filter_le _ _) (by rw [List.length_take]; omega)
    have hrow : (rs.map FRow.row)[lb]'(by rw [List.length_map]; omega) = r.row := by rw [List.getElem_map, hr]
    have hvg : (rs.map FRow.v)[0 + x.hd.leb.toNat * 1]? = some r.v := by rw [hlb, show 0 + ((lb : Nat) : Int).toNat * 1 = lb by omega, List.getElem?_map, hrg]; rfl
    refine WC.sub (H' := SlA (.slice r.A r.l.length r.c) 26 5 r.l.length (flatF r.l) :: Cells bo 22 (rs.map FRow.v) :: AllA ((rs.map FRow.row).eraseIdx lb) :: Cells b10 26 x.cells :: F) (Sub.refl _) (fun w h => by
      have h4 := Sat.takeA (k := lb) (by rw [List.length_map]; omega) (h.sel 3 [2, 1, 0] rfl)
      rw [hrow] at h4
      exact h4.sel 4 [0, 2, 1, 3] rfl) ?_
    refine WC.regionA (AllA ((rs.map FRow.row).eraseIdx lb) :: Cells b10 26 x.cells :: F) (by kernel_rfl) ?_
    refine WA.t 0 rfl (V.move (OV.p rfl)) ?_
    refine WA.t 1 rfl (V.move (OV.p rfl)) ?_
    refine WA.t 2 rfl (V.move (OV.p rfl)) ?_
    refine WA.t 3 rfl (V.move (OV.p rfl)) ?_
    refine WA.t 4 rfl (V.idxB st34 (OV.p rfl) (OV.p rfl) (fun hc => by omega)) ?_
    refine WA.t 6 rfl (V.loadA (vs := [_, _, _, _, _]) ⟨Try.isAgg26, Try.sizeOf26⟩ (OV.p rfl) rfl (fun _ => by repeat (first | exact Rds.gets ⟨rfl, rfl, rfl, rfl, rfl, trivial⟩ | apply Rds.up))) ?_
    refine WA.two (i := 5) (j := 7) (fun w h => by repeat (first | exact h | replace h := h.tail)) (by kernel_rfl) rfl rfl ?_ ?_
    ·refine WL.val (V.load Try.isAgg22 (OV.p rfl) (fun _ => by repeat (first | exact Rd.here hvg | apply Rd.up))) rfl ?_
     refine WL.nil ?_
     refine WA.o 7 rfl ?_
     refine WL.buildSlice (E := 26) (cs := [_, _, _, _, _]) (vs := [(0, _)]) ⟨OV.p rfl, trivial⟩ rfl (bsl22_1_0 _ _ _ _ _) rfl (fun b49 => ?_)
     refine WL.nil ?_
     refine WA.o 8 rfl ?_
     refine WL.sub (Sub.refl _) (fun w h => h.p1) ?_
     refine WL.append (m := r.l.length) (q := 1) (news := x.cells) Try.underlying22 el26 (OV.p rfl) (OV.p rfl) (Seq.all rfl) (fun u hu => by simpa using List.all_eq_true.1 (flatF_one x) u hu) (by omega) rfl rfl (fun A5 c5 hA5 hc5 => ?_)
     refine WL.nil ?_
     refine WA.t 9 rfl (V.idxB st34 (OV.p rfl) (OV.p rfl) (fun hc => by omega)) ?_
     refine WA.o 10 rfl ?_
     refine WL.store (cs := [_]) Try.sizeOf22 (OV.p rfl) (OV.p rfl) rfl rfl rfl (Upd.up (Upd.up (Upd.at_ (by rw [List.length_map]; omega)))) ?_
     refine WL.nil ?_
     refine WA.fin ?_
     refine WC.region ?_
     refine WL.ad rfl rfl rfl ?_
     refine WL.mv rfl rfl ?_
     refine WL.nil ?_
     refine ⟨rfl, ?_⟩
     first
     | (refine ⟨(k + 1, rs.set lb ⟨A5, c5, r.l ++ [x]⟩), ⟨by show k + 1 ≤ n; omega, by show (rs.set _ _).length = lebs; rw [List.length_set]; exact hrl, ?_⟩, (by show n - (k + 1) < n - k; omega), .cons rfl (.cons rfl (.cons rfl (.cons rfl (.cons rfl (.cons (look_eq rfl (by simp)) (.nil _)))))), fun w h => ?_⟩
        · show (rs.set lb _).map FRow.l = _
          rw [htk, rowsF_add hll h2.1.1 hlb, List.map_set, hrs, ← hrl2]
        · have h5 := h.sel 5 [0, 3, 2] rfl
          have e1 : SlA (.slice A5 (r.l.length + 1) c5) 26 5 (r.l.length + 1) (flatF r.l ++ x.cells) = FRow.row ⟨A5, c5, r.l ++ [x]⟩ := by
            unfold FRow.row
            rw [flatF_snoc, List.length_append]; rfl
          rw [e1] at h5
          have h6 := Sat.putA (l := rs.map FRow.row) (k := lb) (by rw [List.length_map]; omega) h5
          have e2 : (rs.map FRow.v).set (0 + x.hd.leb.toNat * 1) (.slice A5 (r.l.length + 1) c5) = (rs.set lb ⟨A5, c5, r.l ++ [x]⟩).map FRow.v := by
            rw [hlb, show 0 + ((lb : Nat) : Int).toNat * 1 = lb by omega, List.map_set]
            show _ = (rs.map FRow.v).set lb (.slice A5 (r.l ++ [x]).length c5)
            rw [List.length_append]; rfl
          rw [e2, ← List.map_set] at h6
          exact h6.p1)
     | (refine ⟨(k + 1, rs), ⟨by show k + 1 ≤ n; omega, hrl, ?_⟩, (by show n - (k + 1) < n - k; omega), .cons rfl (.cons rfl (.cons rfl (.cons rfl (.cons rfl (.cons (look_eq rfl (by simp)) (.nil _)))))), fun w h => h.drop 1⟩
        show rs.map FRow.l = _
        rw [htk, rowsF_skip hskip, hrs])
    ·refine WL.buildSlice (E := 26) (cs := [_, _, _, _, _]) (vs := [(0, _)]) ⟨OV.p rfl, trivial⟩ rfl (bsl22_1_0 _ _ _ _ _) rfl (fun b49 => ?_)
     refine WL.nil ?_
     refine WA.o 5 rfl ?_
     refine WL.val (V.load Try.isAgg22 (OV.p rfl) (fun _ => by repeat (first | exact Rd.here hvg | apply Rd.up))) rfl ?_
     refine WL.nil ?_
     refine WA.o 8 rfl ?_
     refine WL.sub (Sub.refl _) (fun w h => h.p1) ?_
     refine WL.append (m := r.l.length) (q := 1) (news := x.cells) Try.underlying22 el26 (OV.p rfl) (OV.p rfl) (Seq.all rfl) (fun u hu => by simpa using List.all_eq_true.1 (flatF_one x) u hu) (by omega) rfl rfl (fun A5 c5 hA5 hc5 => ?_)
     refine WL.nil ?_
     refine WA.t 9 rfl (V.idxB st34 (OV.p rfl) (OV.p rfl) (fun hc => by omega)) ?_
     refine WA.o 10 rfl ?_
     refine WL.store (cs := [_]) Try.sizeOf22 (OV.p rfl) (OV.p rfl) rfl rfl rfl (Upd.up (Upd.up (Upd.at_ (by rw [List.length_map]; omega)))) ?_
     refine WL.nil ?_
     refine WA.fin ?_
     refine WC.region ?_
     refine WL.ad rfl rfl rfl ?_
     refine WL.mv rfl rfl ?_
     refine WL.nil ?_
     refine ⟨rfl, ?_⟩
     first
     | (refine ⟨(k + 1, rs.set lb ⟨A5, c5, r.l ++ [x]⟩), ⟨by show k + 1 ≤ n; omega, by show (rs.set _ _).length = lebs; rw [List.length_set]; exact hrl, ?_⟩, (by show n - (k + 1) < n - k; omega), .cons rfl (.cons rfl (.cons rfl (.cons rfl (.cons rfl (.cons (look_eq rfl (by simp)) (.nil _)))))), fun w h => ?_⟩
        · show (rs.set lb _).map FRow.l = _
          rw [htk, rowsF_add hll h2.1.1 hlb, List.map_set, hrs, ← hrl2]
        · have h5 := h.sel 5 [0, 3, 2] rfl
          have e1 : SlA (.slice A5 (r.l.length + 1) c5) 26 5 (r.l.length + 1) (flatF r.l ++ x.cells) = FRow.row ⟨A5, c5, r.l ++ [x]⟩ := by
            unfold FRow.row
            rw [flatF_snoc, List.length_append]; rfl
          rw [e1] at h5
          have h6 := Sat.putA (l := rs.map FRow.row) (k := lb) (by rw [List.length_map]; omega) h5
          have e2 : (rs.map FRow.v).set (0 + x.hd.leb.toNat * 1) (.slice A5 (r.l.length + 1) c5) = (rs.set lb ⟨A5, c5, r.l ++ [x]⟩).map FRow.v := by
            rw [hlb, show 0 + ((lb : Nat) : Int).toNat * 1 = lb by omega, List.map_set]
            show _ = (rs.map FRow.v).set lb (.slice A5 (r.l ++ [x]).length c5)
            rw [List.length_append]; rfl
          rw [e2, ← List.map_set] at h6
          exact h6.p1)
     | (refine ⟨(k + 1, rs), ⟨by show k + 1 ≤ n; omega, hrl, ?_⟩, (by show n - (k + 1) < n - k; omega), .cons rfl (.cons rfl (.cons rfl (.cons rfl (.cons rfl (.cons (look_eq rfl (by simp)) (.nil _)))))), fun w h => h.drop 1⟩
        show rs.map FRow.l = _
        rw [htk, rowsF_skip hskip, hrs])
   ·simp only [Bool.and_eq_true, Bool.and_eq_false_iff, decide_eq_true_eq, decide_eq_false_iff_not] at hc2
    have h2 := hc2
    have hskip : ∀ leb, leb < lebs → isOf leb x = false := fun leb hl2 => by
      unfold isOf
      rcases h2 with (h | h) | h
      · rw [h]; rfl
      · rw [decide_eq_false (show ¬ x.hd.leb = (leb : Int) by omega), Bool.and_false]
      · rw [decide_eq_false (show ¬ x.hd.leb = (leb : Int) by omega), Bool.and_false]
    refine WC.skip ?_
    refine WC.region ?_
    refine WL.ad rfl rfl rfl ?_
    refine WL.mv rfl rfl ?_
    refine WL.nil ?_
    refine ⟨rfl, ?_⟩
    first
    | (refine ⟨(k + 1, rs.set lb ⟨A5, c5, r.l ++ [x]⟩), ⟨by show k + 1 ≤ n; omega, by show (rs.set _ _).length = lebs; rw [List.length_set]; exact hrl, ?_⟩, (by show n - (k + 1) < n - k; omega), .cons rfl (.cons rfl (.cons rfl (.cons rfl (.cons rfl (.cons (look_eq rfl (by simp)) (.nil _)))))), fun w h => ?_⟩
       · show (rs.set lb _).map FRow.l = _
         rw [htk, rowsF_add hll h2.1.1 hlb, List.map_set, hrs, ← hrl2]
       · have h5 := h.sel 5 [0, 3, 2] rfl
         have e1 : SlA (.slice A5 (r.l.length + 1) c5) 26 5 (r.l.length + 1) (flatF r.l ++ x.cells) = FRow.row ⟨A5, c5, r.l ++ [x]⟩ := by
           unfold FRow.row
           rw [flatF_snoc, List.length_append]; rfl
         rw [e1] at h5
         have h6 := Sat.putA (l := rs.map FRow.row) (k := lb) (by rw [List.length_map]; omega) h5
         have e2 : (rs.map FRow.v).set (0 + x.hd.leb.toNat * 1) (.slice A5 (r.l.length + 1) c5) = (rs.set lb ⟨A5, c5, r.l ++ [x]⟩).map FRow.v := by
           rw [hlb, show 0 + ((lb : Nat) : Int).toNat * 1 = lb by omega, List.map_set]
           show _ = (rs.map FRow.v).set lb (.slice A5 (r.l ++ [x]).length c5)
           rw [List.length_append]; rfl
         rw [e2, ← List.map_set] at h6
         exact h6.p1)
    | (refine ⟨(k + 1, rs), ⟨by show k + 1 ≤ n; omega, hrl, ?_⟩, (by show n - (k + 1) < n - k; omega), .cons rfl (.cons rfl (.cons rfl (.cons rfl (.cons rfl (.cons (look_eq rfl (by simp)) (.nil _)))))), fun w h => h.drop 1⟩
       show rs.map FRow.l = _
       rw [htk, rowsF_skip hskip, hrs])
  ·simp only [decide_eq_true_eq, decide_eq_false_iff_not] at hc1
   refine WC.exit ?_
   refine WC.seq ?_
   refine WC.seq ?_
   obtain rfl : k = n := by omega
   rw [List.take_of_length_le (by omega)] at hrs
   refine WC.region ?_
   refine WL.mv rfl rfl ?_
   refine WL.val (V.len (t := 34) Try.runUnderlying34 (OV.p rfl)) rfl ?_
   refine WL.mv rfl rfl ?_
   refine WL.nil ?_
   refine WC.block ?_
   refine WC.loop (σ := Nat) (fun j => [(2, .func (.func f) #[] #[]), (8, .slice (some ⟨bo, 0, none⟩) lebs lebs), (53, .slice (some ⟨bo, 0, none⟩) lebs lebs), (54, .int .i64 (lebs : Int)), (55, .int .i64 (j : Int))]) (fun j => Cells bo 22 (rs.map FRow.v) :: AllA ((srtTo c rs j).map FRow.row) :: F) (fun j => j ≤ lebs) (fun j => lebs - j) 0 (Nat.zero_le _) (.cons rfl (.cons rfl (.cons rfl (.cons rfl (.cons rfl (.nil _)))))) (fun w h => h) ?_
   rintro j hj
   refine WC.sr ?_
   refine WL.val (V.lss (OV.p rfl) (OV.p rfl)) rfl ?_
   refine WL.nil ?_
   refine WC.seq ?_
   refine WC.cond rfl (fun hc3 => ?_) (fun hc3 => ?_)
   ·simp only [decide_eq_true_eq, decide_eq_false_iff_not] at hc3
    have hjl : j < lebs := by omega
    obtain ⟨r, hr⟩ : ∃ r, r = rs[j]'(by omega) := ⟨_, rfl⟩
    have hrg : rs[j]? = some r := by rw [hr]; exact List.getElem?_eq_getElem (by omega)
    have hsl := srtTo_length c rs j
    have hrj : (srtTo c rs j)[j]? = some r := by rw [srtTo_get c rs j (by omega), if_neg (Nat.lt_irrefl _)]; exact hrg
    have hrow : ((srtTo c rs j).map FRow.row)[j]'(by rw [List.length_map]; omega) = r.row := by
      rw [List.getElem_map]
      congr 1
      rw [List.getElem?_eq_getElem (by omega)] at hrj
      injection hrj
    have hvg : (rs.map FRow.v)[0 + ((j : Nat) : Int).toNat * 1]? = some r.v := by rw [show 0 + ((j : Nat) : Int).toNat * 1 = j by omega, List.getElem?_map, hrg]; rfl
    have hrb : SortAt f c r.l := by
      have h3 : (rs.map FRow.l)[j]? = some r.l := by rw [List.getElem?_map, hrg]; rfl
      rw [hrs] at h3
      simp only [rowsF, List.getElem?_map, List.getElem?_range hjl, Option.map_some] at h3
      injection h3 with h3
      rw [← h3]
      exact hso j hjl
    refine WC.skip ?_
    refine WC.seq ?_
    refine WC.block ?_
    refine WC.sr ?_
    refine WL.val (V.idxB st34 (OV.p rfl) (OV.p rfl) (fun hc => by omega)) rfl ?_
    refine WL.val (V.load Try.isAgg22 (OV.p rfl) (fun _ => Rd.here hvg)) rfl ?_
    refine WL.sg rfl rfl ?_
    refine WL.nil ?_
    refine WC.sub (H' := SlA (.slice r.A r.l.length r.c) 26 5 r.l.length (flatF r.l) :: AllA (((srtTo c rs j).map FRow.row).eraseIdx j) :: Cells bo 22 (rs.map FRow.v) :: F) (Sub.refl _) (fun w h => by
      have h4 := Sat.takeA (k := j) (by rw [List.length_map]; omega) h.p1
      rw [hrow] at h4
      exact h4) ?_
    refine WC.region ?_
    refine WL.mv rfl rfl ?_
    refine WL.mv rfl rfl ?_
    refine WL.call (vs := [_, _]) Try.call14 ⟨OV.p rfl, OV.p rfl, trivial⟩ (hrb _ _ _ _) rfl ?_
    rintro v0 H0 h0
    refine WL.nil ?_
    refine WC.region ?_
    refine WL.ad rfl rfl rfl ?_
    refine WL.mv rfl rfl ?_
    refine WL.nil ?_
    refine ⟨rfl, ?_⟩
    refine ⟨j + 1, hjl, (by show lebs - (j + 1) < lebs - j; omega), .cons rfl (.cons rfl (.cons rfl (.cons rfl (.cons (look_eq rfl (by simp)) (.nil _))))), fun w h => ?_⟩
    have h5 := h0 w h
    have e1 : SlA (.slice r.A r.l.length r.c) 26 5 r.l.length (flatF (isort (ltOf c) r.l)) = (r.sort c).row := by
      unfold FRow.row FRow.sort
      rw [isort_length]
    rw [e1] at h5
    have h6 := Sat.putA (l := (srtTo c rs j).map FRow.row) (k := j) (by rw [List.length_map]; omega) h5
    have e3 : rs.getD j fr0 = r := by simp [List.getD, hrg]
    rw [← List.map_set] at h6
    dsimp only
    rw [srtTo, e3]
    exact h6.p1
   ·simp only [decide_eq_true_eq, decide_eq_false_iff_not] at hc3
    refine WC.exit ?_
    refine WC.sr ?_
    refine WL.mv rfl rfl ?_
    refine WL.sg rfl rfl ?_
    refine WL.sg rfl rfl ?_
    refine WL.nil ?_
    refine WC.ret ?_
    obtain rfl : j = lebs := by omega
    refine BodyQ.ret (H' := Cells bo 22 ((srtTo c rs j).map FRow.v) :: AllA ((srtTo c rs j).map FRow.row) :: F) (Res.tmp2 rfl rfl rfl) (fun w h => by rw [srtTo_v c rs j (by omega)]; exact h) ⟨bo, srtTo c rs j, by rw [srtTo_length, hrl], ?_, rfl, rfl⟩
    have h7 := srtTo_l c rs
    rw [hrl] at h7
    rw [h7, hrs]
theorem attach_whole {f : Nat} {c : Fd → Fd → Int} (hf : CmpIs f c) {lebs n cap : Nat} {A : Option Addr} {fs : List Fd} (hl : 1 ≤ lebs ∧ lebs ≤ 64) (hs : Seq K F A n 5 (flatF fs)) (hn : fs.length = n) (h20 : n < 20) :
    Does Try.prog 7 #[.int .i64 (lebs : Int), .slice A n cap, .func (.func f) #[] #[]] K F
      (fun v H' => ∃ bo : Nat, ∃ rs : List FRow, rs.length = lebs ∧ rs.map FRow.l = (rowsF lebs fs).map (isort (ltOf c)) ∧ v = .tuple #[.slice (some ⟨bo, 0, none⟩) lebs lebs, .int .i64 0] ∧ H' = Cells bo 22 (rs.map FRow.v) :: AllA (rs.map FRow.row) :: F) :=
  attach_wholeG hf hl hs hn (by omega) (fun leb _ _ _ _ _ => sort_found hf rfl (Nat.lt_of_le_of_lt (List.length_filter_le _ _) (by omega)))
end
end Go.Proofs.Ytcmojpiokjhmhaa
