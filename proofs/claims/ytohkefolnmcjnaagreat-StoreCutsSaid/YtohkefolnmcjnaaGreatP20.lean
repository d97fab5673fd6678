import Derived.Test.YtohkefolnmcjnaaGreatP19
namespace Go.Proofs.YtohkefolnmcjnaaGreat
open Go.Sl Go.RowKit
set_option linter.unusedVariables false
set_option linter.unusedSimpArgs false
set_option maxRecDepth 20000
def FRow.sort (c : Fd → Fd → Int) (x : FRow) : FRow := { x with l := isort (ltOf c) x.l }
theorem FRow.sort_v (c : Fd → Fd → Int) (x : FRow) : (x.sort c).v = x.v := by
  show Value.slice x.A (isort (ltOf c) x.l).length x.c = _
  rw [isort_length]
def fr0 : FRow := ⟨none, 0, []⟩
def srtTo (c : Fd → Fd → Int) (rs : List FRow) : Nat → List FRow
  | 0 => rs
  | j + 1 => (srtTo c rs j).set j ((rs.getD j fr0).sort c)
theorem srtTo_length (c : Fd → Fd → Int) (rs : List FRow) : ∀ j, (srtTo c rs j).length = rs.length
  | 0 => rfl
  | j + 1 => by rw [srtTo, List.length_set, srtTo_length]
theorem srtTo_get (c : Fd → Fd → Int) (rs : List FRow) : ∀ j, j ≤ rs.length → ∀ i, (srtTo c rs j)[i]? = if i < j then (rs[i]?).map (FRow.sort c) else rs[i]?
  | 0, _, i => by simp [srtTo]
  | j + 1, hj, i => by
    rw [srtTo, List.getElem?_set, srtTo_length, srtTo_get c rs j (by omega)]
    by_cases h : j = i
    · subst h
      rw [if_pos rfl, if_pos (by omega), if_pos (by omega)]
      simp [List.getD, show j < rs.length by omega]
    · rw [if_neg h]
      by_cases h2 : i < j
      · rw [if_pos h2, if_pos (by omega)]
      · rw [if_neg h2, if_neg (by omega)]
theorem srtTo_v (c : Fd → Fd → Int) (rs : List FRow) (j : Nat) (hj : j ≤ rs.length) : (srtTo c rs j).map FRow.v = rs.map FRow.v := by
  apply List.ext_getElem?
  intro i
  rw [List.getElem?_map, List.getElem?_map, srtTo_get c rs j hj]
  split
  · rw [Option.map_map]
    congr 1
    funext x
    exact FRow.sort_v c x
  · rfl
theorem srtTo_l (c : Fd → Fd → Int) (rs : List FRow) : (srtTo c rs rs.length).map FRow.l = (rs.map FRow.l).map (isort (ltOf c)) := by
  apply List.ext_getElem?
  intro i
  rw [List.getElem?_map, List.getElem?_map, List.getElem?_map, srtTo_get c rs _ (Nat.le_refl _)]
  by_cases h : i < rs.length
  · rw [if_pos h, Option.map_map, Option.map_map]; rfl
  · rw [if_neg h, List.getElem?_eq_none (by omega)]; rfl
theorem flatF_snoc (l : List Fd) (x : Fd) : flatF (l ++ [x]) = flatF l ++ x.cells := by simp [flatF]
theorem found_rd {K : World} {F : List Assn} {A : Option Addr} {n : Nat} {fs : List Fd} (hs : Seq K F A n 5 (flatF fs)) {k : Nat} {x : Fd} (hx : fs[k]? = some x) {j : Nat} {v : Value} (hj : x.cells[j]? = some v) : Rd K F (A.map (·.add (k * 5 + j))) v :=
  hs.rd _ _ (flat_get (s := 5) Fd.len fs k j x v hx hj)
section
variable {K : World} {F : List Assn}
theorem attach_whole {f : Nat} {c : Fd → Fd → Int} (hf : CmpIs f c) {lebs n cap : Nat} {A : Option Addr} {fs : List Fd} (hl : 1 ≤ lebs ∧ lebs ≤ 64) (hs : Seq K F A n 5 (flatF fs)) (hn : fs.length = n) (h20 : n < 20) :
    Does Tryz.prog 128 #[.int .i64 (lebs : Int), .slice A n cap, .func (.func f) #[] #[]] K F
      (fun v H' => ∃ bo : Nat, ∃ rs : List FRow, rs.length = lebs ∧ rs.map FRow.l = (rowsF lebs fs).map (isort (ltOf c)) ∧ v = .tuple #[.slice (some ⟨bo, 0, none⟩) lebs lebs, .int .i64 0] ∧ H' = Cells bo 133 (rs.map FRow.v) :: AllA (rs.map FRow.row) :: F) := by
  refine Does.enter Tryz.func128 rfl Tryz.ntmps128 rfl ?_
  simp only [env0, Nat.reduceAdd]
  refine WC.sr ?_
  refine WL.sg rfl rfl ?_
  refine WL.sg rfl rfl ?_
  refine WL.nil ?_
  refine WC.seq ?_
  refine WC.sr ?_
  refine WL.mv rfl rfl ?_
  refine WL.val (V.lss (OV.p rfl) (OV.p rfl)) rfl ?_
  refine WL.mv rfl rfl ?_
  refine WL.valG (oj := _) rfl rfl rfl GC.f (V.move (OV.p rfl)) rfl ?_
  refine WL.valG (oj := _) rfl rfl rfl GC.f (V.gtr (OV.g rfl id) (OV.p rfl)) rfl ?_
  refine WL.val (V.pickOr (OV.p rfl) (OV.g rfl id)) rfl ?_
  refine WL.nil ?_
  refine WC.condF' rfl ((by simp; omega)) ?_
  refine WC.skip ?_
  refine WC.sr ?_
  refine WL.mv rfl rfl ?_
  refine WL.make1 (m := lebs) Tryz.underlying168 el133 (OV.p rfl) (OV.p rfl) rfl rfl (by omega) rfl rfl rfl (fun bo => ?_)
  refine WL.sg rfl rfl ?_
  refine WL.nil ?_
  refine WC.seq ?_
  refine WC.sr ?_
  refine WL.mv rfl rfl ?_
  refine WL.val (V.len (t := 133) Tryz.runUnderlying133 (OV.p rfl)) rfl ?_
  refine WL.mv rfl rfl ?_
  refine WL.nil ?_
  refine WC.block ?_
  refine WC.loop (σ := Nat × List FRow) (fun s => [(0, .int .i64 (lebs : Int)), (2, .func (.func f) #[] #[]), (8, .slice (some ⟨bo, 0, none⟩) lebs lebs), (22, .slice A n cap), (23, .int .i64 (n : Int)), (24, .int .i64 (s.1 : Int))]) (fun s => Cells bo 133 (s.2.map FRow.v) :: AllA (s.2.map FRow.row) :: F) (fun s => s.1 ≤ n ∧ s.2.length = lebs ∧ s.2.map FRow.l = rowsF lebs (fs.take s.1)) (fun s => n - s.1) (0, List.replicate lebs fr0) ⟨Nat.zero_le _, List.length_replicate, by
    rw [List.map_replicate]
    apply List.ext_getElem
    · simp [rowsF]
    · intro i h1 h2; simp [rowsF, fr0]⟩ (.cons rfl (.cons rfl (.cons rfl (.cons rfl (.cons rfl (.cons rfl (.nil _))))))) (fun w h => by
    dsimp only
    rw [List.map_replicate, List.map_replicate]
    have key : ∀ m, ∀ H, Sat K w H → Sat K w (List.replicate m fr0.row ++ H) := fun m => by
      induction m with
      | zero => intro H h; exact h
      | succ m ih => intro H h; exact Sat.slNil (ih H h) _ _
    have h1 : Sat K w (List.replicate lebs fr0.row ++ (Cells bo 133 (List.replicate lebs fr0.v) :: F)) := key lebs _ h
    exact (Sat.all h1).p1) ?_
  rintro ⟨k, rs⟩ ⟨hk, hrl, hrs⟩
  dsimp only at hk hrl hrs ⊢
  refine WC.sr ?_
  refine WL.val (V.lss (OV.p rfl) (OV.p rfl)) rfl ?_
  refine WL.nil ?_
  refine WC.seq ?_
  refine WC.cond rfl (fun hc1 => ?_) (fun hc1 => ?_)
  ·simp only [decide_eq_true_eq, decide_eq_false_iff_not] at hc1
   obtain ⟨x, hx⟩ : ∃ x, fs[k]? = some x := ⟨_, List.getElem?_eq_getElem (by omega)⟩
   have hel : ∀ (j : Nat) v, x.cells[j]? = some v → Rd K F (A.map (·.add (k * 5 + j))) v := fun j v hj => found_rd hs hx hj
   have htk : fs.take (k + 1) = fs.take k ++ [x] := by rw [List.take_add_one, hx]; rfl
   have hti : (k : Int).toNat = k := by omega
   refine WC.skip ?_
   refine WC.seq ?_
   refine WC.block ?_
   refine WC.sr ?_
   refine WL.val (V.val_eq (v' := sp A (k * 5)) (V.idxS st133 (OV.p rfl) (OV.p rfl) (fun hc => by omega) (fun hc => by rw [hti]; repeat (first | exact hel 0 _ rfl | apply Rd.up))) (fun _ => by rw [hti])) rfl ?_
   refine WL.val (V.loadS (vs := x.cells) ⟨Tryz.isAgg167, Tryz.sizeOf167⟩ (OV.p rfl) rfl (by decide) (fun _ j v hj => by repeat (first | exact hel j v hj | apply Rd.up))) rfl ?_
   refine WL.alloc (cs := [(.int .i64 0), (.int .i64 0), (.int .i64 0), (.int .i64 0), (.bool false)]) Tryz.zeroValue167 rfl rfl (fun b10 => ?_)
   refine WL.store (cs := [_, _, _, _, _]) Tryz.sizeOf167 (OV.p rfl) (OV.p rfl) rfl rfl rfl (by repeat (first | exact Upd.here (cs' := [_, _, _, _, _]) rfl rfl | apply Upd.up)) ?_
   refine WL.nil ?_
   refine WC.sr ?_
   refine WL.val (V.fieldAddr fo167_1 (OV.p rfl)) rfl ?_
   refine WL.val (V.fieldAddr fo129_0 (OV.p rfl)) rfl ?_
   refine WL.ld Tryz.isAgg3 rfl rfl ?_
   refine WL.sg rfl rfl ?_
   refine WL.nil ?_
   refine WC.sr ?_
   refine WL.val (V.fieldAddr fo167_2 (OV.p rfl)) rfl ?_
   refine WL.ld Tryz.isAgg4 rfl rfl ?_
   refine WL.mv rfl rfl ?_
   refine WL.valG (oj := _) rfl rfl rfl GC.t (V.move (OV.p rfl)) rfl ?_
   refine WL.valG (oj := _) rfl rfl rfl GC.t (V.geq (OV.g rfl id) (OV.p rfl)) rfl ?_
   refine WL.val (V.pickAnd (OV.p rfl) (OV.g rfl id)) rfl ?_
   refine WL.mv rfl rfl ?_
   refine WL.valG (oj := _) rfl rfl rfl GC.t (V.move (OV.p rfl)) rfl ?_
   refine WL.valG (oj := _) rfl rfl rfl GC.t (V.move (OV.p rfl)) rfl ?_
   refine WL.valG (oj := _) rfl rfl rfl GC.t (V.lss (OV.g rfl id) (OV.g rfl id)) rfl ?_
   refine WL.val (V.pickAnd (OV.p rfl) (OV.g rfl id)) rfl ?_
   refine WL.nil ?_
   refine WC.cond rfl (fun hc2 => ?_) (fun hc2 => ?_)
   ·simp only [Bool.and_eq_true, Bool.and_eq_false_iff, decide_eq_true_eq, decide_eq_false_iff_not] at hc2
    have h2 := hc2
    obtain ⟨lb, hlb⟩ : ∃ lb : Nat, x.hd.leb = (lb : Int) := ⟨x.hd.leb.toNat, by omega⟩
    have hll : lb < lebs := by omega
    obtain ⟨r, hr⟩ : ∃ r, r = rs[lb]'(by omega) := ⟨_, rfl⟩
    have hrg : rs[lb]? = some r := by rw [hr]; exact List.getElem?_eq_getElem (by omega)
    have hrl2 : r.l = (fs.take k).filter (isOf lb) := by
      have h3 : (rs.map FRow.l)[lb]? = some r.l := by rw [List.getElem?_map, hrg]; rfl
      rw [hrs] at h3
      simp only [rowsF, List.getElem?_map, List.getElem?_range hll, Option.map_some] at h3
      injection h3 with h3
      exact h3.symm
    have hrb : r.l.length ≤ 20 := by rw [hrl2]; exact Nat.le_trans (List.length_filter_le _ _) (by rw [List.length_take]; omega)
    have hrow : (rs.map FRow.row)[lb]'(by rw [List.length_map]; omega) = r.row := by rw [List.getElem_map, hr]
    have hvg : (rs.map FRow.v)[0 + x.hd.leb.toNat * 1]? = some r.v := by rw [hlb, show 0 + ((lb : Nat) : Int).toNat * 1 = lb by omega, List.getElem?_map, hrg]; rfl
    refine WC.sub (H' := SlA (.slice r.A r.l.length r.c) 167 5 r.l.length (flatF r.l) :: Cells bo 133 (rs.map FRow.v) :: AllA ((rs.map FRow.row).eraseIdx lb) :: Cells b10 167 x.cells :: F) (Sub.refl _) (fun w h => by
      have h4 := Sat.takeA (k := lb) (by rw [List.length_map]; omega) (h.sel 3 [2, 1, 0] rfl)
      rw [hrow] at h4
      exact h4.sel 4 [0, 2, 1, 3] rfl) ?_
    refine WC.regionA (AllA ((rs.map FRow.row).eraseIdx lb) :: Cells b10 167 x.cells :: F) (by kernel_rfl) ?_
    refine WA.t 0 rfl (V.move (OV.p rfl)) ?_
    refine WA.t 1 rfl (V.move (OV.p rfl)) ?_
    refine WA.t 2 rfl (V.move (OV.p rfl)) ?_
    refine WA.t 3 rfl (V.move (OV.p rfl)) ?_
    refine WA.t 4 rfl (V.idxB st168 (OV.p rfl) (OV.p rfl) (fun hc => by omega)) ?_
    refine WA.t 6 rfl (V.loadA (vs := [_, _, _, _, _]) ⟨Tryz.isAgg167, Tryz.sizeOf167⟩ (OV.p rfl) rfl (fun _ => by repeat (first | exact Rds.gets ⟨rfl, rfl, rfl, rfl, rfl, trivial⟩ | apply Rds.up))) ?_
    refine WA.two (i := 5) (j := 7) (fun w h => by repeat (first | exact h | replace h := h.tail)) (by kernel_rfl) rfl rfl ?_ ?_
    ·refine WL.val (V.load Tryz.isAgg133 (OV.p rfl) (fun _ => by repeat (first | exact Rd.here hvg | apply Rd.up))) rfl ?_
     refine WL.nil ?_
     refine WA.o 7 rfl ?_
     refine WL.buildSlice (E := 167) (cs := [_, _, _, _, _]) (vs := [(0, _)]) ⟨OV.p rfl, trivial⟩ rfl (bsl133_1_0 _ _ _ _ _) rfl (fun b49 => ?_)
     refine WL.nil ?_
     refine WA.o 8 rfl ?_
     refine WL.sub (Sub.refl _) (fun w h => h.p1) ?_
     refine WL.append (m := r.l.length) (q := 1) (news := x.cells) Tryz.underlying133 el167 (OV.p rfl) (OV.p rfl) (Seq.all rfl) (fun u hu => by simpa using List.all_eq_true.1 (flatF_one x) u hu) (by omega) rfl rfl (fun A5 c5 hA5 hc5 => ?_)
     refine WL.nil ?_
     refine WA.t 9 rfl (V.idxB st168 (OV.p rfl) (OV.p rfl) (fun hc => by omega)) ?_
     refine WA.o 10 rfl ?_
     refine WL.store (cs := [_]) Tryz.sizeOf133 (OV.p rfl) (OV.p rfl) rfl rfl rfl (Upd.up (Upd.up (Upd.at_ (by rw [List.length_map]; omega)))) ?_
     refine WL.nil ?_
     refine WA.fin ?_
     refine WC.region ?_
     refine WL.ad rfl rfl rfl ?_
     refine WL.mv rfl rfl ?_
     refine WL.nil ?_
     refine ⟨rfl, ?_⟩
     first
     | (refine ⟨(k + 1, rs.set lb ⟨A5, c5, r.l ++ [x]⟩), ⟨by show k + 1 ≤ n; omega, by show (rs.set _ _).length = lebs; rw [List.length_set]; exact hrl, ?_⟩, (by show n - (k + 1) < n - k; omega), .cons rfl (.cons rfl (.cons rfl (.cons rfl (.cons rfl (.cons (look_eq rfl (by simp)) (.nil _)))))), fun w h => ?_⟩
        · show (rs.set lb _).map FRow.l = _
          rw [htk, rowsF_add hll h2.1.1 hlb, List.map_set, hrs, ← hrl2]
        · have h5 := h.sel 5 [0, 3, 2] rfl
          have e1 : SlA (.slice A5 (r.l.length + 1) c5) 167 5 (r.l.length + 1) (flatF r.l ++ x.cells) = FRow.row ⟨A5, c5, r.l ++ [x]⟩ := by
            unfold FRow.row
            rw [flatF_snoc, List.length_append]; rfl
          rw [e1] at h5
          have h6 := Sat.putA (l := rs.map FRow.row) (k := lb) (by rw [List.length_map]; omega) h5
          have e2 : (rs.map FRow.v).set (0 + x.hd.leb.toNat * 1) (.slice A5 (r.l.length + 1) c5) = (rs.set lb ⟨A5, c5, r.l ++ [x]⟩).map FRow.v := by
            rw [hlb, show 0 + ((lb : Nat) : Int).toNat * 1 = lb by omega, List.map_set]
            show _ = (rs.map FRow.v).set lb (.slice A5 (r.l ++ [x]).length c5)
            rw [List.length_append]; rfl
          rw [e2, ← List.map_set] at h6
          exact h6.p1)
     | (refine ⟨(k + 1, rs), ⟨by show k + 1 ≤ n; omega, hrl, ?_⟩, (by show n - (k + 1) < n - k; omega), .cons rfl (.cons rfl (.cons rfl (.cons rfl (.cons rfl (.cons (look_eq rfl (by simp)) (.nil _)))))), fun w h => h.drop 1⟩
        show rs.map FRow.l = _
        rw [htk, rowsF_skip hskip, hrs])
    ·refine WL.buildSlice (E := 167) (cs := [_, _, _, _, _]) (vs := [(0, _)]) ⟨OV.p rfl, trivial⟩ rfl (bsl133_1_0 _ _ _ _ _) rfl (fun b49 => ?_)
     refine WL.nil ?_
     refine WA.o 5 rfl ?_
     refine WL.val (V.load Tryz.isAgg133 (OV.p rfl) (fun _ => by repeat (first | exact Rd.here hvg | apply Rd.up))) rfl ?_
     refine WL.nil ?_
     refine WA.o 8 rfl ?_
     refine WL.sub (Sub.refl _) (fun w h => h.p1) ?_
     refine WL.append (m := r.l.length) (q := 1) (news := x.cells) Tryz.underlying133 el167 (OV.p rfl) (OV.p rfl) (Seq.all rfl) (fun u hu => by simpa using List.all_eq_true.1 (flatF_one x) u hu) (by omega) rfl rfl (fun A5 c5 hA5 hc5 => ?_)
     refine WL.nil ?_
     refine WA.t 9 rfl (V.idxB st168 (OV.p rfl) (OV.p rfl) (fun hc => by omega)) ?_
     refine WA.o 10 rfl ?_
     refine WL.store (cs := [_]) Tryz.sizeOf133 (OV.p rfl) (OV.p rfl) rfl rfl rfl (Upd.up (Upd.up (Upd.at_ (by rw [List.length_map]; omega)))) ?_
     refine WL.nil ?_
     refine WA.fin ?_
     refine WC.region ?_
     refine WL.ad rfl rfl rfl ?_
     refine WL.mv rfl rfl ?_
     refine WL.nil ?_
     refine ⟨rfl, ?_⟩
     first
     | (refine ⟨(k + 1, rs.set lb ⟨A5, c5, r.l ++ [x]⟩), ⟨by show k + 1 ≤ n; omega, by show (rs.set _ _).length = lebs; rw [List.length_set]; exact hrl, ?_⟩, (by show n - (k + 1) < n - k; omega), .cons rfl (.cons rfl (.cons rfl (.cons rfl (.cons rfl (.cons (look_eq rfl (by simp)) (.nil _)))))), fun w h => ?_⟩
        · show (rs.set lb _).map FRow.l = _
          rw [htk, rowsF_add hll h2.1.1 hlb, List.map_set, hrs, ← hrl2]
        · have h5 := h.sel 5 [0, 3, 2] rfl
          have e1 : SlA (.slice A5 (r.l.length + 1) c5) 167 5 (r.l.length + 1) (flatF r.l ++ x.cells) = FRow.row ⟨A5, c5, r.l ++ [x]⟩ := by
            unfold FRow.row
            rw [flatF_snoc, List.length_append]; rfl
          rw [e1] at h5
          have h6 := Sat.putA (l := rs.map FRow.row) (k := lb) (by rw [List.length_map]; omega) h5
          have e2 : (rs.map FRow.v).set (0 + x.hd.leb.toNat * 1) (.slice A5 (r.l.length + 1) c5) = (rs.set lb ⟨A5, c5, r.l ++ [x]⟩).map FRow.v := by
            rw [hlb, show 0 + ((lb : Nat) : Int).toNat * 1 = lb by omega, List.map_set]
            show _ = (rs.map FRow.v).set lb (.slice A5 (r.l ++ [x]).length c5)
            rw [List.length_append]; rfl
          rw [e2, ← List.map_set] at h6
          exact h6.p1)
     | (refine ⟨(k + 1, rs), ⟨by show k + 1 ≤ n; omega, hrl, ?_⟩, (by show n - (k + 1) < n - k; omega), .cons rfl (.cons rfl (.cons rfl (.cons rfl (.cons rfl (.cons (look_eq rfl (by simp)) (.nil _)))))), fun w h => h.drop 1⟩
        show rs.map FRow.l = _
        rw [htk, rowsF_skip hskip, hrs])
   ·simp only [Bool.and_eq_true, Bool.and_eq_false_iff, decide_eq_true_eq, decide_eq_false_iff_not] at hc2
    have h2 := hc2
    have hskip : ∀ leb, leb < lebs → isOf leb x = false := fun leb hl2 => by
      unfold isOf
      rcases h2 with (h | h) | h
      · rw [h]; rfl
      · rw [decide_eq_false (show ¬ x.hd.leb = (leb : Int) by omega), Bool.and_false]
      · rw [decide_eq_false (show ¬ x.hd.leb = (leb : Int) by omega), Bool.and_false]
    refine WC.skip ?_
    refine WC.region ?_
    refine WL.ad rfl rfl rfl ?_
    refine WL.mv rfl rfl ?_
    refine WL.nil ?_
    refine ⟨rfl, ?_⟩
    first
    | (refine ⟨(k + 1, rs.set lb ⟨A5, c5, r.l ++ [x]⟩), ⟨by show k + 1 ≤ n; omega, by show (rs.set _ _).length = lebs; rw [List.length_set]; exact hrl, ?_⟩, (by show n - (k + 1) < n - k; omega), .cons rfl (.cons rfl (.cons rfl (.cons rfl (.cons rfl (.cons (look_eq rfl (by simp)) (.nil _)))))), fun w h => ?_⟩
       · show (rs.set lb _).map FRow.l = _
         rw [htk, rowsF_add hll h2.1.1 hlb, List.map_set, hrs, ← hrl2]
       · have h5 := h.sel 5 [0, 3, 2] rfl
         have e1 : SlA (.slice A5 (r.l.length + 1) c5) 167 5 (r.l.length + 1) (flatF r.l ++ x.cells) = FRow.row ⟨A5, c5, r.l ++ [x]⟩ := by
           unfold FRow.row
           rw [flatF_snoc, List.length_append]; rfl
         rw [e1] at h5
         have h6 := Sat.putA (l := rs.map FRow.row) (k := lb) (by rw [List.length_map]; omega) h5
         have e2 : (rs.map FRow.v).set (0 + x.hd.leb.toNat * 1) (.slice A5 (r.l.length + 1) c5) = (rs.set lb ⟨A5, c5, r.l ++ [x]⟩).map FRow.v := by
           rw [hlb, show 0 + ((lb : Nat) : Int).toNat * 1 = lb by omega, List.map_set]
           show _ = (rs.map FRow.v).set lb (.slice A5 (r.l ++ [x]).length c5)
           rw [List.length_append]; rfl
         rw [e2, ← List.map_set] at h6
         exact h6.p1)
    | (refine ⟨(k + 1, rs), ⟨by show k + 1 ≤ n; omega, hrl, ?_⟩, (by show n - (k + 1) < n - k; omega), .cons rfl (.cons rfl (.cons rfl (.cons rfl (.cons rfl (.cons (look_eq rfl (by simp)) (.nil _)))))), fun w h => h.drop 1⟩
       show rs.map FRow.l = _
       rw [htk, rowsF_skip hskip, hrs])
  ·simp only [decide_eq_true_eq, decide_eq_false_iff_not] at hc1
   refine WC.exit ?_
   refine WC.seq ?_
   refine WC.seq ?_
   obtain rfl : k = n := by omega
   rw [List.take_of_length_le (by omega)] at hrs
   refine WC.region ?_
   refine WL.mv rfl rfl ?_
   refine WL.val (V.len (t := 168) Tryz.runUnderlying168 (OV.p rfl)) rfl ?_
   refine WL.mv rfl rfl ?_
   refine WL.nil ?_
   refine WC.block ?_
   refine WC.loop (σ := Nat) (fun j => [(2, .func (.func f) #[] #[]), (8, .slice (some ⟨bo, 0, none⟩) lebs lebs), (53, .slice (some ⟨bo, 0, none⟩) lebs lebs), (54, .int .i64 (lebs : Int)), (55, .int .i64 (j : Int))]) (fun j => Cells bo 133 (rs.map FRow.v) :: AllA ((srtTo c rs j).map FRow.row) :: F) (fun j => j ≤ lebs) (fun j => lebs - j) 0 (Nat.zero_le _) (.cons rfl (.cons rfl (.cons rfl (.cons rfl (.cons rfl (.nil _)))))) (fun w h => h) ?_
   rintro j hj
   refine WC.sr ?_
   refine WL.val (V.lss (OV.p rfl) (OV.p rfl)) rfl ?_
   refine WL.nil ?_
   refine WC.seq ?_
   refine WC.cond rfl (fun hc3 => ?_) (fun hc3 => ?_)
   ·simp only [decide_eq_true_eq, decide_eq_false_iff_not] at hc3
    have hjl : j < lebs := by omega
    obtain ⟨r, hr⟩ : ∃ r, r = rs[j]'(by omega) := ⟨_, rfl⟩
    have hrg : rs[j]? = some r := by rw [hr]; exact List.getElem?_eq_getElem (by omega)
    have hsl := srtTo_length c rs j
    have hrj : (srtTo c rs j)[j]? = some r := by rw [srtTo_get c rs j (by omega), if_neg (Nat.lt_irrefl _)]; exact hrg
    have hrow : ((srtTo c rs j).map FRow.row)[j]'(by rw [List.length_map]; omega) = r.row := by
      rw [List.getElem_map]
      congr 1
      rw [List.getElem?_eq_getElem (by omega)] at hrj
      injection hrj
    have hvg : (rs.map FRow.v)[0 + ((j : Nat) : Int).toNat * 1]? = some r.v := by rw [show 0 + ((j : Nat) : Int).toNat * 1 = j by omega, List.getElem?_map, hrg]; rfl
    have hrb : r.l.length < 20 := by
      have h3 : (rs.map FRow.l)[j]? = some r.l := by rw [List.getElem?_map, hrg]; rfl
      rw [hrs] at h3
      simp only [rowsF, List.getElem?_map, List.getElem?_range hjl, Option.map_some] at h3
      injection h3 with h3
      rw [← h3]
      exact Nat.lt_of_le_of_lt (List.length_filter_le _ _) (by omega)
    refine WC.skip ?_
    refine WC.seq ?_
    refine WC.block ?_
    refine WC.sr ?_
    refine WL.val (V.idxB st168 (OV.p rfl) (OV.p rfl) (fun hc => by omega)) rfl ?_
    refine WL.val (V.load Tryz.isAgg133 (OV.p rfl) (fun _ => Rd.here hvg)) rfl ?_
    refine WL.sg rfl rfl ?_
    refine WL.nil ?_
    refine WC.sub (H' := SlA (.slice r.A r.l.length r.c) 167 5 r.l.length (flatF r.l) :: AllA (((srtTo c rs j).map FRow.row).eraseIdx j) :: Cells bo 133 (rs.map FRow.v) :: F) (Sub.refl _) (fun w h => by
      have h4 := Sat.takeA (k := j) (by rw [List.length_map]; omega) h.p1
      rw [hrow] at h4
      exact h4) ?_
    refine WC.region ?_
    refine WL.mv rfl rfl ?_
    refine WL.mv rfl rfl ?_
    refine WL.call (vs := [_, _]) Tryz.call133 ⟨OV.p rfl, OV.p rfl, trivial⟩ (sort_found hf rfl hrb) rfl ?_
    rintro v0 H0 h0
    refine WL.nil ?_
    refine WC.region ?_
    refine WL.ad rfl rfl rfl ?_
    refine WL.mv rfl rfl ?_
    refine WL.nil ?_
    refine ⟨rfl, ?_⟩
    refine ⟨j + 1, hjl, (by show lebs - (j + 1) < lebs - j; omega), .cons rfl (.cons rfl (.cons rfl (.cons rfl (.cons (look_eq rfl (by simp)) (.nil _))))), fun w h => ?_⟩
    have h5 := h0 w h
    have e1 : SlA (.slice r.A r.l.length r.c) 167 5 r.l.length (flatF (isort (ltOf c) r.l)) = (r.sort c).row := by
      unfold FRow.row FRow.sort
      rw [isort_length]
    rw [e1] at h5
    have h6 := Sat.putA (l := (srtTo c rs j).map FRow.row) (k := j) (by rw [List.length_map]; omega) h5
    have e3 : rs.getD j fr0 = r := by simp [List.getD, hrg]
    rw [← List.map_set] at h6
    dsimp only
    rw [srtTo, e3]
    exact h6.p1
   ·simp only [decide_eq_true_eq, decide_eq_false_iff_not] at hc3
    refine WC.exit ?_
    refine WC.sr ?_
    refine WL.mv rfl rfl ?_
    refine WL.sg rfl rfl ?_
    refine WL.sg rfl rfl ?_
    refine WL.nil ?_
    refine WC.ret ?_
    obtain rfl : j = lebs := by omega
    refine BodyQ.ret (H' := Cells bo 133 ((srtTo c rs j).map FRow.v) :: AllA ((srtTo c rs j).map FRow.row) :: F) (Res.tmp2 rfl rfl rfl) (fun w h => by rw [srtTo_v c rs j (by omega)]; exact h) ⟨bo, srtTo c rs j, by rw [srtTo_length, hrl], ?_, rfl, rfl⟩
    have h7 := srtTo_l c rs
    rw [hrl] at h7
    rw [h7, hrs]
end
end Go.Proofs.YtohkefolnmcjnaaGreat
namespace Go.Proofs.YtohkefolnmcjnaaGreat
open Go.Sl Go.RowKit
set_option linter.unusedVariables false
set_option linter.unusedSimpArgs false
set_option maxRecDepth 20000
theorem or_shift {a b n : Nat} (ha : a < 2 ^ n) (hb : b * 2 ^ n < 4611686018427387904) (ha2 : a < 4611686018427387904) : bitsOf .or .i64 (a : Int) ((b * 2 ^ n : Nat) : Int) = ((a + b * 2 ^ n : Nat) : Int) := by
  have h1 : a + b * 2 ^ n < 9223372036854775808 := by omega
  unfold bitsOf
  dsimp only
  rw [ofInt_nat, ofInt_nat, BitVec.toNat_or, BitVec.toNat_ofNat, BitVec.toNat_ofNat]
  have e1 : a % 2 ^ IntKind.i64.bits = a := Nat.mod_eq_of_lt (by show a < 2 ^ 64; omega)
  have e2 : b * 2 ^ n % 2 ^ IntKind.i64.bits = b * 2 ^ n := Nat.mod_eq_of_lt (by show b * 2 ^ n < 2 ^ 64; omega)
  rw [e1, e2]
  have e3 : a ||| b * 2 ^ n = a + b * 2 ^ n := by
    have := Nat.two_pow_add_eq_or_of_lt ha b
    rw [Nat.mul_comm b, Nat.or_comm, ← this, Nat.add_comm]
  rw [e3]
  exact wrap_i64 (by omega)
theorem shl_i64 {x n : Nat} (hn : n ≤ 24) (hx : x < 256) : IntKind.i64.wrap ((x : Int) * 2 ^ (min (n : Int).toNat IntKind.i64.bits)) = ((x * 2 ^ n : Nat) : Int) := by
  have h1 : min (n : Int).toNat IntKind.i64.bits = n := by rw [Int.toNat_natCast]; exact Nat.min_eq_left (by show n ≤ 64; omega)
  have h2 : x * 2 ^ n ≤ 255 * 2 ^ 24 := Nat.mul_le_mul (by omega) (Nat.pow_le_pow_right (by decide) hn)
  rw [h1, show (x : Int) * 2 ^ n = ((x * 2 ^ n : Nat) : Int) by rw [Int.natCast_mul, Int.natCast_pow]; rfl]
  exact wrap_i64 (by omega)
theorem parse_len {g : Geo} {d : List Nat} {h : Hd} (hg : g.mays) (hp : parseF g d = some h) : d.length = g.room.toNat ∧ h.may g = true ∧ d = headB g h := by
  unfold parseF at hp
  split at hp
  · rename_i h1
    injection hp with hp
    subst hp
    simp only [Bool.and_eq_true, decide_eq_true_eq] at h1
    exact ⟨by rw [← h1.2, headB_length hg], h1.1, h1.2.symm⟩
  · cases hp
section
variable {g : Geo} {K : World} {F : List Assn}
theorem head_Bytes (hg : g.mays) (h : Hd) (hn : h.len ≤ 1099511627776) (hl : 0 ≤ h.leb) (hk : 0 ≤ h.num) :
    Does Tryz.prog 126 #[g.v, h.v] K F (fun v H' => (h.may g = true ∧ ∃ A' c', v = .tuple #[.slice A' g.room.toNat c', .int .i64 0] ∧ H' = SlA (.slice A' g.room.toNat c') 5 1 g.room.toNat (nats .u8 (headB g h)) :: F) ∨
      (h.may g = false ∧ v = .tuple #[.slice none 0 0, .int .i64 1] ∧ H' = F)) := by
  have hr := Geo.room_bd hg
  refine Does.enter Tryz.func126 rfl Tryz.ntmps126 rfl ?_
  simp only [env0, Nat.reduceAdd]
  refine WC.sr ?_
  refine WL.box (cs := [_, _, _, _, _]) (OV.p rfl) rfl rfl (fun b2 => ?_)
  refine WL.box (cs := [_, _, _]) (OV.p rfl) rfl rfl (fun b3 => ?_)
  refine WL.sg rfl rfl ?_
  refine WL.sg rfl rfl ?_
  refine WL.nil ?_
  refine WC.seq ?_
  refine WC.sr ?_
  refine WL.val (V.loadA (vs := [_, _, _, _, _]) ⟨Tryz.isAgg23, Tryz.sizeOf23⟩ (OV.p rfl) rfl (fun _ => by repeat (first | exact Rds.gets ⟨rfl, rfl, rfl, rfl, rfl, trivial⟩ | apply Rds.up))) rfl ?_
  refine WL.val (V.loadA (vs := [_, _, _]) ⟨Tryz.isAgg129, Tryz.sizeOf129⟩ (OV.p rfl) rfl (fun _ => by repeat (first | exact Rds.gets ⟨rfl, rfl, rfl, trivial⟩ | apply Rds.up))) rfl ?_
  refine WL.call (vs := [_, _]) Tryz.call172 ⟨OV.p rfl, OV.p rfl, trivial⟩ (head_may hg h hn) rfl ?_
  rintro _ H0 ⟨rfl, h0⟩
  subst H0
  refine WL.val (V.not (OV.p rfl)) rfl ?_
  refine WL.nil ?_
  refine WC.cond rfl (fun hc0 => ?_) (fun hc0 => ?_)
  ·skip
   have h0 := hc0
   simp only [Bool.not_eq_true', Bool.not_eq_false'] at h0
   refine WC.sr ?_
   refine WL.sg rfl rfl ?_
   refine WL.sg rfl rfl ?_
   refine WL.nil ?_
   refine WC.ret ?_
   exact BodyQ.ret (H' := F) (Res.tmp2 rfl rfl rfl) (fun w h => h.drop 2) (.inr ⟨h0, rfl, rfl⟩)
  ·skip
   have h0 := hc0
   simp only [Bool.not_eq_true', Bool.not_eq_false'] at h0
   have hmb := h0
   unfold Hd.may Geo.fits at hmb
   simp only [Bool.and_eq_true, decide_eq_true_eq] at hmb
   refine WC.skip ?_
   refine WC.sr ?_
   refine WL.val (V.loadA (vs := [_, _, _, _, _]) ⟨Tryz.isAgg23, Tryz.sizeOf23⟩ (OV.p rfl) rfl (fun _ => by repeat (first | exact Rds.gets ⟨rfl, rfl, rfl, rfl, rfl, trivial⟩ | apply Rds.up))) rfl ?_
   refine WL.call (vs := [_]) Tryz.call73 ⟨OV.p rfl, trivial⟩ (ecc_RoomOk hg) rfl ?_
   rintro _ H0 ⟨rfl, h0⟩
   subst H0
   refine WL.mv rfl rfl ?_
   refine WL.xt rfl rfl rfl ?_
   refine WL.xt rfl rfl rfl ?_
   refine WL.sg rfl rfl ?_
   refine WL.sg rfl rfl ?_
   refine WL.nil ?_
   refine WC.sr ?_
   refine WL.buildSlice (E := 5) (cs := [_, _, _, _]) (vs := [(0, _), (1, _), (2, _), (3, _)]) ⟨OV.p rfl, OV.p rfl, OV.p rfl, OV.p rfl, trivial⟩ rfl (bsl38_4_0_1_2_3 _ _ _ _) rfl (fun b18 => ?_)
   refine WL.convMark Tryz.underlying38 Tryz.underlying5 (OV.p rfl) rfl ?_
   refine WL.val (V.fieldAddr fo129_0 (OV.p rfl)) rfl ?_
   refine WL.ld Tryz.isAgg3 rfl rfl ?_
   refine WL.val (V.fieldAddr fo129_1 (OV.p rfl)) rfl ?_
   refine WL.ld Tryz.isAgg3 rfl rfl ?_
   refine WL.val (V.fieldAddr fo129_2 (OV.p rfl)) rfl ?_
   refine WL.ld Tryz.isAgg3 rfl rfl ?_
   refine WL.buildSlice (E := 3) (cs := [_, _, _]) (vs := [(0, _), (1, _), (2, _)]) ⟨OV.p rfl, OV.p rfl, OV.p rfl, trivial⟩ rfl (bsl42_3_0_1_2 _ _ _) rfl (fun b26 => ?_)
   refine WL.call (vs := [_, _]) Tryz.call173 ⟨OV.p rfl, OV.p rfl, trivial⟩ (head_lay (cs := [.int .u8 99, .int .u8 97, .int .u8 115, .int .u8 101]) (by repeat (first | exact Seq.allZ rfl | apply Seq.up)) (Seq.all rfl)) rfl ?_
   rintro _ _ ⟨A1, c1, rfl, rfl⟩
   refine WL.sg rfl rfl ?_
   refine WL.nil ?_
   refine WC.sr ?_
   refine WL.mv rfl rfl ?_
   refine WL.mv rfl rfl ?_
   refine WL.sb rfl rfl rfl ?_
   refine WL.appendZ (m := 16) (q := g.room.toNat - 16) Tryz.underlying38 Tryz.underlying3 el5 rfl rfl (OV.p rfl) (OV.p rfl) (by omega) (by omega) (by omega) rfl (fun A2 c2 hA2 hc2 => ?_)
   refine WL.sg rfl rfl ?_
   refine WL.sg rfl rfl ?_
   refine WL.nil ?_
   refine WC.ret ?_
   have e1 : 16 + (g.room.toNat - 16) = g.room.toNat := by omega
   refine BodyQ.ret (H' := SlA (.slice A2 g.room.toNat c2) 5 1 g.room.toNat (nats .u8 (headB g h)) :: F) (Res.tmp2 rfl (look_eq rfl (by rw [e1])) rfl) (fun w hw => ?_) (.inl ⟨h0, A2, c2, rfl, rfl⟩)
   have h' := hw.sel 5 [0] rfl
   rw [e1, le4v_nats hl, le4v_nats hmb.1.1.1.1.1, le4v_nats hk] at h'
   unfold headB
   rw [nats_append, nats_append, nats_append, nats_append, nats_replicate]
   exact h'
theorem head_Parse1 {A : Option Addr} {m cap b i : Nat} {d : List Nat} (hs : Seq K F A m 1 (nats .u8 d)) (h8 : Small 256 d) (hb : Rd K F (some ⟨b, 0, none⟩) (.slice A m cap)) (hi : i + 3 < m) (hm : m ≤ 1000000) :
    Tells Tryz.prog 125 #[.int .i64 (i : Int), ptr b 0] K F (.int .i64 (dec4 d i)) := by
  have hl : d.length = m := by simpa [nats] using hs.len
  obtain ⟨x0, e0⟩ : ∃ x, x = d.getD i 0 := ⟨_, rfl⟩
  obtain ⟨x1, e1⟩ : ∃ x, x = d.getD (i + 1) 0 := ⟨_, rfl⟩
  obtain ⟨x2, e2⟩ : ∃ x, x = d.getD (i + 2) 0 := ⟨_, rfl⟩
  obtain ⟨x3, e3⟩ : ∃ x, x = d.getD (i + 3) 0 := ⟨_, rfl⟩
  have b0 : x0 < 256 := by rw [e0]; exact h8.at_ (by decide) _
  have b1 : x1 < 256 := by rw [e1]; exact h8.at_ (by decide) _
  have b2 : x2 < 256 := by rw [e2]; exact h8.at_ (by decide) _
  have b3 : x3 < 256 := by rw [e3]; exact h8.at_ (by decide) _
  have rd : ∀ (k : Nat) (j : Int) x, j = (i + k : Nat) → k ≤ 3 → x = d.getD (i + k) 0 → Rd K F (A.map (·.add (j.toNat * 1))) (.int .u8 (x : Int)) := fun k j x hj hk hx => by
    rw [hj, hx, Int.toNat_natCast]
    exact hs.nat_rd (by omega)
  have r0 := rd 0 (i : Int) x0 (by omega) (by omega) e0
  have r1 := rd 1 ((i : Int) + 1) x1 (by omega) (by omega) e1
  have r2 := rd 2 ((i : Int) + 2) x2 (by omega) (by omega) e2
  have r3 := rd 3 ((i : Int) + 3) x3 (by omega) (by omega) e3
  have hres : dec4 d i = ((x0 + x1 * 2 ^ 8 + x2 * 2 ^ 16 + x3 * 2 ^ 24 : Nat) : Int) := by unfold dec4; rw [← e0, ← e1, ← e2, ← e3]; omega
  rw [hres]
  refine Does.enter Tryz.func125 rfl Tryz.ntmps125 rfl ?_
  simp only [env0, Nat.reduceAdd]
  refine WC.sr ?_
  refine WL.sg rfl rfl ?_
  refine WL.nil ?_
  refine WC.seq ?_
  refine WC.regionQ (by kernel_rfl) (by kernel_rfl) ?_
  refine WQ.val (V.load Tryz.isAgg38 (OV.p rfl) (fun _ => hb)) rfl ?_
  refine WQ.val (V.move (OV.p rfl)) rfl ?_
  refine WQ.val (V.idxS st38 (OV.p rfl) (OV.p rfl) (fun hc => by omega) (fun hc => r0)) rfl ?_
  refine WQ.val (V.load Tryz.isAgg5 (OV.p rfl) (fun hc => r0)) rfl ?_
  refine WQ.val (V.convW Tryz.runUnderlying5 Tryz.runUnderlying3 (OV.p rfl) (fun _ => wrap_i64 (by omega))) rfl ?_
  refine WQ.val (V.load Tryz.isAgg38 (OV.p rfl) (fun _ => hb)) rfl ?_
  refine WQ.val (V.move (OV.p rfl)) rfl ?_
  refine WQ.val (V.addI (OV.p rfl) (OV.p rfl) (fun hc => by first | omega | (simp at hc; omega))) rfl ?_
  refine WQ.val (V.idxS st38 (OV.p rfl) (OV.p rfl) (fun hc => by omega) (fun hc => r1)) rfl ?_
  refine WQ.val (V.load Tryz.isAgg5 (OV.p rfl) (fun hc => r1)) rfl ?_
  refine WQ.val (V.convW Tryz.runUnderlying5 Tryz.runUnderlying3 (OV.p rfl) (fun _ => wrap_i64 (by omega))) rfl ?_
  refine WQ.val (V.val_eq (v' := .int .i64 ((x1 * 2 ^ 8 : Nat) : Int)) (V.shl (OV.p rfl) (OV.p rfl) (by omega)) (fun _ => congrArg _ (shl_i64 (n := 8) (by decide) b1))) rfl ?_
  refine WQ.val (V.val_eq (v' := .int .i64 ((x0 + x1 * 2 ^ 8 : Nat) : Int)) (V.or (OV.p rfl) (OV.p rfl)) (fun _ => congrArg _ (or_shift (n := 8) (by omega) (by omega) (by omega)))) rfl ?_
  refine WQ.val (V.load Tryz.isAgg38 (OV.p rfl) (fun _ => hb)) rfl ?_
  refine WQ.val (V.move (OV.p rfl)) rfl ?_
  refine WQ.val (V.addI (OV.p rfl) (OV.p rfl) (fun hc => by first | omega | (simp at hc; omega))) rfl ?_
  refine WQ.val (V.idxS st38 (OV.p rfl) (OV.p rfl) (fun hc => by omega) (fun hc => r2)) rfl ?_
  refine WQ.val (V.load Tryz.isAgg5 (OV.p rfl) (fun hc => r2)) rfl ?_
  refine WQ.val (V.convW Tryz.runUnderlying5 Tryz.runUnderlying3 (OV.p rfl) (fun _ => wrap_i64 (by omega))) rfl ?_
  refine WQ.val (V.val_eq (v' := .int .i64 ((x2 * 2 ^ 16 : Nat) : Int)) (V.shl (OV.p rfl) (OV.p rfl) (by omega)) (fun _ => congrArg _ (shl_i64 (n := 16) (by decide) b2))) rfl ?_
  refine WQ.val (V.val_eq (v' := .int .i64 ((x0 + x1 * 2 ^ 8 + x2 * 2 ^ 16 : Nat) : Int)) (V.or (OV.p rfl) (OV.p rfl)) (fun _ => congrArg _ (or_shift (n := 16) (by omega) (by omega) (by omega)))) rfl ?_
  refine WQ.val (V.load Tryz.isAgg38 (OV.p rfl) (fun _ => hb)) rfl ?_
  refine WQ.val (V.move (OV.p rfl)) rfl ?_
  refine WQ.val (V.addI (OV.p rfl) (OV.p rfl) (fun hc => by first | omega | (simp at hc; omega))) rfl ?_
  refine WQ.val (V.idxS st38 (OV.p rfl) (OV.p rfl) (fun hc => by omega) (fun hc => r3)) rfl ?_
  refine WQ.val (V.load Tryz.isAgg5 (OV.p rfl) (fun hc => r3)) rfl ?_
  refine WQ.val (V.convW Tryz.runUnderlying5 Tryz.runUnderlying3 (OV.p rfl) (fun _ => wrap_i64 (by omega))) rfl ?_
  refine WQ.val (V.val_eq (v' := .int .i64 ((x3 * 2 ^ 24 : Nat) : Int)) (V.shl (OV.p rfl) (OV.p rfl) (by omega)) (fun _ => congrArg _ (shl_i64 (n := 24) (by decide) b3))) rfl ?_
  refine WQ.val (V.val_eq (v' := .int .i64 ((x0 + x1 * 2 ^ 8 + x2 * 2 ^ 16 + x3 * 2 ^ 24 : Nat) : Int)) (V.or (OV.p rfl) (OV.p rfl)) (fun _ => congrArg _ (or_shift (n := 24) (by omega) (by omega) (by omega)))) rfl ?_
  refine WQ.val (V.assign (OV.p rfl)) rfl ?_
  refine WQ.nil ?_
  refine WC.ret ?_
  exact BodyQ.ret (H' := F) (Res.tmp rfl rfl) (fun w h => h) ⟨rfl, rfl⟩
theorem bytes_Equal {A B : Option Addr} {m q cap cap' : Nat} {d e : List Nat} (hs : Seq K F A m 1 (nats .u8 d)) (hq : Seq K F B q 1 (nats .u8 e)) (hd : Small 256 d) (he : Small 256 e) :
    Tells Tryz.prog 127 #[.slice A m cap, .slice B q cap'] K F (.bool (decide (d = e))) := by
  refine Does.enter Tryz.func127 rfl Tryz.ntmps127 rfl ?_
  simp only [env0, Nat.reduceAdd]
  refine WC.sr ?_
  refine WL.sg rfl rfl ?_
  refine WL.nil ?_
  refine WC.sr ?_
  refine WL.mv rfl rfl ?_
  refine WL.val (V.bytesStr (xs := intsOf d) Tryz.underlying38 Tryz.underlying5 Tryz.underlying9 (OV.p rfl) (fun _ => by rw [← nats_intsOf]; exact hs)) rfl ?_
  refine WL.mv rfl rfl ?_
  refine WL.val (V.bytesStr (xs := intsOf e) Tryz.underlying38 Tryz.underlying5 Tryz.underlying9 (OV.p rfl) (fun _ => by rw [← nats_intsOf]; exact hq)) rfl ?_
  refine WL.val (V.eqlS (OV.p rfl) (OV.p rfl)) rfl ?_
  refine WL.sg rfl rfl ?_
  refine WL.nil ?_
  refine WC.ret ?_
  refine BodyQ.ret (H' := F) (Res.tmp rfl rfl) (fun w h => h) ⟨?_, rfl⟩
  rw [str_eq (intsOf_bytes hd) (intsOf_bytes he)]
  congr 1
  apply decide_eq_decide.2
  exact ⟨fun h => by rw [← natsOf_intsOf d, h, natsOf_intsOf], fun h => by rw [h]⟩
def parseH (g : Geo) (d : List Nat) : Hd := (parseF g d).getD ⟨0, 0, 0⟩
def parseE (g : Geo) (d : List Nat) : Int := match parseF g d with | some _ => 0 | none => if d.length = g.room.toNat then 4 else 1
theorem head_Parse {A : Option Addr} {m cap : Nat} {d : List Nat} (hg : g.mays) (hs : Seq K F A m 1 (nats .u8 d)) (h8 : Small 256 d) (hm : m ≤ 1000000) :
    Tells Tryz.prog 90 #[g.v, .slice A m cap] K F (.tuple #[(parseH g d).v, .int .i64 (parseE g d)]) := by
  have hl : d.length = m := by simpa [nats] using hs.len
  have hr := Geo.room_bd hg
  by_cases hlen : (m : Int) = g.room
  rotate_left
  · have hn : parseF g d = none := by
      cases hp : parseF g d with
      | none => rfl
      | some h => have := (parse_len hg hp).1; omega
    have e1 : parseH g d = ⟨0, 0, 0⟩ := by unfold parseH; rw [hn]; rfl
    have e2 : parseE g d = 1 := by unfold parseE; rw [hn]; exact if_neg (by omega)
    rw [e1, e2]
    refine Does.enter Tryz.func90 rfl Tryz.ntmps90 rfl ?_
    simp only [env0, Nat.reduceAdd]
    refine WC.sr ?_
    refine WL.box (cs := [_, _, _, _, _]) (OV.p rfl) rfl rfl (fun b2 => ?_)
    refine WL.box (cs := [_]) (OV.p rfl) rfl rfl (fun b3 => ?_)
    refine WL.alloc (cs := [(.int .i64 0), (.int .i64 0), (.int .i64 0)]) Tryz.zeroValue129 rfl rfl (fun b4 => ?_)
    refine WL.sg rfl rfl ?_
    refine WL.nil ?_
    refine WC.sr ?_
    refine WL.val (V.loadA (vs := [_, _, _, _, _]) ⟨Tryz.isAgg23, Tryz.sizeOf23⟩ (OV.p rfl) rfl (fun _ => by repeat (first | exact Rds.gets ⟨rfl, rfl, rfl, rfl, rfl, trivial⟩ | apply Rds.up))) rfl ?_
    refine WL.call (vs := [_]) Tryz.call73 ⟨OV.p rfl, trivial⟩ (ecc_RoomOk hg) rfl ?_
    rintro _ H0 ⟨rfl, h0⟩
    subst H0
    refine WL.mv rfl rfl ?_
    refine WL.xt rfl rfl rfl ?_
    refine WL.xt rfl rfl rfl ?_
    refine WL.sg rfl rfl ?_
    refine WL.sg rfl rfl ?_
    refine WL.nil ?_
    refine WC.seq ?_
    refine WC.sr ?_
    refine WL.mv rfl rfl ?_
    refine WL.val (V.neq (OV.p rfl) (OV.p rfl)) rfl ?_
    refine WL.mv rfl rfl ?_
    refine WL.valG (oj := _) rfl rfl rfl GC.f (V.load Tryz.isAgg38 (OV.p rfl) (fun _ => by repeat (first | exact Rd.here rfl | apply Rd.up))) rfl ?_
    refine WL.valG (oj := _) rfl rfl rfl GC.f (V.len (t := 38) Tryz.runUnderlying38 (OV.g rfl id)) rfl ?_
    refine WL.valG (oj := _) rfl rfl rfl GC.f (V.move (OV.p rfl)) rfl ?_
    refine WL.valG (oj := _) rfl rfl rfl GC.f (V.neq (OV.g rfl id) (OV.g rfl id)) rfl ?_
    refine WL.val (V.pickOr (OV.p rfl) (OV.g rfl id)) rfl ?_
    refine WL.nil ?_
    refine WC.condT' rfl ((by simp; omega)) ?_
    refine WC.sr ?_
    refine WL.val (V.build (vs := []) trivial rfl (bld129 )) rfl ?_
    refine WL.store (cs := [_, _, _]) Tryz.sizeOf129 (OV.p rfl) (OV.p rfl) rfl rfl rfl (by repeat (first | exact Upd.here (cs' := [_, _, _]) rfl rfl | apply Upd.up)) ?_
    refine WL.sg rfl rfl ?_
    refine WL.nil ?_
    refine WC.ret ?_
    exact BodyQ.ret (H' := F) (Res.two rfl (R1.cellA (vs := [_, _, _]) rfl ⟨Tryz.isAgg129, Tryz.sizeOf129⟩ rfl (by repeat (first | exact Rds.gets ⟨rfl, rfl, rfl, trivial⟩ | apply Rds.up))) (R1.tmp rfl)) (fun w h => h.drop 3) ⟨rfl, rfl⟩
  obtain ⟨h, hh⟩ : ∃ h, h = headOf d := ⟨_, rfl⟩
  have db : ∀ i, 0 ≤ dec4 d i ∧ dec4 d i < 4294967296 := fun i => by
    have x0 := h8.at_ (by decide) i
    have x1 := h8.at_ (by decide) (i + 1)
    have x2 := h8.at_ (by decide) (i + 2)
    have x3 := h8.at_ (by decide) (i + 3)
    unfold dec4
    omega
  have hb : h = ⟨dec4 d 4, dec4 d 8, dec4 d 12⟩ := hh
  have h0l : 0 ≤ h.leb := by rw [hb]; exact (db 4).1
  have h0k : 0 ≤ h.num := by rw [hb]; exact (db 12).1
  have h0n : h.len ≤ 1099511627776 := by rw [hb]; have := (db 8).2; show dec4 d 8 ≤ _; omega
  cases hmy : h.may g with
  | false =>
    have hn : parseF g d = none := by unfold parseF; rw [← hh, hmy]; rfl
    have e1 : parseH g d = ⟨0, 0, 0⟩ := by unfold parseH; rw [hn]; rfl
    have e2 : parseE g d = 4 := by unfold parseE; rw [hn]; exact if_pos (by omega)
    rw [e1, e2]
    have hby : ∀ (K : World) (F : List Assn), Tells Tryz.prog 126 #[g.v, h.v] K F (.tuple #[.slice none 0 0, .int .i64 1]) := fun K F => (head_Bytes hg h h0n h0l h0k).mono (fun v H' hx => by
      rcases hx with ⟨h1, _⟩ | ⟨_, h2, h3⟩
      · rw [hmy] at h1; cases h1
      · exact ⟨h2, h3⟩)
    rw [hb] at hby
    refine Does.enter Tryz.func90 rfl Tryz.ntmps90 rfl ?_
    simp only [env0, Nat.reduceAdd]
    refine WC.sr ?_
    refine WL.box (cs := [_, _, _, _, _]) (OV.p rfl) rfl rfl (fun b2 => ?_)
    refine WL.box (cs := [_]) (OV.p rfl) rfl rfl (fun b3 => ?_)
    refine WL.alloc (cs := [(.int .i64 0), (.int .i64 0), (.int .i64 0)]) Tryz.zeroValue129 rfl rfl (fun b4 => ?_)
    refine WL.sg rfl rfl ?_
    refine WL.nil ?_
    refine WC.sr ?_
    refine WL.val (V.loadA (vs := [_, _, _, _, _]) ⟨Tryz.isAgg23, Tryz.sizeOf23⟩ (OV.p rfl) rfl (fun _ => by repeat (first | exact Rds.gets ⟨rfl, rfl, rfl, rfl, rfl, trivial⟩ | apply Rds.up))) rfl ?_
    refine WL.call (vs := [_]) Tryz.call73 ⟨OV.p rfl, trivial⟩ (ecc_RoomOk hg) rfl ?_
    rintro _ H0 ⟨rfl, h0⟩
    subst H0
    refine WL.mv rfl rfl ?_
    refine WL.xt rfl rfl rfl ?_
    refine WL.xt rfl rfl rfl ?_
    refine WL.sg rfl rfl ?_
    refine WL.sg rfl rfl ?_
    refine WL.nil ?_
    refine WC.seq ?_
    refine WC.sr ?_
    refine WL.mv rfl rfl ?_
    refine WL.val (V.neq (OV.p rfl) (OV.p rfl)) rfl ?_
    refine WL.mv rfl rfl ?_
    refine WL.valG (oj := _) rfl rfl rfl GC.f (V.load Tryz.isAgg38 (OV.p rfl) (fun _ => by repeat (first | exact Rd.here rfl | apply Rd.up))) rfl ?_
    refine WL.valG (oj := _) rfl rfl rfl GC.f (V.len (t := 38) Tryz.runUnderlying38 (OV.g rfl id)) rfl ?_
    refine WL.valG (oj := _) rfl rfl rfl GC.f (V.move (OV.p rfl)) rfl ?_
    refine WL.valG (oj := _) rfl rfl rfl GC.f (V.neq (OV.g rfl id) (OV.g rfl id)) rfl ?_
    refine WL.val (V.pickOr (OV.p rfl) (OV.g rfl id)) rfl ?_
    refine WL.nil ?_
    refine WC.condF' rfl ((by simp; omega)) ?_
    refine WC.skip ?_
    refine WC.sr ?_
    refine WL.val (V.makeFunc (us := []) (vs := [_]) trivial ⟨OV.p rfl, trivial⟩) rfl ?_
    refine WL.sg rfl rfl ?_
    refine WL.nil ?_
    refine WC.sr ?_
    refine WL.mv rfl rfl ?_
    refine WL.callV (first := []) (vs := [_]) (captured := [ptr b3 0]) Tryz.call125 (OV.p rfl) ⟨OV.p rfl, trivial⟩ (head_Parse1 (i := 4) (by repeat (first | exact hs | apply Seq.up)) h8 (by repeat (first | exact Rd.here rfl | apply Rd.up)) (by omega) hm) rfl ?_
    rintro _ _ ⟨rfl, rfl⟩
    refine WL.mv rfl rfl ?_
    refine WL.callV (first := []) (vs := [_]) (captured := [ptr b3 0]) Tryz.call125 (OV.p rfl) ⟨OV.p rfl, trivial⟩ (head_Parse1 (i := 8) (by repeat (first | exact hs | apply Seq.up)) h8 (by repeat (first | exact Rd.here rfl | apply Rd.up)) (by omega) hm) rfl ?_
    rintro _ _ ⟨rfl, rfl⟩
    refine WL.mv rfl rfl ?_
    refine WL.callV (first := []) (vs := [_]) (captured := [ptr b3 0]) Tryz.call125 (OV.p rfl) ⟨OV.p rfl, trivial⟩ (head_Parse1 (i := 12) (by repeat (first | exact hs | apply Seq.up)) h8 (by repeat (first | exact Rd.here rfl | apply Rd.up)) (by omega) hm) rfl ?_
    rintro _ _ ⟨rfl, rfl⟩
    refine WL.val (V.build (vs := [(0, _), (1, _), (2, _)]) ⟨OV.p rfl, OV.p rfl, OV.p rfl, trivial⟩ rfl (bld129_0_1_2 _ _ _)) rfl ?_
    refine WL.alloc (cs := [(.int .i64 0), (.int .i64 0), (.int .i64 0)]) Tryz.zeroValue129 rfl rfl (fun b9 => ?_)
    refine WL.store (cs := [_, _, _]) Tryz.sizeOf129 (OV.p rfl) (OV.p rfl) rfl rfl rfl (by repeat (first | exact Upd.here (cs' := [_, _, _]) rfl rfl | apply Upd.up)) ?_
    refine WL.nil ?_
    refine WC.seq ?_
    refine WC.sr ?_
    refine WL.val (V.loadA (vs := [_, _, _, _, _]) ⟨Tryz.isAgg23, Tryz.sizeOf23⟩ (OV.p rfl) rfl (fun _ => by repeat (first | exact Rds.gets ⟨rfl, rfl, rfl, rfl, rfl, trivial⟩ | apply Rds.up))) rfl ?_
    refine WL.val (V.loadA (vs := [_, _, _]) ⟨Tryz.isAgg129, Tryz.sizeOf129⟩ (OV.p rfl) rfl (fun _ => by repeat (first | exact Rds.gets ⟨rfl, rfl, rfl, trivial⟩ | apply Rds.up))) rfl ?_
    refine WL.call (vs := [_, _]) Tryz.call126 ⟨OV.p rfl, OV.p rfl, trivial⟩ (hby _ _) rfl ?_
    rintro _ H0 ⟨rfl, h0⟩
    subst H0
    refine WL.mv rfl rfl ?_
    refine WL.xt rfl rfl rfl ?_
    refine WL.xt rfl rfl rfl ?_
    refine WL.sg rfl rfl ?_
    refine WL.sg rfl rfl ?_
    refine WL.nil ?_
    refine WC.sr ?_
    refine WL.mv rfl rfl ?_
    refine WL.val (V.neq (OV.p rfl) (OV.p rfl)) rfl ?_
    refine WL.mv rfl rfl ?_
    refine WL.skipG (oj := _) rfl rfl rfl rfl rfl (fun d hd => by injection hd with hd; subst hd; rfl) ?_
    refine WL.skipG (oj := _) rfl rfl rfl rfl rfl (fun d hd => by injection hd with hd; subst hd; rfl) ?_
    refine WL.skipG (oj := _) rfl rfl rfl rfl rfl (fun d hd => by injection hd with hd; subst hd; rfl) ?_
    refine WL.skipG (oj := _) rfl rfl rfl rfl rfl (fun d hd => by injection hd with hd; subst hd; rfl) ?_
    refine WL.val (V.pickT (OV.p rfl) (OV.p rfl)) rfl ?_
    refine WL.nil ?_
    refine WC.condT' rfl (by first | rfl | (simp; done) | (simp; omega)) ?_
    refine WC.sr ?_
    refine WL.val (V.build (vs := []) trivial rfl (bld129 )) rfl ?_
    refine WL.store (cs := [_, _, _]) Tryz.sizeOf129 (OV.p rfl) (OV.p rfl) rfl rfl rfl (by repeat (first | exact Upd.here (cs' := [_, _, _]) rfl rfl | apply Upd.up)) ?_
    refine WL.sg rfl rfl ?_
    refine WL.nil ?_
    refine WC.ret ?_
    exact BodyQ.ret (H' := F) (Res.two rfl (R1.cellA (vs := [_, _, _]) rfl ⟨Tryz.isAgg129, Tryz.sizeOf129⟩ rfl (by repeat (first | exact Rds.gets ⟨rfl, rfl, rfl, trivial⟩ | apply Rds.up))) (R1.tmp rfl)) (fun w h => h.drop 4) ⟨rfl, rfl⟩
  | true =>
    have hby : ∀ (K : World) (F : List Assn), Does Tryz.prog 126 #[g.v, h.v] K F (fun v H' => ∃ A' c', v = .tuple #[.slice A' g.room.toNat c', .int .i64 0] ∧ H' = SlA (.slice A' g.room.toNat c') 5 1 g.room.toNat (nats .u8 (headB g h)) :: F) := fun K F => (head_Bytes hg h h0n h0l h0k).mono (fun v H' hx => by
      rcases hx with ⟨_, h2⟩ | ⟨h1, _⟩
      · exact h2
      · rw [hmy] at h1; cases h1)
    have hpf : parseF g d = if headB g h = d then some h else none := by
      unfold parseF
      rw [← hh, hmy, Bool.true_and]
      by_cases he : headB g h = d
      · rw [decide_eq_true he, if_pos rfl, if_pos he]
      · rw [decide_eq_false he, if_neg Bool.false_ne_true, if_neg he]
    have hbl := headB_length hg h
    have hb8 := headB_small g h
    obtain ⟨hB, hhB⟩ : ∃ hB, hB = headB g h := ⟨_, rfl⟩
    rw [← hhB] at hbl hb8 hpf hby
    rw [hb] at hby
    refine Does.enter Tryz.func90 rfl Tryz.ntmps90 rfl ?_
    simp only [env0, Nat.reduceAdd]
    refine WC.sr ?_
    refine WL.box (cs := [_, _, _, _, _]) (OV.p rfl) rfl rfl (fun b2 => ?_)
    refine WL.box (cs := [_]) (OV.p rfl) rfl rfl (fun b3 => ?_)
    refine WL.alloc (cs := [(.int .i64 0), (.int .i64 0), (.int .i64 0)]) Tryz.zeroValue129 rfl rfl (fun b4 => ?_)
    refine WL.sg rfl rfl ?_
    refine WL.nil ?_
    refine WC.sr ?_
    refine WL.val (V.loadA (vs := [_, _, _, _, _]) ⟨Tryz.isAgg23, Tryz.sizeOf23⟩ (OV.p rfl) rfl (fun _ => by repeat (first | exact Rds.gets ⟨rfl, rfl, rfl, rfl, rfl, trivial⟩ | apply Rds.up))) rfl ?_
    refine WL.call (vs := [_]) Tryz.call73 ⟨OV.p rfl, trivial⟩ (ecc_RoomOk hg) rfl ?_
    rintro _ H0 ⟨rfl, h0⟩
    subst H0
    refine WL.mv rfl rfl ?_
    refine WL.xt rfl rfl rfl ?_
    refine WL.xt rfl rfl rfl ?_
    refine WL.sg rfl rfl ?_
    refine WL.sg rfl rfl ?_
    refine WL.nil ?_
    refine WC.seq ?_
    refine WC.sr ?_
    refine WL.mv rfl rfl ?_
    refine WL.val (V.neq (OV.p rfl) (OV.p rfl)) rfl ?_
    refine WL.mv rfl rfl ?_
    refine WL.valG (oj := _) rfl rfl rfl GC.f (V.load Tryz.isAgg38 (OV.p rfl) (fun _ => by repeat (first | exact Rd.here rfl | apply Rd.up))) rfl ?_
    refine WL.valG (oj := _) rfl rfl rfl GC.f (V.len (t := 38) Tryz.runUnderlying38 (OV.g rfl id)) rfl ?_
    refine WL.valG (oj := _) rfl rfl rfl GC.f (V.move (OV.p rfl)) rfl ?_
    refine WL.valG (oj := _) rfl rfl rfl GC.f (V.neq (OV.g rfl id) (OV.g rfl id)) rfl ?_
    refine WL.val (V.pickOr (OV.p rfl) (OV.g rfl id)) rfl ?_
    refine WL.nil ?_
    refine WC.condF' rfl ((by simp; omega)) ?_
    refine WC.skip ?_
    refine WC.sr ?_
    refine WL.val (V.makeFunc (us := []) (vs := [_]) trivial ⟨OV.p rfl, trivial⟩) rfl ?_
    refine WL.sg rfl rfl ?_
    refine WL.nil ?_
    refine WC.sr ?_
    refine WL.mv rfl rfl ?_
    refine WL.callV (first := []) (vs := [_]) (captured := [ptr b3 0]) Tryz.call125 (OV.p rfl) ⟨OV.p rfl, trivial⟩ (head_Parse1 (i := 4) (by repeat (first | exact hs | apply Seq.up)) h8 (by repeat (first | exact Rd.here rfl | apply Rd.up)) (by omega) hm) rfl ?_
    rintro _ _ ⟨rfl, rfl⟩
    refine WL.mv rfl rfl ?_
    refine WL.callV (first := []) (vs := [_]) (captured := [ptr b3 0]) Tryz.call125 (OV.p rfl) ⟨OV.p rfl, trivial⟩ (head_Parse1 (i := 8) (by repeat (first | exact hs | apply Seq.up)) h8 (by repeat (first | exact Rd.here rfl | apply Rd.up)) (by omega) hm) rfl ?_
    rintro _ _ ⟨rfl, rfl⟩
    refine WL.mv rfl rfl ?_
    refine WL.callV (first := []) (vs := [_]) (captured := [ptr b3 0]) Tryz.call125 (OV.p rfl) ⟨OV.p rfl, trivial⟩ (head_Parse1 (i := 12) (by repeat (first | exact hs | apply Seq.up)) h8 (by repeat (first | exact Rd.here rfl | apply Rd.up)) (by omega) hm) rfl ?_
    rintro _ _ ⟨rfl, rfl⟩
    refine WL.val (V.build (vs := [(0, _), (1, _), (2, _)]) ⟨OV.p rfl, OV.p rfl, OV.p rfl, trivial⟩ rfl (bld129_0_1_2 _ _ _)) rfl ?_
    refine WL.alloc (cs := [(.int .i64 0), (.int .i64 0), (.int .i64 0)]) Tryz.zeroValue129 rfl rfl (fun b9 => ?_)
    refine WL.store (cs := [_, _, _]) Tryz.sizeOf129 (OV.p rfl) (OV.p rfl) rfl rfl rfl (by repeat (first | exact Upd.here (cs' := [_, _, _]) rfl rfl | apply Upd.up)) ?_
    refine WL.nil ?_
    refine WC.seq ?_
    refine WC.sr ?_
    refine WL.val (V.loadA (vs := [_, _, _, _, _]) ⟨Tryz.isAgg23, Tryz.sizeOf23⟩ (OV.p rfl) rfl (fun _ => by repeat (first | exact Rds.gets ⟨rfl, rfl, rfl, rfl, rfl, trivial⟩ | apply Rds.up))) rfl ?_
    refine WL.val (V.loadA (vs := [_, _, _]) ⟨Tryz.isAgg129, Tryz.sizeOf129⟩ (OV.p rfl) rfl (fun _ => by repeat (first | exact Rds.gets ⟨rfl, rfl, rfl, trivial⟩ | apply Rds.up))) rfl ?_
    refine WL.call (vs := [_, _]) Tryz.call126 ⟨OV.p rfl, OV.p rfl, trivial⟩ (hby _ _) rfl ?_
    rintro _ _ ⟨A6, c6, rfl, rfl⟩
    refine WL.mv rfl rfl ?_
    refine WL.xt rfl rfl rfl ?_
    refine WL.xt rfl rfl rfl ?_
    refine WL.sg rfl rfl ?_
    refine WL.sg rfl rfl ?_
    refine WL.nil ?_
    refine WC.sr ?_
    refine WL.mv rfl rfl ?_
    refine WL.val (V.neq (OV.p rfl) (OV.p rfl)) rfl ?_
    refine WL.mv rfl rfl ?_
    refine WL.known (oj := _) rfl rfl rfl rfl ?_
    refine WL.mv rfl rfl ?_
    refine WL.known (oj := _) rfl rfl rfl rfl ?_
    refine WL.ld Tryz.isAgg38 rfl rfl ?_
    refine WL.known (oj := _) rfl rfl rfl rfl ?_
    refine WL.call (vs := [_, _]) Tryz.call127 ⟨OV.p rfl, OV.p rfl, trivial⟩ (bytes_Equal (d := hB) (e := d) (by repeat (first | exact SlA.seq (by rw [nats_length, hbl, Nat.mul_one]) | apply Seq.up)) (by repeat (first | exact hs | apply Seq.up)) hb8 h8) rfl ?_
    rintro _ H0 ⟨rfl, h0⟩
    subst H0
    refine WL.known (oj := _) rfl rfl rfl rfl ?_
    refine WL.val (V.not (OV.p rfl)) rfl ?_
    refine WL.val (V.pickOr (OV.p rfl) (OV.p rfl)) rfl ?_
    refine WL.nil ?_
    refine WC.cond rfl (fun hc1 => ?_) (fun hc1 => ?_)
    ·skip
     have h1 := hc1
     simp at h1
     have e1 : parseH g d = ⟨0, 0, 0⟩ := by unfold parseH; rw [hpf, if_neg h1]; rfl
     have e2 : parseE g d = 4 := by unfold parseE; rw [hpf, if_neg h1]; exact if_pos (by omega)
     refine WC.sr ?_
     refine WL.val (V.build (vs := []) trivial rfl (bld129 )) rfl ?_
     refine WL.store (cs := [_, _, _]) Tryz.sizeOf129 (OV.p rfl) (OV.p rfl) rfl rfl rfl (by repeat (first | exact Upd.here (cs' := [_, _, _]) rfl rfl | apply Upd.up)) ?_
     refine WL.sg rfl rfl ?_
     refine WL.nil ?_
     refine WC.ret ?_
     rw [e1, e2]
     exact BodyQ.ret (H' := F) (Res.two rfl (R1.cellA (vs := [_, _, _]) rfl ⟨Tryz.isAgg129, Tryz.sizeOf129⟩ rfl (by repeat (first | exact Rds.gets ⟨rfl, rfl, rfl, trivial⟩ | apply Rds.up))) (R1.tmp rfl)) (fun w h => h.sel 5 [] rfl) ⟨rfl, rfl⟩
    ·skip
     have h1 := hc1
     simp at h1
     have e1 : parseH g d = h := by unfold parseH; rw [hpf, if_pos h1]; rfl
     have e2 : parseE g d = 0 := by unfold parseE; rw [hpf, if_pos h1]
     refine WC.skip ?_
     refine WC.sr ?_
     refine WL.val (V.loadA (vs := [_, _, _]) ⟨Tryz.isAgg129, Tryz.sizeOf129⟩ (OV.p rfl) rfl (fun _ => by repeat (first | exact Rds.gets ⟨rfl, rfl, rfl, trivial⟩ | apply Rds.up))) rfl ?_
     refine WL.store (cs := [_, _, _]) Tryz.sizeOf129 (OV.p rfl) (OV.p rfl) rfl rfl rfl (by repeat (first | exact Upd.here (cs' := [_, _, _]) rfl rfl | apply Upd.up)) ?_
     refine WL.sg rfl rfl ?_
     refine WL.nil ?_
     refine WC.ret ?_
     rw [e1, e2, hb]
     exact BodyQ.ret (H' := F) (Res.two rfl (R1.cellA (vs := [_, _, _]) rfl ⟨Tryz.isAgg129, Tryz.sizeOf129⟩ rfl (by repeat (first | exact Rds.gets ⟨rfl, rfl, rfl, trivial⟩ | apply Rds.up))) (R1.tmp rfl)) (fun w h => h.sel 5 [] rfl) ⟨rfl, rfl⟩
end
end Go.Proofs.YtohkefolnmcjnaaGreat
