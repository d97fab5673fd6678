import Derived.Test.YtohkefolnmcjnaaGreatP21
namespace Go.Proofs.YtohkefolnmcjnaaGreat
open Go.Sl Go.RowKit
set_option linter.unusedVariables false
set_option linter.unusedSimpArgs false
set_option maxRecDepth 20000
theorem slA_init {K : World} {F : List Assn} {A : Option Addr} {m cap : Nat} {l : List Fd} (hm : l.length = m) (h0 : 0 < m) : ∀ w, Sat K w (SlA (.slice A m cap) 167 5 m (flatF l) :: F) → Sat K w (SlA (.slice A (m - 1) cap) 167 5 (m - 1) (flatF l.dropLast) :: F) := fun w h => by
  cases A with
  | none => have := (SlA.nilCs h).1; omega
  | some a =>
    obtain ⟨g, rfl⟩ := SlA.addr h
    obtain ⟨r, ⟨h1, h2, h3, h4⟩, h5⟩ := Sat.slCells h
    have h6 := Sat.toSl (m := m - 1) (cap := cap) (s := 5) h5 h1 (by omega) h4
    have hne : l ≠ [] := fun e => by rw [e] at hm; simp at hm; omega
    have e1 : flatF l = flatF l.dropLast ++ (l.getLast hne).cells := by
      conv => lhs; rw [← List.dropLast_concat_getLast hne]
      exact flatF_snoc _ _
    have e2 : (flatF l ++ r).take ((m - 1) * 5) = flatF l.dropLast := by
      rw [e1, List.append_assoc, List.take_left']
      rw [flatF_length, List.length_dropLast, hm]
    rw [e2] at h6
    exact h6
section
variable {K : World} {F : List Assn}
theorem attach_Stale {lebs n cap : Nat} {A : Option Addr} {fs : List Fd} (hl : 1 ≤ lebs ∧ lebs ≤ 64) (hs : Seq K F A n 5 (flatF fs)) (hn : fs.length = n) (h20 : n < 20) :
    Does Tryz.prog 94 #[.int .i64 (lebs : Int), .slice A n cap] K F
      (fun v H' => ∃ b8 : Nat, ∃ irs : List IRow, irs.length = lebs ∧ irs.map IRow.l = staleF lebs fs ∧ v = .tuple #[.slice (some ⟨b8, 0, none⟩) lebs lebs, .int .i64 0] ∧ H' = Cells b8 42 (irs.map IRow.v) :: AllA (irs.map IRow.row) :: F) := by
  obtain ⟨st, hst⟩ : ∃ st, st = staleF lebs fs := ⟨_, rfl⟩
  have hstl : st.length = lebs := by rw [hst]; exact staleF_length _ _
  rw [← hst]
  refine Does.enter Tryz.func94 rfl Tryz.ntmps94 rfl ?_
  simp only [env0, Nat.reduceAdd]
  refine WC.sr ?_
  refine WL.sg rfl rfl ?_
  refine WL.sg rfl rfl ?_
  refine WL.nil ?_
  refine WC.sr ?_
  refine WL.mv rfl rfl ?_
  refine WL.mv rfl rfl ?_
  refine WL.call (vs := [_, _, _]) Tryz.call128 ⟨OV.p rfl, OV.p rfl, OV.p rfl, trivial⟩ (attach_whole byNumber_is hl hs hn h20) rfl ?_
  rintro _ _ ⟨bo, rs, hrl, hrs, rfl, rfl⟩
  have hpr : ∀ j r, rs[j]? = some r → st.getD j [] = (isort (ltOf cmpS) r.l.dropLast).map Fd.block ∧ j < lebs ∧ r.l.length ≤ 19 := fun j r hj => by
    have h1 : (rs.map FRow.l)[j]? = some r.l := by rw [List.getElem?_map, hj]; rfl
    have hjl : j < lebs := by rw [← hrl]; exact (List.getElem?_eq_some_iff.1 hj).1
    rw [hrs] at h1
    simp only [List.getElem?_map, rowsF, List.getElem?_range hjl, Option.map_some] at h1
    injection h1 with h1
    refine ⟨?_, hjl, ?_⟩
    · rw [hst]
      unfold staleF
      simp only [List.getD, List.getElem?_map, rowsF, List.getElem?_range hjl, Option.map_some, Option.getD_some]
      rw [h1]
    · rw [← h1, isort_length]
      exact Nat.le_trans (List.length_filter_le _ _) (by omega)
  refine WL.mv rfl rfl ?_
  refine WL.xt rfl rfl rfl ?_
  refine WL.xt rfl rfl rfl ?_
  refine WL.sg rfl rfl ?_
  refine WL.sg rfl rfl ?_
  refine WL.nil ?_
  refine WC.seq ?_
  refine WC.sr ?_
  refine WL.mv rfl rfl ?_
  refine WL.val (V.neq (OV.p rfl) (OV.p rfl)) rfl ?_
  refine WL.nil ?_
  refine WC.condF' rfl (by first | rfl | (simp; done) | (simp; omega)) ?_
  refine WC.skip ?_
  refine WC.sr ?_
  refine WL.mv rfl rfl ?_
  refine WL.make1 (m := lebs) Tryz.underlying124 el42 (OV.p rfl) (OV.p rfl) rfl rfl (by omega) rfl rfl rfl (fun b8 => ?_)
  refine WL.sg rfl rfl ?_
  refine WL.nil ?_
  refine WC.seq ?_
  refine WC.sr ?_
  refine WL.mv rfl rfl ?_
  refine WL.val (V.len (t := 168) Tryz.runUnderlying168 (OV.p rfl)) rfl ?_
  refine WL.mv rfl rfl ?_
  refine WL.nil ?_
  refine WC.block ?_
  refine WC.loop (σ := Nat × List IRow) (fun s => [(8, .slice (some ⟨b8, 0, none⟩) lebs lebs), (24, .slice (some ⟨bo, 0, none⟩) lebs lebs), (25, .int .i64 (lebs : Int)), (26, .int .i64 (s.1 : Int))]) (fun s => Cells b8 42 (s.2.map IRow.v) :: AllA (s.2.map IRow.row) :: Cells bo 133 (rs.map FRow.v) :: AllA ((rs.drop s.1).map FRow.row) :: F) (fun s => s.1 ≤ lebs ∧ s.2.length = lebs ∧ s.2.map IRow.l = st.take s.1 ++ List.replicate (lebs - s.1) []) (fun s => lebs - s.1) (0, List.replicate lebs ir0) ⟨Nat.zero_le _, List.length_replicate, by
    rw [List.map_replicate]; rfl⟩ (.cons rfl (.cons rfl (.cons rfl (.cons rfl (.nil _))))) (fun w h => by
    dsimp only
    rw [List.map_replicate, List.map_replicate]
    have key : ∀ m, ∀ H, Sat K w H → Sat K w (List.replicate m ir0.row ++ H) := fun m => by
      induction m with
      | zero => intro H h; exact h
      | succ m ih => intro H h; exact Sat.slNil (ih H h) _ _
    have h1 : Sat K w (List.replicate lebs ir0.row ++ (Cells b8 42 (List.replicate lebs ir0.v) :: Cells bo 133 (rs.map FRow.v) :: AllA (rs.map FRow.row) :: F)) := key lebs _ h
    exact (Sat.all h1).p1) ?_
  rintro ⟨j, irs⟩ ⟨hj, hil, his⟩
  dsimp only at hj hil his ⊢
  refine WC.sr ?_
  refine WL.val (V.lss (OV.p rfl) (OV.p rfl)) rfl ?_
  refine WL.nil ?_
  refine WC.seq ?_
  refine WC.cond rfl (fun hc1 => ?_) (fun hc1 => ?_)
  ·simp only [decide_eq_true_eq, decide_eq_false_iff_not] at hc1
   have hjl : j < lebs := by omega
   obtain ⟨r, hr⟩ : ∃ r, r = rs[j]'(by omega) := ⟨_, rfl⟩
   have hrg : rs[j]? = some r := by rw [hr]; exact List.getElem?_eq_getElem (by omega)
   obtain ⟨hpv, _, hrll⟩ := hpr j r hrg
   have hvg : (rs.map FRow.v)[0 + ((j : Nat) : Int).toNat * 1]? = some r.v := by rw [show 0 + ((j : Nat) : Int).toNat * 1 = j by omega, List.getElem?_map, hrg]; rfl
   have hdr : rs.drop j = r :: rs.drop (j + 1) := by rw [hr]; exact List.drop_eq_getElem_cons (by omega)
   have htk : st.take (j + 1) = st.take j ++ [st.getD j []] := by rw [List.take_add_one, List.getElem?_eq_getElem (by omega)]; simp [List.getD, show j < st.length by omega]
   have hrep : List.replicate (lebs - j) ([] : List Int) = [] :: List.replicate (lebs - (j + 1)) [] := by rw [show lebs - j = (lebs - (j + 1)) + 1 by omega, List.replicate_succ]
   have hstk : (st.take j).length = j := by rw [List.length_take]; omega
   refine WC.skip ?_
   refine WC.seq ?_
   refine WC.block ?_
   refine WC.sr ?_
   refine WL.mv rfl rfl ?_
   refine WL.val (V.idxB st168 (OV.p rfl) (OV.p rfl) (fun hc => by omega)) rfl ?_
   refine WL.val (V.load Tryz.isAgg133 (OV.p rfl) (fun _ => by repeat (first | exact Rd.here hvg | apply Rd.up))) rfl ?_
   refine WL.sg rfl rfl ?_
   refine WL.sg rfl rfl ?_
   refine WL.nil ?_
   refine WC.seq ?_
   refine WC.sr ?_
   refine WL.mv rfl rfl ?_
   refine WL.val (V.len (t := 133) Tryz.runUnderlying133 (OV.p rfl)) rfl ?_
   refine WL.val (V.eql (OV.p rfl) (OV.p rfl)) rfl ?_
   refine WL.nil ?_
   refine WC.cond rfl (fun hc2 => ?_) (fun hc2 => ?_)
   ·simp only [decide_eq_true_eq, decide_eq_false_iff_not] at hc2
    have h2 := hc2
    have hnil : r.l = [] := List.eq_nil_of_length_eq_zero (by omega)
    have hsj : st.getD j [] = [] := by rw [hpv, hnil]; rfl
    refine WC.exit ?_
    refine WC.region ?_
    refine WL.ad rfl rfl rfl ?_
    refine WL.mv rfl rfl ?_
    refine WL.nil ?_
    refine ⟨rfl, ?_⟩
    first
    | (refine ⟨(j + 1, qrs), ⟨hjl, hql, ?_⟩, (by show lebs - (j + 1) < lebs - j; omega), .cons rfl (.cons rfl (.cons rfl (.cons (look_eq rfl (by simp)) (.nil _)))), fun w h => h.sel 1 [] rfl⟩
       obtain rfl : k = r.l.length - 1 := by omega
       show qrs.map IRow.l = _
       rw [hqs, htk, hsj, List.take_of_length_le (l := ll) (by omega), List.append_assoc]; rfl)
    | (refine ⟨(j + 1, irs), ⟨hjl, hil, ?_⟩, (by show lebs - (j + 1) < lebs - j; omega), .cons rfl (.cons rfl (.cons rfl (.cons (look_eq rfl (by simp)) (.nil _)))), fun w h => ?_⟩
       · show irs.map IRow.l = _
         rw [his, htk, hsj, hrep, List.append_assoc]; rfl
       · rw [hdr, List.map_cons] at h
         have h4 := Sat.takeA (k := 0) (by simp) (h.sel 4 [3, 0, 1, 2] rfl)
         have h5 : Sat K w (r.row :: AllA ((rs.drop (j + 1)).map FRow.row) :: Cells b8 42 (irs.map IRow.v) :: AllA (irs.map IRow.row) :: Cells bo 133 (rs.map FRow.v) :: F) := h4
         exact h5.sel 5 [2, 3, 4, 1] rfl)
   ·simp only [decide_eq_true_eq, decide_eq_false_iff_not] at hc2
    have h2 := hc2
    have hlen0 : 0 < r.l.length := by omega
    obtain ⟨ll, hll⟩ : ∃ ll, ll = isort (ltOf cmpS) r.l.dropLast := ⟨_, rfl⟩
    have hlll : ll.length = r.l.length - 1 := by rw [hll, isort_length, List.length_dropLast]
    have hsj : st.getD j [] = ll.map Fd.block := by rw [hpv, hll]
    refine WC.sub (H' := SlA (.slice r.A (r.l.length - 1) r.c) 167 5 (r.l.length - 1) (flatF r.l.dropLast) :: Cells b8 42 (irs.map IRow.v) :: AllA (irs.map IRow.row) :: Cells bo 133 (rs.map FRow.v) :: AllA ((rs.drop (j + 1)).map FRow.row) :: F) (Sub.refl _) (fun w h => by
      rw [hdr, List.map_cons] at h
      have h4 := Sat.takeA (k := 0) (by simp) (h.sel 4 [3, 0, 1, 2] rfl)
      have h5 : Sat K w (r.row :: AllA ((rs.drop (j + 1)).map FRow.row) :: Cells b8 42 (irs.map IRow.v) :: AllA (irs.map IRow.row) :: Cells bo 133 (rs.map FRow.v) :: F) := h4
      exact (slA_init (l := r.l) rfl hlen0 w h5).sel 5 [0, 2, 3, 4, 1] rfl) ?_
    refine WC.skip ?_
    refine WC.seq ?_
    refine WC.have_ (p := r.l.length - 1 ≤ r.c) (fun w h => by
      obtain ⟨_, cap', hv, hle, _⟩ := SlA.shape h.head
      injection hv with _ _ e3
      rw [e3]; exact hle) (fun hrc => ?_)
    refine WC.region ?_
    refine WL.mv rfl rfl ?_
    refine WL.mv rfl rfl ?_
    refine WL.val (V.len (t := 133) Tryz.runUnderlying133 (OV.p rfl)) rfl ?_
    refine WL.sb rfl rfl rfl ?_
    refine WL.val (V.val_eq (v' := .slice r.A (r.l.length - 1) r.c) (V.slice (l := 0) (h := r.l.length - 1) (u := r.c) st133 (OV.p rfl) OO.none (OO.some (OV.p rfl) (fun _ => by omega)) OO.none (by simp) (Nat.zero_le _) hrc (Nat.le_refl _)) (fun _ => by rw [Nat.sub_zero, Nat.sub_zero, sub0])) rfl ?_
    refine WL.sg rfl rfl ?_
    refine WL.nil ?_
    refine WC.sr ?_
    refine WL.mv rfl rfl ?_
    refine WL.call (vs := [_, _]) Tryz.call133 ⟨OV.p rfl, OV.p rfl, trivial⟩ (sort_found stale1_is (by rw [List.length_dropLast]) (by omega)) rfl ?_
    rintro v0 H0 h0
    refine WL.sub (H' := SlA (.slice r.A (r.l.length - 1) r.c) 167 5 (r.l.length - 1) (flatF ll) :: Cells b8 42 (irs.map IRow.v) :: AllA (irs.map IRow.row) :: Cells bo 133 (rs.map FRow.v) :: AllA ((rs.drop (j + 1)).map FRow.row) :: F) (Sub.refl _) (fun w h => by rw [hll]; exact h0 w h) ?_
    refine WL.nil ?_
    refine WC.seq ?_
    have hnj : (irs.map IRow.l)[j]? = some [] := by rw [his, List.getElem?_append_right (by omega), hstk, Nat.sub_self, hrep]; rfl
    have hll2 : ∀ {X : List Assn} (k : Nat) (x : Fd), ll[k]? = some x → ∀ i v, x.cells[i]? = some v → Rd K (SlA (.slice r.A (r.l.length - 1) r.c) 167 5 (r.l.length - 1) (flatF ll) :: X) (r.A.map (·.add (k * 5 + i))) v := fun {X} k x hk i v hi => by
      have h9 : Seq K (SlA (.slice r.A (r.l.length - 1) r.c) 167 5 (r.l.length - 1) (flatF ll) :: X) r.A (r.l.length - 1) 5 (flatF ll) := SlA.seq (by rw [flatF_length, hlll])
      exact found_rd h9 hk hi
    refine WC.region ?_
    refine WL.mv rfl rfl ?_
    refine WL.val (V.len (t := 133) Tryz.runUnderlying133 (OV.p rfl)) rfl ?_
    refine WL.mv rfl rfl ?_
    refine WL.nil ?_
    refine WC.block ?_
    refine WC.loop (σ := Nat × List IRow) (fun s => [(8, .slice (some ⟨b8, 0, none⟩) lebs lebs), (9, .int .i64 (j : Int)), (24, .slice (some ⟨bo, 0, none⟩) lebs lebs), (25, .int .i64 (lebs : Int)), (26, .int .i64 (j : Int)), (41, .slice r.A (r.l.length - 1) r.c), (42, .int .i64 ((r.l.length - 1 : Nat) : Int)), (43, .int .i64 (s.1 : Int))]) (fun s => SlA (.slice r.A (r.l.length - 1) r.c) 167 5 (r.l.length - 1) (flatF ll) :: Cells b8 42 (s.2.map IRow.v) :: AllA (s.2.map IRow.row) :: Cells bo 133 (rs.map FRow.v) :: AllA ((rs.drop (j + 1)).map FRow.row) :: F) (fun s => s.1 ≤ r.l.length - 1 ∧ s.2.length = lebs ∧ s.2.map IRow.l = st.take j ++ ((ll.take s.1).map Fd.block :: List.replicate (lebs - (j + 1)) [])) (fun s => r.l.length - 1 - s.1) (0, irs) ⟨Nat.zero_le _, hil, by rw [his, hrep]; rfl⟩ (.cons rfl (.cons rfl (.cons rfl (.cons rfl (.cons rfl (.cons rfl (.cons rfl (.cons rfl (.nil _))))))))) (fun w h => h) ?_
    rintro ⟨k, qrs⟩ ⟨hk, hql, hqs⟩
    dsimp only at hk hql hqs ⊢
    refine WC.sr ?_
    refine WL.val (V.lss (OV.p rfl) (OV.p rfl)) rfl ?_
    refine WL.nil ?_
    refine WC.seq ?_
    refine WC.cond rfl (fun hc3 => ?_) (fun hc3 => ?_)
    ·simp only [decide_eq_true_eq, decide_eq_false_iff_not] at hc3
     have hkl : k < r.l.length - 1 := by omega
     obtain ⟨x, hx⟩ : ∃ x, ll[k]? = some x := ⟨_, List.getElem?_eq_getElem (by omega)⟩
     have hxr := fun {X : List Assn} i v hi => hll2 (X := X) k x hx i v hi
     have hti : (k : Int).toNat = k := by omega
     have hlk : ll.take (k + 1) = ll.take k ++ [x] := by rw [List.take_add_one, hx]; rfl
     obtain ⟨q, hq⟩ : ∃ q, q = qrs[j]'(by omega) := ⟨_, rfl⟩
     have hqg : qrs[j]? = some q := by rw [hq]; exact List.getElem?_eq_getElem (by omega)
     have hql2 : q.l = (ll.take k).map Fd.block := by
       have h3 : (qrs.map IRow.l)[j]? = some q.l := by rw [List.getElem?_map, hqg]; rfl
       rw [hqs, List.getElem?_append_right (by omega), hstk, Nat.sub_self] at h3
       injection h3 with h3
       exact h3.symm
     have hqb : q.l.length ≤ 20 := by rw [hql2, List.length_map, List.length_take]; omega
     have hqrow : (qrs.map IRow.row)[j]'(by rw [List.length_map]; omega) = q.row := by rw [List.getElem_map, hq]
     have hqv : (qrs.map IRow.v)[0 + (j : Int).toNat * 1]? = some q.v := by rw [show 0 + ((j : Nat) : Int).toNat * 1 = j by omega, List.getElem?_map, hqg]; rfl
     refine WC.skip ?_
     refine WC.seq ?_
     refine WC.block ?_
     refine WC.sr ?_
     refine WL.val (V.val_eq (v' := sp r.A (k * 5)) (V.idxS st133 (OV.p rfl) (OV.p rfl) (fun hc => by omega) (fun hc => by rw [hti]; repeat (first | exact hxr 0 _ rfl | apply Rd.up))) (fun _ => by rw [hti])) rfl ?_
     refine WL.val (V.loadS (vs := x.cells) ⟨Tryz.isAgg167, Tryz.sizeOf167⟩ (OV.p rfl) rfl (by decide) (fun _ i v hi => by repeat (first | exact hxr i v hi | apply Rd.up))) rfl ?_
     refine WL.alloc (cs := [(.int .i64 0), (.int .i64 0), (.int .i64 0), (.int .i64 0), (.bool false)]) Tryz.zeroValue167 rfl rfl (fun b12 => ?_)
     refine WL.store (cs := [_, _, _, _, _]) Tryz.sizeOf167 (OV.p rfl) (OV.p rfl) rfl rfl rfl (by repeat (first | exact Upd.here (cs' := [_, _, _, _, _]) rfl rfl | apply Upd.up)) ?_
     refine WL.nil ?_
     refine WC.sub (H' := SlA (.slice q.A q.l.length q.c) 3 1 q.l.length (ints .i64 q.l) :: Cells b8 42 (qrs.map IRow.v) :: AllA ((qrs.map IRow.row).eraseIdx j) :: Cells b12 167 x.cells :: SlA (.slice r.A (r.l.length - 1) r.c) 167 5 (r.l.length - 1) (flatF ll) :: Cells bo 133 (rs.map FRow.v) :: AllA ((rs.drop (j + 1)).map FRow.row) :: F) (Sub.refl _) (fun w h => by
       have h4 := Sat.takeA (k := j) (by rw [List.length_map]; omega) (h.sel 4 [3, 2, 0, 1] rfl)
       rw [hqrow] at h4
       exact h4.sel 5 [0, 2, 1, 3, 4] rfl) ?_
     refine WC.regionA (AllA ((qrs.map IRow.row).eraseIdx j) :: Cells b12 167 x.cells :: SlA (.slice r.A (r.l.length - 1) r.c) 167 5 (r.l.length - 1) (flatF ll) :: Cells bo 133 (rs.map FRow.v) :: AllA ((rs.drop (j + 1)).map FRow.row) :: F) (by kernel_rfl) ?_
     refine WA.t 0 rfl (V.move (OV.p rfl)) ?_
     refine WA.t 1 rfl (V.move (OV.p rfl)) ?_
     refine WA.t 2 rfl (V.move (OV.p rfl)) ?_
     refine WA.t 3 rfl (V.move (OV.p rfl)) ?_
     refine WA.t 4 rfl (V.idxB st124 (OV.p rfl) (OV.p rfl) (fun hc => by omega)) ?_
     refine WA.t 6 rfl (V.fieldAddr fo167_0 (OV.p rfl)) ?_
     refine WA.t 7 rfl (V.load Tryz.isAgg3 (OV.p rfl) (fun _ => by repeat (first | exact Rd.here rfl | apply Rd.up))) ?_
     refine WA.two (i := 5) (j := 8) (fun w h => by repeat (first | exact h | replace h := h.tail)) (by kernel_rfl) rfl rfl ?_ ?_
     ·refine WL.val (V.load Tryz.isAgg42 (OV.p rfl) (fun _ => by repeat (first | exact Rd.here hqv | apply Rd.up))) rfl ?_
      refine WL.nil ?_
      refine WA.o 8 rfl ?_
      refine WL.buildSlice (E := 3) (cs := [_]) (vs := [(0, _)]) ⟨OV.p rfl, trivial⟩ rfl (bsl42_1_0 _) rfl (fun b55 => ?_)
      refine WL.nil ?_
      refine WA.o 9 rfl ?_
      refine WL.sub (Sub.refl _) (fun w h => h.p1) ?_
      refine WL.append (m := q.l.length) (q := 1) (news := [.int .i64 x.block]) Tryz.underlying42 el3 (OV.p rfl) (OV.p rfl) (Seq.all rfl) (by intro u hu; rw [List.mem_singleton.1 hu]; rfl) (by omega) rfl rfl (fun A5 c5 hA5 hc5 => ?_)
      refine WL.nil ?_
      refine WA.t 10 rfl (V.idxB st124 (OV.p rfl) (OV.p rfl) (fun hc => by omega)) ?_
      refine WA.o 11 rfl ?_
      refine WL.store (cs := [_]) Tryz.sizeOf42 (OV.p rfl) (OV.p rfl) rfl rfl rfl (Upd.up (Upd.up (Upd.at_ (by rw [List.length_map]; omega)))) ?_
      refine WL.nil ?_
      refine WA.fin ?_
      refine WC.region ?_
      refine WL.ad rfl rfl rfl ?_
      refine WL.mv rfl rfl ?_
      refine WL.nil ?_
      refine ⟨rfl, ?_⟩
      refine ⟨(k + 1, qrs.set j ⟨A5, c5, q.l ++ [x.block]⟩), ⟨hkl, by show (qrs.set _ _).length = lebs; rw [List.length_set]; exact hql, ?_⟩, (by show r.l.length - 1 - (k + 1) < r.l.length - 1 - k; omega), .cons rfl (.cons rfl (.cons rfl (.cons rfl (.cons rfl (.cons rfl (.cons rfl (.cons (look_eq rfl (by simp)) (.nil _)))))))), fun w h => ?_⟩
      · show (qrs.set j _).map IRow.l = _
        rw [List.map_set, hqs, List.set_append_right _ _ (by omega), hstk, Nat.sub_self, List.set_cons_zero, hlk, List.map_append, ← hql2]; rfl
      · have h5 := h.sel 5 [0, 3, 2, 4] rfl
        have e1 : SlA (.slice A5 (q.l.length + 1) c5) 3 1 (q.l.length + 1) (ints .i64 q.l ++ [.int .i64 x.block]) = IRow.row ⟨A5, c5, q.l ++ [x.block]⟩ := by
          unfold IRow.row
          rw [ints_append, List.length_append]; rfl
        rw [e1] at h5
        have h6 := Sat.putA (l := qrs.map IRow.row) (k := j) (by rw [List.length_map]; omega) h5
        have e2 : (qrs.map IRow.v).set (0 + (j : Int).toNat * 1) (.slice A5 (q.l.length + 1) c5) = (qrs.set j ⟨A5, c5, q.l ++ [x.block]⟩).map IRow.v := by
          rw [show 0 + ((j : Nat) : Int).toNat * 1 = j by omega, List.map_set]
          show _ = (qrs.map IRow.v).set j (.slice A5 (q.l ++ [x.block]).length c5)
          rw [List.length_append]; rfl
        rw [e2, ← List.map_set] at h6
        exact h6.sel 4 [3, 1, 0] rfl
     ·refine WL.buildSlice (E := 3) (cs := [_]) (vs := [(0, _)]) ⟨OV.p rfl, trivial⟩ rfl (bsl42_1_0 _) rfl (fun b55 => ?_)
      refine WL.nil ?_
      refine WA.o 5 rfl ?_
      refine WL.val (V.load Tryz.isAgg42 (OV.p rfl) (fun _ => by repeat (first | exact Rd.here hqv | apply Rd.up))) rfl ?_
      refine WL.nil ?_
      refine WA.o 9 rfl ?_
      refine WL.sub (Sub.refl _) (fun w h => h.p1) ?_
      refine WL.append (m := q.l.length) (q := 1) (news := [.int .i64 x.block]) Tryz.underlying42 el3 (OV.p rfl) (OV.p rfl) (Seq.all rfl) (by intro u hu; rw [List.mem_singleton.1 hu]; rfl) (by omega) rfl rfl (fun A5 c5 hA5 hc5 => ?_)
      refine WL.nil ?_
      refine WA.t 10 rfl (V.idxB st124 (OV.p rfl) (OV.p rfl) (fun hc => by omega)) ?_
      refine WA.o 11 rfl ?_
      refine WL.store (cs := [_]) Tryz.sizeOf42 (OV.p rfl) (OV.p rfl) rfl rfl rfl (Upd.up (Upd.up (Upd.at_ (by rw [List.length_map]; omega)))) ?_
      refine WL.nil ?_
      refine WA.fin ?_
      refine WC.region ?_
      refine WL.ad rfl rfl rfl ?_
      refine WL.mv rfl rfl ?_
      refine WL.nil ?_
      refine ⟨rfl, ?_⟩
      refine ⟨(k + 1, qrs.set j ⟨A5, c5, q.l ++ [x.block]⟩), ⟨hkl, by show (qrs.set _ _).length = lebs; rw [List.length_set]; exact hql, ?_⟩, (by show r.l.length - 1 - (k + 1) < r.l.length - 1 - k; omega), .cons rfl (.cons rfl (.cons rfl (.cons rfl (.cons rfl (.cons rfl (.cons rfl (.cons (look_eq rfl (by simp)) (.nil _)))))))), fun w h => ?_⟩
      · show (qrs.set j _).map IRow.l = _
        rw [List.map_set, hqs, List.set_append_right _ _ (by omega), hstk, Nat.sub_self, List.set_cons_zero, hlk, List.map_append, ← hql2]; rfl
      · have h5 := h.sel 5 [0, 3, 2, 4] rfl
        have e1 : SlA (.slice A5 (q.l.length + 1) c5) 3 1 (q.l.length + 1) (ints .i64 q.l ++ [.int .i64 x.block]) = IRow.row ⟨A5, c5, q.l ++ [x.block]⟩ := by
          unfold IRow.row
          rw [ints_append, List.length_append]; rfl
        rw [e1] at h5
        have h6 := Sat.putA (l := qrs.map IRow.row) (k := j) (by rw [List.length_map]; omega) h5
        have e2 : (qrs.map IRow.v).set (0 + (j : Int).toNat * 1) (.slice A5 (q.l.length + 1) c5) = (qrs.set j ⟨A5, c5, q.l ++ [x.block]⟩).map IRow.v := by
          rw [show 0 + ((j : Nat) : Int).toNat * 1 = j by omega, List.map_set]
          show _ = (qrs.map IRow.v).set j (.slice A5 (q.l ++ [x.block]).length c5)
          rw [List.length_append]; rfl
        rw [e2, ← List.map_set] at h6
        exact h6.sel 4 [3, 1, 0] rfl
    ·simp only [decide_eq_true_eq, decide_eq_false_iff_not] at hc3
     refine WC.exit ?_
     refine WC.region ?_
     refine WL.ad rfl rfl rfl ?_
     refine WL.mv rfl rfl ?_
     refine WL.nil ?_
     refine ⟨rfl, ?_⟩
     first
     | (refine ⟨(j + 1, qrs), ⟨hjl, hql, ?_⟩, (by show lebs - (j + 1) < lebs - j; omega), .cons rfl (.cons rfl (.cons rfl (.cons (look_eq rfl (by simp)) (.nil _)))), fun w h => h.sel 1 [] rfl⟩
        obtain rfl : k = r.l.length - 1 := by omega
        show qrs.map IRow.l = _
        rw [hqs, htk, hsj, List.take_of_length_le (l := ll) (by omega), List.append_assoc]; rfl)
     | (refine ⟨(j + 1, irs), ⟨hjl, hil, ?_⟩, (by show lebs - (j + 1) < lebs - j; omega), .cons rfl (.cons rfl (.cons rfl (.cons (look_eq rfl (by simp)) (.nil _)))), fun w h => ?_⟩
        · show irs.map IRow.l = _
          rw [his, htk, hsj, hrep, List.append_assoc]; rfl
        · rw [hdr, List.map_cons] at h
          have h4 := Sat.takeA (k := 0) (by simp) (h.sel 4 [3, 0, 1, 2] rfl)
          have h5 : Sat K w (r.row :: AllA ((rs.drop (j + 1)).map FRow.row) :: Cells b8 42 (irs.map IRow.v) :: AllA (irs.map IRow.row) :: Cells bo 133 (rs.map FRow.v) :: F) := h4
          exact h5.sel 5 [2, 3, 4, 1] rfl)
  ·simp only [decide_eq_true_eq, decide_eq_false_iff_not] at hc1
   refine WC.exit ?_
   refine WC.sr ?_
   refine WL.mv rfl rfl ?_
   refine WL.sg rfl rfl ?_
   refine WL.sg rfl rfl ?_
   refine WL.nil ?_
   refine WC.ret ?_
   obtain rfl : j = lebs := by omega
   refine BodyQ.ret (H' := Cells b8 42 (irs.map IRow.v) :: AllA (irs.map IRow.row) :: F) (Res.tmp2 rfl rfl rfl) (fun w h => h.sel 4 [0, 1] rfl) ⟨b8, irs, hil, ?_, rfl, rfl⟩
   rw [his, List.take_of_length_le (by omega), Nat.sub_self, List.replicate_zero, List.append_nil]
end
end Go.Proofs.YtohkefolnmcjnaaGreat
namespace Go.Proofs.YtohkefolnmcjnaaGreat
open Go.Sl Go.RowKit
set_option linter.unusedVariables false
set_option linter.unusedSimpArgs false
set_option maxRecDepth 20000
structure St where
  stands : List Int
  stale : List (List Int)
  (next at_ : Int)
  dead : Bool
def openF (S : Chip) (lebs : Nat) : St := ⟨pickF lebs S.scanF, staleF lebs S.scanF, nextF S.scanF, 0, false⟩
namespace St
def ready (T : St) (leb : Int) : Int := if T.dead then 70 else if leb < 0 ∨ (T.stands.length : Int) ≤ leb then 1 else 0
def told (T : St) (e : Int) : St := { T with dead := T.dead || decide (e = 70) }
def at' (T : St) (leb : Int) : Int := T.stands.getD leb.toNat 0
end St
structure Stw where
  stands : List Int
  sA : Option Addr
  sc : Nat
  b8 : Nat
  irs : List IRow
  (next at_ : Int)
  dead : Bool
namespace Stw
def sem (T : Stw) : St := ⟨T.stands, T.irs.map IRow.l, T.next, T.at_, T.dead⟩
abbrev cells (T : Stw) (bd : Nat) (g : Geo) : List Value := [ptr bd 0, .int .i64 g.bl, .int .i64 g.pg, .int .i64 g.se, .int .i64 g.sb, .int .i64 g.fl, .slice T.sA T.stands.length T.sc, .slice (some ⟨T.b8, 0, none⟩) T.irs.length T.irs.length, .int .i64 T.next, .int .i64 T.at_, .bool T.dead]
abbrev sl (T : Stw) : Assn := SlA (.slice T.sA T.stands.length T.sc) 3 1 T.stands.length (ints .i64 T.stands)
abbrev parts (bs bd : Nat) (g : Geo) (T : Stw) : List Assn := [Cells bs 126 (T.cells bd g), T.sl, Cells T.b8 42 (T.irs.map IRow.v), AllA (T.irs.map IRow.row)]
def A (bs bd : Nat) (g : Geo) (T : Stw) : Assn := AllA (parts bs bd g T)
structure Ok (g : Geo) (T : Stw) : Prop where
  len : T.irs.length = T.stands.length
  lebs : 1 ≤ T.stands.length ∧ T.stands.length ≤ 64
  next : 1 ≤ T.next ∧ T.next ≤ 1000000001
  at_ : 0 ≤ T.at_ ∧ T.at_ < g.bl
  std : ∀ b ∈ T.stands, -1 ≤ b ∧ b < g.bl
end Stw
theorem Seq.inAll {K : World} {l H : List Assn} {A : Assn} {B : Option Addr} {m s : Nat} {vs : List Value} (hA : A ∈ l) (h : Seq K [A] B m s vs) : Seq K (AllA l :: H) B m s vs := ⟨h.len, fun i v hi => Rd.inAll hA (h.rd i v hi)⟩
section
variable {bs bd bc : Nat} {g : Geo} {T : Stw} {C : Cw} {K : World} {F : List Assn}
theorem Stw.rds : Rds K (Stw.A bs bd g T :: F) bs 0 (T.cells bd g) := fun i v hi => by
  show Rd K (AllA (Stw.parts bs bd g T) :: F) _ v
  refine Rd.inAll (A := Cells bs 126 (T.cells bd g)) (.head _) (Rd.here ?_)
  rw [Nat.zero_add]; exact hi
theorem Stw.rdg : Rds K (Stw.A bs bd g T :: F) bs 1 [.int .i64 g.bl, .int .i64 g.pg, .int .i64 g.se, .int .i64 g.sb, .int .i64 g.fl] := fun i v hi => by
  have key : ∀ k v, (T.cells bd g)[k]? = some v → Rd K (Stw.A bs bd g T :: F) (some ⟨bs, k, none⟩) v := fun k v hk => by
    have := Stw.rds (K := K) (F := F) (bs := bs) (bd := bd) (g := g) (T := T) k v hk
    rwa [Nat.zero_add] at this
  match i, hi with
  | 0, hi => exact key 1 v hi
  | 1, hi => exact key 2 v hi
  | 2, hi => exact key 3 v hi
  | 3, hi => exact key 4 v hi
  | 4, hi => exact key 5 v hi
theorem Stw.seqS : Seq K (Stw.A bs bd g T :: F) T.sA T.stands.length 1 (ints .i64 T.stands) :=
  Seq.inAll (A := T.sl) (l := Stw.parts bs bd g T) (.tail _ (.head _)) (SlA.seq (by rw [ints_length, Nat.mul_one]))
theorem Stw.rdS {leb : Int} (h : 0 ≤ leb ∧ leb < T.stands.length) : Rd K (Stw.A bs bd g T :: F) (T.sA.map (·.add (leb.toNat * 1))) (.int .i64 (T.sem.at' leb)) := Seq.int_rd Stw.seqS h
theorem Does.openS {f : FuncId} {args : Array Value} {post : Value → List Assn → Prop} (h : Does Tryz.prog f args K (Stw.parts bs bd g T ++ F) post) : Does Tryz.prog f args K (Stw.A bs bd g T :: F) post := h.sat fun w hw => hw.unall
theorem pickF_bd {lebs : Nat} {fs : List Fd} {B : Int} (h : ∀ x ∈ fs, 0 ≤ x.block ∧ x.block < B) (hB : 0 < B) : ∀ b ∈ pickF lebs fs, -1 ≤ b ∧ b < B := fun b hb => by
  unfold pickF at hb
  obtain ⟨l, hl, rfl⟩ := List.mem_map.1 hb
  unfold rowsF at hl
  obtain ⟨leb, _, rfl⟩ := List.mem_map.1 hl
  unfold lastB
  cases hx : (isort (ltOf cmpN) (fs.filter (isOf leb))).getLast? with
  | none => exact ⟨by decide, by dsimp only; omega⟩
  | some x =>
    have h1 := mem_isort.1 (List.mem_of_getLast? hx)
    have := h x (List.mem_filter.1 h1).1
    exact ⟨by dsimp only; omega, this.2⟩
theorem scanB_facts {S : Chip} {b : Int} {x : Fd} (hg : S.g.mays) (h : S.scanB b = some x) : x.block = b ∧ x.hd.may S.g = true := by
  unfold Chip.scanB at h
  split at h
  · cases h
  · split at h
    · cases h
    · rename_i hp
      injection h with h
      subst h
      exact ⟨rfl, (parse_len hg hp).2.1⟩
theorem scanF_facts {S : Chip} (hg : S.g.mays) : ∀ x ∈ S.scanF, (0 ≤ x.block ∧ x.block < S.g.bl) ∧ x.hd.may S.g = true := fun x hx => by
  unfold Chip.scanF at hx
  obtain ⟨b, hb, hs⟩ := List.mem_filterMap.1 hx
  obtain ⟨h1, h2⟩ := scanB_facts hg hs
  have h3 := Chip.goodTo_mem S _ b hb
  unfold Geo.mays at hg
  exact ⟨by rw [h1]; omega, h2⟩
theorem Hd.num_bd {g : Geo} {h : Hd} (hm : h.may g = true) : 1 ≤ h.num ∧ h.num ≤ 1000000000 := by
  unfold Hd.may at hm
  simp only [Bool.and_eq_true, decide_eq_true_eq] at hm
  exact ⟨hm.1.2, hm.2⟩
theorem mxTo_mem {c : Fd → Fd → Int} {fs : List Fd} (h0 : 0 < fs.length) : ∀ k, k < fs.length → mxTo c fs k ∈ fs
  | 0, _ => by show fs.getD 0 fd0 ∈ fs; simp only [List.getD, List.getElem?_eq_getElem h0]; exact List.getElem_mem _
  | k + 1, hk => by
    rw [mxTo]
    split
    · simp only [List.getD, List.getElem?_eq_getElem hk]; exact List.getElem_mem _
    · exact mxTo_mem h0 k (by omega)
theorem nextF_bd {fs : List Fd} (h : ∀ x ∈ fs, 1 ≤ x.hd.num ∧ x.hd.num ≤ 1000000000) : 1 ≤ nextF fs ∧ nextF fs ≤ 1000000001 := by
  unfold nextF
  split
  · omega
  · have := h _ (mxTo_mem (c := cmpM) (by omega) (fs.length - 1) (by omega))
    omega
theorem store_Open (hC : C.Ok) (hg : C.g = g) {lebs : Nat} (hl : 1 ≤ lebs ∧ lebs ≤ 64) (h19 : g.bl ≤ 19) (he : C.sem.scanE = 0) : Does Tryz.prog 29 #[ptr bd 0, .int .i64 (lebs : Int)] K (C.A bc :: DvA bd bc g :: F)
    (fun v H' => ∃ bs : Nat, ∃ T : Stw, T.Ok g ∧ T.sem = openF C.sem lebs ∧ v = .tuple #[ptr bs 0, .int .i64 0] ∧ H' = C.A bc :: DvA bd bc g :: T.A bs bd g :: F) := by
  have hgm : g.mays := by rw [← hg]; exact hC.mays
  have hgb := hgm
  unfold Geo.mays at hgb
  have hsf := scanF_facts (S := C.sem) hC.mays
  have hfl : C.sem.scanF.length ≤ 19 := by
    have h1 := Chip.goodTo_length C.sem C.sem.g.bl.toNat
    have h2 : C.sem.g.bl.toNat ≤ 19 := by rw [show C.sem.g = C.g from rfl, hg]; omega
    unfold Chip.scanF
    refine Nat.le_trans (List.length_filterMap_le _ _) ?_
    unfold Chip.good; omega
  obtain ⟨fs, hfs⟩ : ∃ fs, fs = C.sem.scanF := ⟨_, rfl⟩
  have hnx := nextF_bd (fs := fs) (fun x hx => Hd.num_bd (hsf x (by rw [← hfs]; exact hx)).2)
  refine Does.enter Tryz.func29 rfl Tryz.ntmps29 rfl ?_
  simp only [env0, Nat.reduceAdd]
  refine WC.sr ?_
  refine WL.sg rfl rfl ?_
  refine WL.sg rfl rfl ?_
  refine WL.nil ?_
  refine WC.seq ?_
  refine WC.sr ?_
  refine WL.mv rfl rfl ?_
  refine WL.val (V.eqlP Tryz.underlying31 (OV.p rfl) (OV.p rfl)) rfl ?_
  refine WL.nil ?_
  refine WC.condF' rfl (by first | rfl | (simp; done) | (simp; omega)) ?_
  refine WC.skip ?_
  refine WC.seq ?_
  refine WC.sr ?_
  refine WL.mv rfl rfl ?_
  refine WL.val (V.lss (OV.p rfl) (OV.p rfl)) rfl ?_
  refine WL.mv rfl rfl ?_
  refine WL.valG (oj := _) rfl rfl rfl GC.f (V.move (OV.p rfl)) rfl ?_
  refine WL.valG (oj := _) rfl rfl rfl GC.f (V.gtr (OV.g rfl id) (OV.p rfl)) rfl ?_
  refine WL.val (V.pickOr (OV.p rfl) (OV.g rfl id)) rfl ?_
  refine WL.nil ?_
  refine WC.condF' rfl ((by simp; omega)) ?_
  refine WC.skip ?_
  refine WC.sr ?_
  refine WL.mv rfl rfl ?_
  refine WL.call (vs := [_]) Tryz.call92 ⟨OV.p rfl, trivial⟩ (attach_Scan hC hg h19 he) rfl ?_
  rintro _ _ ⟨Af, cf, rfl, rfl⟩
  rw [← hfs] at hfl hsf ⊢
  refine WL.mv rfl rfl ?_
  refine WL.xt rfl rfl rfl ?_
  refine WL.xt rfl rfl rfl ?_
  refine WL.sg rfl rfl ?_
  refine WL.sg rfl rfl ?_
  refine WL.nil ?_
  refine WC.seq ?_
  refine WC.sr ?_
  refine WL.mv rfl rfl ?_
  refine WL.val (V.neq (OV.p rfl) (OV.p rfl)) rfl ?_
  refine WL.nil ?_
  refine WC.condF' rfl (by first | rfl | (simp; done) | (simp; omega)) ?_
  refine WC.skip ?_
  refine WC.sr ?_
  refine WL.mv rfl rfl ?_
  refine WL.mv rfl rfl ?_
  refine WL.call (vs := [_]) Tryz.call20 ⟨OV.p rfl, trivial⟩ (drive_Geometry) rfl ?_
  rintro _ H0 ⟨rfl, h0⟩
  subst H0
  refine WL.val (V.build (vs := [(0, _), (1, _)]) ⟨OV.p rfl, OV.p rfl, trivial⟩ rfl (bld126_0_1 _ _ _ _ _ _)) rfl ?_
  refine WL.box (cs := [_, _, _, _, _, _, _, _, _, _, _]) (OV.p rfl) rfl rfl (fun b29 => ?_)
  refine WL.sg rfl rfl ?_
  refine WL.nil ?_
  refine WC.sr ?_
  refine WL.mv rfl rfl ?_
  refine WL.mv rfl rfl ?_
  refine WL.mv rfl rfl ?_
  refine WL.mv rfl rfl ?_
  refine WL.call (vs := [_, _]) Tryz.call93 ⟨OV.p rfl, OV.p rfl, trivial⟩ (attach_Pick (fs := fs) hl (by repeat (first | exact SlA.seq (flatF_length _) | apply Seq.up)) rfl (by omega) (fun x hx => by have := Hd.num_bd (hsf x hx).2; omega)) rfl ?_
  rintro _ _ ⟨Ap, cp, rfl, rfl⟩
  refine WL.mv rfl rfl ?_
  refine WL.xt rfl rfl rfl ?_
  refine WL.xt rfl rfl rfl ?_
  refine WL.xt rfl rfl rfl ?_
  refine WL.nc rfl rfl ?_
  refine WL.val (V.fieldAddr fo126_2 (OV.p rfl)) rfl ?_
  refine WL.store (cs := [_]) Tryz.sizeOf42 (OV.p rfl) (OV.p rfl) rfl rfl rfl (by repeat (first | exact Upd.here (cs' := [_, _, _, _, _, _, _, _, _, _, _]) rfl rfl | apply Upd.up)) ?_
  refine WL.nc rfl rfl ?_
  refine WL.val (V.fieldAddr fo126_4 (OV.p rfl)) rfl ?_
  refine WL.store (cs := [_]) Tryz.sizeOf3 (OV.p rfl) (OV.p rfl) rfl rfl rfl (by repeat (first | exact Upd.here (cs' := [_, _, _, _, _, _, _, _, _, _, _]) rfl rfl | apply Upd.up)) ?_
  refine WL.nil ?_
  refine WC.sr ?_
  refine WL.mv rfl rfl ?_
  refine WL.mv rfl rfl ?_
  refine WL.mv rfl rfl ?_
  refine WL.call (vs := [_, _]) Tryz.call94 ⟨OV.p rfl, OV.p rfl, trivial⟩ (attach_Stale (fs := fs) hl (by repeat (first | exact SlA.seq (flatF_length _) | apply Seq.up)) rfl (by omega)) rfl ?_
  rintro _ _ ⟨b8, irs, hil, his, rfl, rfl⟩
  refine WL.mv rfl rfl ?_
  refine WL.xt rfl rfl rfl ?_
  refine WL.xt rfl rfl rfl ?_
  refine WL.nc rfl rfl ?_
  refine WL.val (V.fieldAddr fo126_3 (OV.p rfl)) rfl ?_
  refine WL.store (cs := [_]) Tryz.sizeOf124 (OV.p rfl) (OV.p rfl) rfl rfl rfl (by repeat (first | exact Upd.here (cs' := [_, _, _, _, _, _, _, _, _, _, _]) rfl rfl | apply Upd.up)) ?_
  refine WL.nil ?_
  refine WC.sr ?_
  refine WL.mv rfl rfl ?_
  refine WL.sg rfl rfl ?_
  refine WL.sg rfl rfl ?_
  refine WL.nil ?_
  refine WC.ret ?_
  obtain ⟨T, hT⟩ : ∃ T : Stw, T = ⟨pickF lebs fs, Ap, cp, b8, irs, nextF fs, 0, false⟩ := ⟨_, rfl⟩
  have hpl := pickF_length lebs fs
  refine BodyQ.ret (H' := C.A bc :: DvA bd bc g :: T.A b29 bd g :: F) (Res.tmp2 rfl rfl rfl) (fun w h => ?_) ⟨b29, T, ?_, ?_, rfl, rfl⟩
  · have h1 := h.sel 7 [3, 2, 0, 1, 4, 5] rfl
    have h2 := Sat.all (l := Stw.parts b29 bd g T) (H := C.A bc :: DvA bd bc g :: F) (K := K) (w := w) (by
      unfold Stw.parts Stw.cells Stw.sl
      rw [hT]
      dsimp only
      rw [hpl, hil]
      exact h1)
    exact h2.sel 3 [1, 2, 0] rfl
  · rw [hT]
    refine ⟨by show irs.length = (pickF lebs fs).length; omega, by show 1 ≤ (pickF lebs fs).length ∧ (pickF lebs fs).length ≤ 64; omega, by show 1 ≤ nextF fs ∧ nextF fs ≤ 1000000001; omega, by show (0 : Int) ≤ 0 ∧ 0 < g.bl; omega, ?_⟩
    exact pickF_bd (fun x hx => by have := (hsf x hx).1; rw [show C.sem.g = C.g from rfl, hg] at this; exact this) (by omega)
  · rw [hT]
    unfold Stw.sem openF
    rw [← hfs, his]
theorem store_Lebs : Tells Tryz.prog 33 #[ptr bs 0] K (T.A bs bd g :: F) (.int .i64 (T.stands.length : Int)) := by
  refine Does.enter Tryz.func33 rfl Tryz.ntmps33 rfl ?_
  simp only [env0, Nat.reduceAdd]
  refine WC.sr ?_
  refine WL.sg rfl rfl ?_
  refine WL.nil ?_
  refine WC.seq ?_
  refine WC.sr ?_
  refine WL.mv rfl rfl ?_
  refine WL.val (V.eqlP Tryz.underlying56 (OV.p rfl) (OV.p rfl)) rfl ?_
  refine WL.nil ?_
  refine WC.condF' rfl (by first | rfl | (simp; done) | (simp; omega)) ?_
  refine WC.skip ?_
  refine WC.sr ?_
  refine WL.mv rfl rfl ?_
  refine WL.nc rfl rfl ?_
  refine WL.val (V.fieldAddr fo126_2 (OV.p rfl)) rfl ?_
  refine WL.val (V.load Tryz.isAgg42 (OV.p rfl) (fun _ => Stw.rds 6 _ rfl)) rfl ?_
  refine WL.val (V.len (t := 42) Tryz.runUnderlying42 (OV.p rfl)) rfl ?_
  refine WL.sg rfl rfl ?_
  refine WL.nil ?_
  refine WC.ret ?_
  exact BodyQ.ret (H' := T.A bs bd g :: F) (Res.tmp rfl rfl) (fun w h => h) ⟨rfl, rfl⟩
theorem store_Cap (hg : g.mays) : Tells Tryz.prog 34 #[ptr bs 0] K (T.A bs bd g :: F) (.int .i64 g.cap) := by
  refine Does.enter Tryz.func34 rfl Tryz.ntmps34 rfl ?_
  simp only [env0, Nat.reduceAdd]
  refine WC.sr ?_
  refine WL.sg rfl rfl ?_
  refine WL.nil ?_
  refine WC.seq ?_
  refine WC.sr ?_
  refine WL.mv rfl rfl ?_
  refine WL.val (V.eqlP Tryz.underlying56 (OV.p rfl) (OV.p rfl)) rfl ?_
  refine WL.nil ?_
  refine WC.condF' rfl (by first | rfl | (simp; done) | (simp; omega)) ?_
  refine WC.skip ?_
  refine WC.sr ?_
  refine WL.mv rfl rfl ?_
  refine WL.nc rfl rfl ?_
  refine WL.val (V.fieldAddr fo126_1 (OV.p rfl)) rfl ?_
  refine WL.val (V.loadA (vs := [.int .i64 g.bl, .int .i64 g.pg, .int .i64 g.se, .int .i64 g.sb, .int .i64 g.fl]) ⟨Tryz.isAgg23, Tryz.sizeOf23⟩ (OV.p rfl) rfl (fun _ => Stw.rdg)) rfl ?_
  refine WL.call (vs := [_]) Tryz.call100 ⟨OV.p rfl, trivial⟩ (head_Cap hg) rfl ?_
  rintro _ H0 ⟨rfl, h0⟩
  subst H0
  refine WL.mv rfl rfl ?_
  refine WL.xt rfl rfl rfl ?_
  refine WL.xt rfl rfl rfl ?_
  refine WL.sg rfl rfl ?_
  refine WL.sg rfl rfl ?_
  refine WL.nil ?_
  refine WC.sr ?_
  refine WL.mv rfl rfl ?_
  refine WL.sg rfl rfl ?_
  refine WL.nil ?_
  refine WC.ret ?_
  exact BodyQ.ret (H' := T.A bs bd g :: F) (Res.tmp rfl rfl) (fun w h => h) ⟨rfl, rfl⟩
theorem store_ready (leb : Int) : Tells Tryz.prog 88 #[ptr bs 0, .int .i64 leb] K (T.A bs bd g :: F) (.int .i64 (T.sem.ready leb)) := by
  obtain ⟨X, hX⟩ : ∃ X, X = T.sem.ready leb := ⟨_, rfl⟩
  rw [← hX]
  unfold St.ready Stw.sem at hX
  dsimp only at hX
  refine Does.enter Tryz.func88 rfl Tryz.ntmps88 rfl ?_
  simp only [env0, Nat.reduceAdd]
  refine WC.sr ?_
  refine WL.sg rfl rfl ?_
  refine WL.nil ?_
  refine WC.seq ?_
  refine WC.block ?_
  refine WC.sr ?_
  refine WL.mv rfl rfl ?_
  refine WL.val (V.eqlP Tryz.underlying56 (OV.p rfl) (OV.p rfl)) rfl ?_
  refine WL.sg rfl rfl ?_
  refine WL.nil ?_
  refine WC.condF' rfl (by first | rfl | (simp; done) | (simp; omega)) ?_
  refine WC.sr ?_
  refine WL.mv rfl rfl ?_
  refine WL.nc rfl rfl ?_
  refine WL.val (V.fieldAddr fo126_6 (OV.p rfl)) rfl ?_
  refine WL.val (V.load Tryz.isAgg4 (OV.p rfl) (fun _ => Stw.rds 10 _ rfl)) rfl ?_
  refine WL.sg rfl rfl ?_
  refine WL.nil ?_
  refine WC.cond rfl (fun hc1 => ?_) (fun hc1 => ?_)
  ·skip
   have h1 := hc1
   rw [h1] at hX
   refine WC.sr ?_
   refine WL.sg rfl rfl ?_
   refine WL.nil ?_
   refine WC.ret ?_
   exact BodyQ.ret (H' := T.A bs bd g :: F) (Res.tmp rfl rfl) (fun w h => h) ⟨by rw [hX]; rfl, rfl⟩
  ·skip
   have h1 := hc1
   rw [h1] at hX
   rw [if_neg Bool.false_ne_true] at hX
   refine WC.sr ?_
   refine WL.mv rfl rfl ?_
   refine WL.val (V.lss (OV.p rfl) (OV.p rfl)) rfl ?_
   refine WL.mv rfl rfl ?_
   refine WL.valG (oj := _) rfl rfl rfl GC.f (V.move (OV.p rfl)) rfl ?_
   refine WL.valG (oj := _) rfl rfl rfl GC.f (V.move (OV.p rfl)) rfl ?_
   refine WL.valG (oj := _) rfl rfl rfl GC.f (V.nilCheck (OV.g rfl id)) rfl ?_
   refine WL.valG (oj := _) rfl rfl rfl GC.f (V.fieldAddr fo126_2 (OV.g rfl id)) rfl ?_
   refine WL.valG (oj := _) rfl rfl rfl GC.f (V.load Tryz.isAgg42 (OV.g rfl id) (fun _ => Stw.rds 6 _ rfl)) rfl ?_
   refine WL.valG (oj := _) rfl rfl rfl GC.f (V.len (t := 42) Tryz.runUnderlying42 (OV.g rfl id)) rfl ?_
   refine WL.valG (oj := _) rfl rfl rfl GC.f (V.geq (OV.g rfl id) (OV.g rfl id)) rfl ?_
   refine WL.val (V.pickOr (OV.p rfl) (OV.g rfl id)) rfl ?_
   refine WL.sg rfl rfl ?_
   refine WL.nil ?_
   refine WC.cond rfl (fun hc2 => ?_) (fun hc2 => ?_)
   ·simp only [Bool.or_eq_true, Bool.or_eq_false_iff, decide_eq_true_eq, decide_eq_false_iff_not] at hc2
    have h2 := hc2
    rw [if_pos h2] at hX
    refine WC.sr ?_
    refine WL.sg rfl rfl ?_
    refine WL.nil ?_
    refine WC.ret ?_
    exact BodyQ.ret (H' := T.A bs bd g :: F) (Res.tmp rfl rfl) (fun w h => h) ⟨by rw [hX], rfl⟩
   ·simp only [Bool.or_eq_true, Bool.or_eq_false_iff, decide_eq_true_eq, decide_eq_false_iff_not] at hc2
    have h2 := hc2
    rw [if_neg (by rintro (h | h); exact h2.1 h; exact h2.2 h)] at hX
    refine WC.skip ?_
    refine WC.sr ?_
    refine WL.sg rfl rfl ?_
    refine WL.nil ?_
    refine WC.ret ?_
    exact BodyQ.ret (H' := T.A bs bd g :: F) (Res.tmp rfl rfl) (fun w h => h) ⟨by rw [hX], rfl⟩
def Stw.told (T : Stw) (e : Int) : Stw := { T with dead := T.dead || decide (e = 70) }
theorem Stw.Ok.told {T : Stw} (h : T.Ok g) (e : Int) : (T.told e).Ok g := ⟨h.len, h.lebs, h.next, h.at_, h.std⟩
theorem store_told (e : Int) : Does Tryz.prog 89 #[ptr bs 0, .int .i64 e] K (T.A bs bd g :: F) (fun v H' => v = .int .i64 e ∧ H' = (T.told e).A bs bd g :: F) := by
  refine Does.openS ?_
  dsimp only [Stw.parts, List.cons_append, List.nil_append]
  refine Does.enter Tryz.func89 rfl Tryz.ntmps89 rfl ?_
  simp only [env0, Nat.reduceAdd]
  refine WC.sr ?_
  refine WL.sg rfl rfl ?_
  refine WL.nil ?_
  refine WC.sr ?_
  refine WL.mv rfl rfl ?_
  refine WL.mv rfl rfl ?_
  refine WL.nc rfl rfl ?_
  refine WL.val (V.fieldAddr fo126_6 (OV.p rfl)) rfl ?_
  refine WL.ld Tryz.isAgg4 rfl rfl ?_
  refine WL.mv rfl rfl ?_
  refine WL.valG (oj := _) rfl rfl rfl GC.f (V.move (OV.p rfl)) rfl ?_
  refine WL.valG (oj := _) rfl rfl rfl GC.f (V.eql (OV.g rfl id) (OV.p rfl)) rfl ?_
  refine WL.val (V.pickOr (OV.p rfl) (OV.g rfl id)) rfl ?_
  refine WL.nc rfl rfl ?_
  refine WL.val (V.fieldAddr fo126_6 (OV.p rfl)) rfl ?_
  refine WL.store (cs := [_]) Tryz.sizeOf4 (OV.p rfl) (OV.p rfl) rfl rfl rfl (by repeat (first | exact Upd.here rfl rfl | apply Upd.up)) ?_
  refine WL.nil ?_
  refine WC.sr ?_
  refine WL.mv rfl rfl ?_
  refine WL.sg rfl rfl ?_
  refine WL.nil ?_
  refine WC.ret ?_
  exact BodyQ.ret (H' := (T.told e).A bs bd g :: F) (Res.tmp rfl rfl) (fun w h => Sat.all (l := Stw.parts bs bd g (T.told e)) h) ⟨rfl, rfl⟩
theorem store_Has {leb : Int} : Tells Tryz.prog 35 #[ptr bs 0, .int .i64 leb] K (T.A bs bd g :: F) (.bool (decide (T.sem.ready leb = 0) && decide (0 ≤ T.sem.at' leb))) := by
  have hin : T.sem.ready leb = 0 → 0 ≤ leb ∧ leb < T.stands.length := fun h => by
    unfold St.ready Stw.sem at h
    dsimp only at h
    split at h
    · cases h
    · split at h
      · cases h
      · omega
  refine Does.enter Tryz.func35 rfl Tryz.ntmps35 rfl ?_
  simp only [env0, Nat.reduceAdd]
  refine WC.sr ?_
  refine WL.sg rfl rfl ?_
  refine WL.nil ?_
  refine WC.sr ?_
  refine WL.mv rfl rfl ?_
  refine WL.mv rfl rfl ?_
  refine WL.call (vs := [_, _]) Tryz.call88 ⟨OV.p rfl, OV.p rfl, trivial⟩ (store_ready leb) rfl ?_
  rintro _ H0 ⟨rfl, h0⟩
  subst H0
  refine WL.val (V.eql (OV.p rfl) (OV.p rfl)) rfl ?_
  refine WL.mv rfl rfl ?_
  refine WL.valG (oj := _) rfl rfl rfl GC.t (V.move (OV.p rfl)) rfl ?_
  refine WL.valG (oj := _) rfl rfl rfl GC.t (V.nilCheck (OV.g rfl id)) rfl ?_
  refine WL.valG (oj := _) rfl rfl rfl GC.t (V.fieldAddr fo126_2 (OV.g rfl id)) rfl ?_
  refine WL.valG (oj := _) rfl rfl rfl GC.t (V.load Tryz.isAgg42 (OV.g rfl id) (fun _ => Stw.rds 6 _ rfl)) rfl ?_
  refine WL.valG (oj := _) rfl rfl rfl GC.t (V.move (OV.p rfl)) rfl ?_
  refine WL.valG (oj := _) rfl rfl rfl GC.t (V.idxS st42 (OV.g rfl id) (OV.g rfl id) (fun hc => hin (by simpa using hc)) (fun hc => Stw.rdS (hin (by simpa using hc)))) rfl ?_
  refine WL.valG (oj := _) rfl rfl rfl GC.t (V.load Tryz.isAgg3 (OV.g rfl id) (fun hc => Stw.rdS (hin (by simpa using hc)))) rfl ?_
  refine WL.valG (oj := _) rfl rfl rfl GC.t (V.geq (OV.g rfl id) (OV.p rfl)) rfl ?_
  refine WL.val (V.pickAnd (OV.p rfl) (OV.g rfl id)) rfl ?_
  refine WL.sg rfl rfl ?_
  refine WL.nil ?_
  refine WC.ret ?_
  exact BodyQ.ret (H' := T.A bs bd g :: F) (Res.tmp rfl rfl) (fun w h => h) ⟨rfl, rfl⟩
theorem store_full (hC : C.Ok) (hg : C.g = g) : Tells Tryz.prog 99 #[ptr bs 0] K (C.A bc :: DvA bd bc g :: T.A bs bd g :: F) (.int .i64 (if C.sem.scanE = 70 then 70 else 6)) := by
  refine Does.enter Tryz.func99 rfl Tryz.ntmps99 rfl ?_
  simp only [env0, Nat.reduceAdd]
  refine WC.sr ?_
  refine WL.sg rfl rfl ?_
  refine WL.nil ?_
  refine WC.seq ?_
  refine WC.sr ?_
  refine WL.mv rfl rfl ?_
  refine WL.nc rfl rfl ?_
  refine WL.val (V.fieldAddr fo126_0 (OV.p rfl)) rfl ?_
  refine WL.val (V.load Tryz.isAgg31 (OV.p rfl) (fun _ => Rd.up (Rd.up (Stw.rds 0 _ rfl)))) rfl ?_
  refine WL.call (vs := [_, _, _]) Tryz.call27 ⟨OV.p rfl, OV.p rfl, OV.p rfl, trivial⟩ (drive_WholeG hC hg 0 0 (by decide)) rfl ?_
  rintro _ H0 ⟨rfl, h0⟩
  subst H0
  refine WL.mv rfl rfl ?_
  refine WL.xt rfl rfl rfl ?_
  refine WL.xt rfl rfl rfl ?_
  refine WL.sg rfl rfl ?_
  refine WL.sg rfl rfl ?_
  refine WL.nil ?_
  refine WC.sr ?_
  refine WL.mv rfl rfl ?_
  refine WL.val (V.eql (OV.p rfl) (OV.p rfl)) rfl ?_
  refine WL.nil ?_
  refine WC.cond rfl (fun hc0 => ?_) (fun hc0 => ?_)
  ·simp only [decide_eq_true_eq, decide_eq_false_iff_not] at hc0
   have h0 := hc0
   refine WC.sr ?_
   refine WL.mv rfl rfl ?_
   refine WL.sg rfl rfl ?_
   refine WL.nil ?_
   refine WC.ret ?_
   exact BodyQ.ret (H' := C.A bc :: DvA bd bc g :: T.A bs bd g :: F) (Res.tmp rfl rfl) (fun w h => h) ⟨by rw [if_pos (show C.sem.scanE = 70 from h0)]; exact congrArg _ h0, rfl⟩
  ·simp only [decide_eq_true_eq, decide_eq_false_iff_not] at hc0
   have h0 := hc0
   refine WC.skip ?_
   refine WC.sr ?_
   refine WL.sg rfl rfl ?_
   refine WL.nil ?_
   refine WC.ret ?_
   exact BodyQ.ret (H' := C.A bc :: DvA bd bc g :: T.A bs bd g :: F) (Res.tmp rfl rfl) (fun w h => h) ⟨by rw [if_neg (show ¬ C.sem.scanE = 70 from h0)], rfl⟩
end
end Go.Proofs.YtohkefolnmcjnaaGreat
