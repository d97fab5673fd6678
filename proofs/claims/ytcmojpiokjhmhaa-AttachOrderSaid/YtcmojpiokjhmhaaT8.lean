/- attach: Stale. -/
import Derived.Test.YtcmojpiokjhmhaaT7
namespace Go.Proofs.Ytcmojpiokjhmhaa
open Go.Sl Go.RowKit
set_option linter.unusedVariables false
set_option linter.unusedSimpArgs false
set_option maxRecDepth 20000

theorem slA_init {K : World} {F : List Assn} {A : Option Addr} {m cap : Nat} {l : List Fd} (hm : l.length = m) (h0 : 0 < m) : ∀ w, Sat K w (SlA (.slice A m cap) 26 5 m (flatF l) :: F) → Sat K w (SlA (.slice A (m - 1) cap) 26 5 (m - 1) (flatF l.dropLast) :: F) := fun w h => by
  cases A with
  | none => have := (SlA.nilCs h).1; omega
  | some a =>
    obtain ⟨g, rfl⟩ := SlA.addr h
    obtain ⟨r, ⟨h1, h2, h3, h4⟩, h5⟩ := Sat.slCells h
    have h6 := Sat.toSl (m := m - 1) (cap := cap) (s := 5) h5 h1 (by omega) h4
    have hne : l ≠ [] := fun e => by rw [e] at hm; simp at hm; omega
    have e1 : flatF l = flatF l.dropLast ++ (l.getLast hne).cells := by
      conv => lhs; rw [← List.dropLast_concat_getLast hne]
      exact flatF_snoc _ _
    have e2 : (flatF l ++ r).take ((m - 1) * 5) = flatF l.dropLast := by
      rw [e1, List.append_assoc, List.take_left']
      rw [flatF_length, List.length_dropLast, hm]
    rw [e2] at h6
    exact h6
theorem IRow.set_v (irs : List IRow) (j : Nat) (x : IRow) : (irs.set j x).map IRow.v = (irs.map IRow.v).set j x.v := List.map_set
section
variable {K : World} {F : List Assn}
theorem attach_Stale {lebs n cap : Nat} {A : Option Addr} {fs : List Fd} (hl : 1 ≤ lebs ∧ lebs ≤ 64) (hs : Seq K F A n 5 (flatF fs)) (hn : fs.length = n) (h20 : n < 20) :
    Does Try.prog 12 #[.int .i64 (lebs : Int), .slice A n cap] K F
      (fun v H' => ∃ b8 : Nat, ∃ irs : List IRow, irs.length = lebs ∧ irs.map IRow.l = staleF lebs fs ∧ v = .tuple #[.slice (some ⟨b8, 0, none⟩) lebs lebs, .int .i64 0] ∧ H' = Cells b8 27 (irs.map IRow.v) :: AllA (irs.map IRow.row) :: F) := by
  obtain ⟨st, hst⟩ : ∃ st, st = staleF lebs fs := ⟨_, rfl⟩
  have hstl : st.length = lebs := by rw [hst]; exact staleF_length _ _
  rw [← hst]
  refine Does.enter Try.func12 rfl Try.ntmps12 rfl ?_
  simp only [env0, Nat.reduceAdd]
  refine WC.sr ?_
  refine WL.sg rfl rfl ?_
  refine WL.sg rfl rfl ?_
  refine WL.nil ?_
  refine WC.sr ?_
  refine WL.mv rfl rfl ?_
  refine WL.mv rfl rfl ?_
  refine WL.call (vs := [_, _, _]) Try.call7 ⟨OV.p rfl, OV.p rfl, OV.p rfl, trivial⟩ (attach_whole byNumber_is hl hs hn h20) rfl ?_
  rintro _ _ ⟨bo, rs, hrl, hrs, rfl, rfl⟩
  have hpr : ∀ j r, rs[j]? = some r → st.getD j [] = (isort (ltOf cmpS) r.l.dropLast).map Fd.block ∧ j < lebs ∧ r.l.length ≤ 19 := fun j r hj => by
    have h1 : (rs.map FRow.l)[j]? = some r.l := by rw [List.getElem?_map, hj]; rfl
    have hjl : j < lebs := by rw [← hrl]; exact (List.getElem?_eq_some_iff.1 hj).1
    rw [hrs] at h1
    simp only [List.getElem?_map, rowsF, List.getElem?_range hjl, Option.map_some] at h1
    injection h1 with h1
    refine ⟨?_, hjl, ?_⟩
    · rw [hst]
      unfold staleF
      simp only [List.getD, List.getElem?_map, rowsF, List.getElem?_range hjl, Option.map_some, Option.getD_some]
      rw [h1]
    · rw [← h1, isort_length]
      exact Nat.le_trans (List.length_filter_le _ _) (by omega)
  refine WL.mv rfl rfl ?_
  refine WL.xt rfl rfl rfl ?_
  refine WL.xt rfl rfl rfl ?_
  refine WL.sg rfl rfl ?_
  refine WL.sg rfl rfl ?_
  refine WL.nil ?_
  refine WC.seq ?_
  refine WC.sr ?_
  refine WL.mv rfl rfl ?_
  refine WL.val (V.neq (OV.p rfl) (OV.p rfl)) rfl ?_
  refine WL.nil ?_
  refine WC.condF' rfl (by first | rfl | (simp; done) | (simp; omega)) ?_
  refine WC.skip ?_
  refine WC.sr ?_
  refine WL.mv rfl rfl ?_
  refine WL.make1 (m := lebs) Try.underlying40 el27 (OV.p rfl) (OV.p rfl) rfl rfl (by omega) rfl rfl rfl (fun b8 => ?_)
  refine WL.sg rfl rfl ?_
  refine WL.nil ?_
  refine WC.seq ?_
  refine WC.sr ?_
  refine WL.mv rfl rfl ?_
  refine WL.val (V.len (t := 34) Try.runUnderlying34 (OV.p rfl)) rfl ?_
  refine WL.mv rfl rfl ?_
  refine WL.nil ?_
  refine WC.block ?_
  refine WC.loop (σ := Nat × List IRow) (fun s => [(8, .slice (some ⟨b8, 0, none⟩) lebs lebs), (24, .slice (some ⟨bo, 0, none⟩) lebs lebs), (25, .int .i64 (lebs : Int)), (26, .int .i64 (s.1 : Int))]) (fun s => Cells b8 27 (s.2.map IRow.v) :: AllA (s.2.map IRow.row) :: Cells bo 22 (rs.map FRow.v) :: AllA ((rs.drop s.1).map FRow.row) :: F) (fun s => s.1 ≤ lebs ∧ s.2.length = lebs ∧ s.2.map IRow.l = st.take s.1 ++ List.replicate (lebs - s.1) []) (fun s => lebs - s.1) (0, List.replicate lebs ir0) ⟨Nat.zero_le _, List.length_replicate, by
    rw [List.map_replicate]; rfl⟩ (.cons rfl (.cons rfl (.cons rfl (.cons rfl (.nil _))))) (fun w h => by
    dsimp only
    rw [List.map_replicate, List.map_replicate]
    have key : ∀ m, ∀ H, Sat K w H → Sat K w (List.replicate m ir0.row ++ H) := fun m => by
      induction m with
      | zero => intro H h; exact h
      | succ m ih => intro H h; exact Sat.slNil (ih H h) _ _
    have h1 : Sat K w (List.replicate lebs ir0.row ++ (Cells b8 27 (List.replicate lebs ir0.v) :: Cells bo 22 (rs.map FRow.v) :: AllA (rs.map FRow.row) :: F)) := key lebs _ h
    exact (Sat.all h1).p1) ?_
  rintro ⟨j, irs⟩ ⟨hj, hil, his⟩
  dsimp only at hj hil his ⊢
  refine WC.sr ?_
  refine WL.val (V.lss (OV.p rfl) (OV.p rfl)) rfl ?_
  refine WL.nil ?_
  refine WC.seq ?_
  refine WC.cond rfl (fun hc1 => ?_) (fun hc1 => ?_)
  ·simp only [decide_eq_true_eq, decide_eq_false_iff_not] at hc1
   have hjl : j < lebs := by omega
   obtain ⟨r, hr⟩ : ∃ r, r = rs[j]'(by omega) := ⟨_, rfl⟩
   have hrg : rs[j]? = some r := by rw [hr]; exact List.getElem?_eq_getElem (by omega)
   obtain ⟨hpv, _, hrll⟩ := hpr j r hrg
   have hvg : (rs.map FRow.v)[0 + ((j : Nat) : Int).toNat * 1]? = some r.v := by rw [show 0 + ((j : Nat) : Int).toNat * 1 = j by omega, List.getElem?_map, hrg]; rfl
   have hdr : rs.drop j = r :: rs.drop (j + 1) := by rw [hr]; exact List.drop_eq_getElem_cons (by omega)
   have htk : st.take (j + 1) = st.take j ++ [st.getD j []] := by rw [List.take_add_one, List.getElem?_eq_getElem (by omega)]; simp [List.getD, show j < st.length by omega]
   have hrep : List.replicate (lebs - j) ([] : List Int) = [] :: List.replicate (lebs - (j + 1)) [] := by rw [show lebs - j = (lebs - (j + 1)) + 1 by omega, List.replicate_succ]
   have hstk : (st.take j).length = j := by rw [List.length_take]; omega
   refine WC.skip ?_
   refine WC.seq ?_
   refine WC.block ?_
   refine WC.sr ?_
   refine WL.mv rfl rfl ?_
   refine WL.val (V.idxB st34 (OV.p rfl) (OV.p rfl) (fun hc => by omega)) rfl ?_
   refine WL.val (V.load Try.isAgg22 (OV.p rfl) (fun _ => by repeat (first | exact Rd.here hvg | apply Rd.up))) rfl ?_
   refine WL.sg rfl rfl ?_
   refine WL.sg rfl rfl ?_
   refine WL.nil ?_
   refine WC.seq ?_
   refine WC.sr ?_
   refine WL.mv rfl rfl ?_
   refine WL.val (V.len (t := 22) Try.runUnderlying22 (OV.p rfl)) rfl ?_
   refine WL.val (V.eql (OV.p rfl) (OV.p rfl)) rfl ?_
   refine WL.nil ?_
   refine WC.cond rfl (fun hc2 => ?_) (fun hc2 => ?_)
   ·simp only [decide_eq_true_eq, decide_eq_false_iff_not] at hc2
    have h2 := hc2
    have hnil : r.l = [] := List.eq_nil_of_length_eq_zero (by omega)
    have hsj : st.getD j [] = [] := by rw [hpv, hnil]; rfl
    refine WC.exit ?_
    refine WC.region ?_
    refine WL.ad rfl rfl rfl ?_
    refine WL.mv rfl rfl ?_
    refine WL.nil ?_
    refine ⟨rfl, ?_⟩
    first
    | (refine ⟨(j + 1, qrs), ⟨hjl, hql, ?_⟩, (by show lebs - (j + 1) < lebs - j; omega), .cons rfl (.cons rfl (.cons rfl (.cons (look_eq rfl (by simp)) (.nil _)))), fun w h => h.sel 1 [] rfl⟩
       obtain rfl : k = r.l.length - 1 := by omega
       show qrs.map IRow.l = _
       rw [hqs, htk, hsj, List.take_of_length_le (l := ll) (by omega), List.append_assoc]; rfl)
    | (refine ⟨(j + 1, irs), ⟨hjl, hil, ?_⟩, (by show lebs - (j + 1) < lebs - j; omega), .cons rfl (.cons rfl (.cons rfl (.cons (look_eq rfl (by simp)) (.nil _)))), fun w h => ?_⟩
       · show irs.map IRow.l = _
         rw [his, htk, hsj, hrep, List.append_assoc]; rfl
       · rw [hdr, List.map_cons] at h
         have h4 := Sat.takeA (k := 0) (by simp) (h.sel 4 [3, 0, 1, 2] rfl)
         have h5 : Sat K w (r.row :: AllA ((rs.drop (j + 1)).map FRow.row) :: Cells b8 27 (irs.map IRow.v) :: AllA (irs.map IRow.row) :: Cells bo 22 (rs.map FRow.v) :: F) := h4
         exact h5.sel 5 [2, 3, 4, 1] rfl)
   ·simp only [decide_eq_true_eq, decide_eq_false_iff_not] at hc2
    have h2 := hc2
    have hlen0 : 0 < r.l.length := by omega
    obtain ⟨ll, hll⟩ : ∃ ll, ll = isort (ltOf cmpS) r.l.dropLast := ⟨_, rfl⟩
    have hlll : ll.length = r.l.length - 1 := by rw [hll, isort_length, List.length_dropLast]
    have hsj : st.getD j [] = ll.map Fd.block := by rw [hpv, hll]
    refine WC.sub (H' := SlA (.slice r.A (r.l.length - 1) r.c) 26 5 (r.l.length - 1) (flatF r.l.dropLast) :: Cells b8 27 (irs.map IRow.v) :: AllA (irs.map IRow.row) :: Cells bo 22 (rs.map FRow.v) :: AllA ((rs.drop (j + 1)).map FRow.row) :: F) (Sub.refl _) (fun w h => by
      rw [hdr, List.map_cons] at h
      have h4 := Sat.takeA (k := 0) (by simp) (h.sel 4 [3, 0, 1, 2] rfl)
      have h5 : Sat K w (r.row :: AllA ((rs.drop (j + 1)).map FRow.row) :: Cells b8 27 (irs.map IRow.v) :: AllA (irs.map IRow.row) :: Cells bo 22 (rs.map FRow.v) :: F) := h4
      exact (slA_init (l := r.l) rfl hlen0 w h5).sel 5 [0, 2, 3, 4, 1] rfl) ?_
    refine WC.skip ?_
    refine WC.seq ?_
    refine WC.have_ (p := r.l.length - 1 ≤ r.c) (fun w h => by
      obtain ⟨_, cap', hv, hle, _⟩ := SlA.shape h.head
      injection hv with _ _ e3
      rw [e3]; exact hle) (fun hrc => ?_)
    refine WC.region ?_
    refine WL.mv rfl rfl ?_
    refine WL.mv rfl rfl ?_
    refine WL.val (V.len (t := 22) Try.runUnderlying22 (OV.p rfl)) rfl ?_
    refine WL.sb rfl rfl rfl ?_
    refine WL.val (V.val_eq (v' := .slice r.A (r.l.length - 1) r.c) (V.slice (l := 0) (h := r.l.length - 1) (u := r.c) st22 (OV.p rfl) OO.none (OO.some (OV.p rfl) (fun _ => by omega)) OO.none (by simp) (Nat.zero_le _) hrc (Nat.le_refl _)) (fun _ => by rw [Nat.sub_zero, Nat.sub_zero, sub0])) rfl ?_
    refine WL.sg rfl rfl ?_
    refine WL.nil ?_
    refine WC.sr ?_
    refine WL.mv rfl rfl ?_
    refine WL.call (vs := [_, _]) Try.call14 ⟨OV.p rfl, OV.p rfl, trivial⟩ (sort_found stale1_is (by rw [List.length_dropLast]) (by omega)) rfl ?_
    rintro v0 H0 h0
    refine WL.sub (H' := SlA (.slice r.A (r.l.length - 1) r.c) 26 5 (r.l.length - 1) (flatF ll) :: Cells b8 27 (irs.map IRow.v) :: AllA (irs.map IRow.row) :: Cells bo 22 (rs.map FRow.v) :: AllA ((rs.drop (j + 1)).map FRow.row) :: F) (Sub.refl _) (fun w h => by rw [hll]; exact h0 w h) ?_
    refine WL.nil ?_
    refine WC.seq ?_
    have hnj : (irs.map IRow.l)[j]? = some [] := by rw [his, List.getElem?_append_right (by omega), hstk, Nat.sub_self, hrep]; rfl
    have hll2 : ∀ {X : List Assn} (k : Nat) (x : Fd), ll[k]? = some x → ∀ i v, x.cells[i]? = some v → Rd K (SlA (.slice r.A (r.l.length - 1) r.c) 26 5 (r.l.length - 1) (flatF ll) :: X) (r.A.map (·.add (k * 5 + i))) v := fun {X} k x hk i v hi => by
      have h9 : Seq K (SlA (.slice r.A (r.l.length - 1) r.c) 26 5 (r.l.length - 1) (flatF ll) :: X) r.A (r.l.length - 1) 5 (flatF ll) := SlA.seq (by rw [flatF_length, hlll])
      exact found_rd h9 hk hi
    refine WC.region ?_
    refine WL.mv rfl rfl ?_
    refine WL.val (V.len (t := 22) Try.runUnderlying22 (OV.p rfl)) rfl ?_
    refine WL.mv rfl rfl ?_
    refine WL.nil ?_
    refine WC.block ?_
    refine WC.loop (σ := Nat × List IRow) (fun s => [(8, .slice (some ⟨b8, 0, none⟩) lebs lebs), (9, .int .i64 (j : Int)), (24, .slice (some ⟨bo, 0, none⟩) lebs lebs), (25, .int .i64 (lebs : Int)), (26, .int .i64 (j : Int)), (41, .slice r.A (r.l.length - 1) r.c), (42, .int .i64 ((r.l.length - 1 : Nat) : Int)), (43, .int .i64 (s.1 : Int))]) (fun s => SlA (.slice r.A (r.l.length - 1) r.c) 26 5 (r.l.length - 1) (flatF ll) :: Cells b8 27 (s.2.map IRow.v) :: AllA (s.2.map IRow.row) :: Cells bo 22 (rs.map FRow.v) :: AllA ((rs.drop (j + 1)).map FRow.row) :: F) (fun s => s.1 ≤ r.l.length - 1 ∧ s.2.length = lebs ∧ s.2.map IRow.l = st.take j ++ ((ll.take s.1).map Fd.block :: List.replicate (lebs - (j + 1)) [])) (fun s => r.l.length - 1 - s.1) (0, irs) ⟨Nat.zero_le _, hil, by rw [his, hrep]; rfl⟩ (.cons rfl (.cons rfl (.cons rfl (.cons rfl (.cons rfl (.cons rfl (.cons rfl (.cons rfl (.nil _))))))))) (fun w h => h) ?_
    rintro ⟨k, qrs⟩ ⟨hk, hql, hqs⟩
    dsimp only at hk hql hqs ⊢
    refine WC.sr ?_
    refine WL.val (V.lss (OV.p rfl) (OV.p rfl)) rfl ?_
    refine WL.nil ?_
    refine WC.seq ?_
    refine WC.cond rfl (fun hc3 => ?_) (fun hc3 => ?_)
    ·simp only [decide_eq_true_eq, decide_eq_false_iff_not] at hc3
     have hkl : k < r.l.length - 1 := by omega
     obtain ⟨x, hx⟩ : ∃ x, ll[k]? = some x := ⟨_, List.getElem?_eq_getElem (by omega)⟩
     have hxr := fun {X : List Assn} i v hi => hll2 (X := X) k x hx i v hi
     have hti : (k : Int).toNat = k := by omega
     have hlk : ll.take (k + 1) = ll.take k ++ [x] := by rw [List.take_add_one, hx]; rfl
     obtain ⟨q, hq⟩ : ∃ q, q = qrs[j]'(by omega) := ⟨_, rfl⟩
     have hqg : qrs[j]? = some q := by rw [hq]; exact List.getElem?_eq_getElem (by omega)
     have hql2 : q.l = (ll.take k).map Fd.block := by
       have h3 : (qrs.map IRow.l)[j]? = some q.l := by rw [List.getElem?_map, hqg]; rfl
       rw [hqs, List.getElem?_append_right (by omega), hstk, Nat.sub_self] at h3
       injection h3 with h3
       exact h3.symm
     have hqb : q.l.length ≤ 20 := by rw [hql2, List.length_map, List.length_take]; omega
     have hqrow : (qrs.map IRow.row)[j]'(by rw [List.length_map]; omega) = q.row := by rw [List.getElem_map, hq]
     have hqv : (qrs.map IRow.v)[0 + (j : Int).toNat * 1]? = some q.v := by rw [show 0 + ((j : Nat) : Int).toNat * 1 = j by omega, List.getElem?_map, hqg]; rfl
     refine WC.skip ?_
     refine WC.seq ?_
     refine WC.block ?_
     refine WC.sr ?_
     refine WL.val (V.val_eq (v' := sp r.A (k * 5)) (V.idxS st22 (OV.p rfl) (OV.p rfl) (fun hc => by omega) (fun hc => by rw [hti]; repeat (first | exact hxr 0 _ rfl | apply Rd.up))) (fun _ => by rw [hti])) rfl ?_
     refine WL.val (V.loadS (vs := x.cells) ⟨Try.isAgg26, Try.sizeOf26⟩ (OV.p rfl) rfl (by decide) (fun _ i v hi => by repeat (first | exact hxr i v hi | apply Rd.up))) rfl ?_
     refine WL.alloc (cs := [(.int .i64 0), (.int .i64 0), (.int .i64 0), (.int .i64 0), (.bool false)]) Try.zeroValue26 rfl rfl (fun b12 => ?_)
     refine WL.store (cs := [_, _, _, _, _]) Try.sizeOf26 (OV.p rfl) (OV.p rfl) rfl rfl rfl (by repeat (first | exact Upd.here (cs' := [_, _, _, _, _]) rfl rfl | apply Upd.up)) ?_
     refine WL.nil ?_
     refine WC.sub (H' := SlA (.slice q.A q.l.length q.c) 3 1 q.l.length (ints .i64 q.l) :: Cells b8 27 (qrs.map IRow.v) :: AllA ((qrs.map IRow.row).eraseIdx j) :: Cells b12 26 x.cells :: SlA (.slice r.A (r.l.length - 1) r.c) 26 5 (r.l.length - 1) (flatF ll) :: Cells bo 22 (rs.map FRow.v) :: AllA ((rs.drop (j + 1)).map FRow.row) :: F) (Sub.refl _) (fun w h => by
       have h4 := Sat.takeA (k := j) (by rw [List.length_map]; omega) (h.sel 4 [3, 2, 0, 1] rfl)
       rw [hqrow] at h4
       exact h4.sel 5 [0, 2, 1, 3, 4] rfl) ?_
     refine WC.regionA (AllA ((qrs.map IRow.row).eraseIdx j) :: Cells b12 26 x.cells :: SlA (.slice r.A (r.l.length - 1) r.c) 26 5 (r.l.length - 1) (flatF ll) :: Cells bo 22 (rs.map FRow.v) :: AllA ((rs.drop (j + 1)).map FRow.row) :: F) (by kernel_rfl) ?_
     refine WA.t 0 rfl (V.move (OV.p rfl)) ?_
     refine WA.t 1 rfl (V.move (OV.p rfl)) ?_
     refine WA.t 2 rfl (V.move (OV.p rfl)) ?_
     refine WA.t 3 rfl (V.move (OV.p rfl)) ?_
     refine WA.t 4 rfl (V.idxB st40 (OV.p rfl) (OV.p rfl) (fun hc => by omega)) ?_
     refine WA.t 6 rfl (V.fieldAddr fo26_0 (OV.p rfl)) ?_
     refine WA.t 7 rfl (V.load Try.isAgg3 (OV.p rfl) (fun _ => by repeat (first | exact Rd.here rfl | apply Rd.up))) ?_
     refine WA.two (i := 5) (j := 8) (fun w h => by repeat (first | exact h | replace h := h.tail)) (by kernel_rfl) rfl rfl ?_ ?_
     ·refine WL.val (V.load Try.isAgg27 (OV.p rfl) (fun _ => by repeat (first | exact Rd.here hqv | apply Rd.up))) rfl ?_
      refine WL.nil ?_
      refine WA.o 8 rfl ?_
      refine WL.buildSlice (E := 3) (cs := [_]) (vs := [(0, _)]) ⟨OV.p rfl, trivial⟩ rfl (bsl27_1_0 _) rfl (fun b55 => ?_)
      refine WL.nil ?_
      refine WA.o 9 rfl ?_
      refine WL.sub (Sub.refl _) (fun w h => h.p1) ?_
      refine WL.append (m := q.l.length) (q := 1) (news := [.int .i64 x.block]) Try.underlying27 el3 (OV.p rfl) (OV.p rfl) (Seq.all rfl) (by intro u hu; rw [List.mem_singleton.1 hu]; rfl) (by omega) rfl rfl (fun A5 c5 hA5 hc5 => ?_)
      refine WL.nil ?_
      refine WA.t 10 rfl (V.idxB st40 (OV.p rfl) (OV.p rfl) (fun hc => by omega)) ?_
      refine WA.o 11 rfl ?_
      refine WL.store (cs := [_]) Try.sizeOf27 (OV.p rfl) (OV.p rfl) rfl rfl rfl (Upd.up (Upd.up (Upd.at_ (by rw [List.length_map]; omega)))) ?_
      refine WL.nil ?_
      refine WA.fin ?_
      refine WC.region ?_
      refine WL.ad rfl rfl rfl ?_
      refine WL.mv rfl rfl ?_
      refine WL.nil ?_
      refine ⟨rfl, ?_⟩
      refine ⟨(k + 1, qrs.set j ⟨A5, c5, q.l ++ [x.block]⟩), ⟨hkl, by show (qrs.set _ _).length = lebs; rw [List.length_set]; exact hql, ?_⟩, (by show r.l.length - 1 - (k + 1) < r.l.length - 1 - k; omega), .cons rfl (.cons rfl (.cons rfl (.cons rfl (.cons rfl (.cons rfl (.cons rfl (.cons (look_eq rfl (by simp)) (.nil _)))))))), fun w h => ?_⟩
      · show (qrs.set j _).map IRow.l = _
        rw [List.map_set, hqs, List.set_append_right _ _ (by omega), hstk, Nat.sub_self, List.set_cons_zero, hlk, List.map_append, ← hql2]; rfl
      · have h5 := h.sel 5 [0, 3, 2, 4] rfl
        have e1 : SlA (.slice A5 (q.l.length + 1) c5) 3 1 (q.l.length + 1) (ints .i64 q.l ++ [.int .i64 x.block]) = IRow.row ⟨A5, c5, q.l ++ [x.block]⟩ := by
          unfold IRow.row
          rw [ints_append, List.length_append]; rfl
        rw [e1] at h5
        have h6 := Sat.putA (l := qrs.map IRow.row) (k := j) (by rw [List.length_map]; omega) h5
        have e2 : (qrs.map IRow.v).set (0 + (j : Int).toNat * 1) (.slice A5 (q.l.length + 1) c5) = (qrs.set j ⟨A5, c5, q.l ++ [x.block]⟩).map IRow.v := by
          rw [show 0 + ((j : Nat) : Int).toNat * 1 = j by omega, List.map_set]
          show _ = (qrs.map IRow.v).set j (.slice A5 (q.l ++ [x.block]).length c5)
          rw [List.length_append]; rfl
        rw [e2, ← List.map_set] at h6
        exact h6.sel 4 [3, 1, 0] rfl
     ·refine WL.buildSlice (E := 3) (cs := [_]) (vs := [(0, _)]) ⟨OV.p rfl, trivial⟩ rfl (bsl27_1_0 _) rfl (fun b55 => ?_)
      refine WL.nil ?_
      refine WA.o 5 rfl ?_
      refine WL.val (V.load Try.isAgg27 (OV.p rfl) (fun _ => by repeat (first | exact Rd.here hqv | apply Rd.up))) rfl ?_
      refine WL.nil ?_
      refine WA.o 9 rfl ?_
      refine WL.sub (Sub.refl _) (fun w h => h.p1) ?_
      refine WL.append (m := q.l.length) (q := 1) (news := [.int .i64 x.block]) Try.underlying27 el3 (OV.p rfl) (OV.p rfl) (Seq.all rfl) (by intro u hu; rw [List.mem_singleton.1 hu]; rfl) (by omega) rfl rfl (fun A5 c5 hA5 hc5 => ?_)
      refine WL.nil ?_
      refine WA.t 10 rfl (V.idxB st40 (OV.p rfl) (OV.p rfl) (fun hc => by omega)) ?_
      refine WA.o 11 rfl ?_
      refine WL.store (cs := [_]) Try.sizeOf27 (OV.p rfl) (OV.p rfl) rfl rfl rfl (Upd.up (Upd.up (Upd.at_ (by rw [List.length_map]; omega)))) ?_
      refine WL.nil ?_
      refine WA.fin ?_
      refine WC.region ?_
      refine WL.ad rfl rfl rfl ?_
      refine WL.mv rfl rfl ?_
      refine WL.nil ?_
      refine ⟨rfl, ?_⟩
      refine ⟨(k + 1, qrs.set j ⟨A5, c5, q.l ++ [x.block]⟩), ⟨hkl, by show (qrs.set _ _).length = lebs; rw [List.length_set]; exact hql, ?_⟩, (by show r.l.length - 1 - (k + 1) < r.l.length - 1 - k; omega), .cons rfl (.cons rfl (.cons rfl (.cons rfl (.cons rfl (.cons rfl (.cons rfl (.cons (look_eq rfl (by simp)) (.nil _)))))))), fun w h => ?_⟩
      · show (qrs.set j _).map IRow.l = _
        rw [List.map_set, hqs, List.set_append_right _ _ (by omega), hstk, Nat.sub_self, List.set_cons_zero, hlk, List.map_append, ← hql2]; rfl
      · have h5 := h.sel 5 [0, 3, 2, 4] rfl
        have e1 : SlA (.slice A5 (q.l.length + 1) c5) 3 1 (q.l.length + 1) (ints .i64 q.l ++ [.int .i64 x.block]) = IRow.row ⟨A5, c5, q.l ++ [x.block]⟩ := by
          unfold IRow.row
          rw [ints_append, List.length_append]; rfl
        rw [e1] at h5
        have h6 := Sat.putA (l := qrs.map IRow.row) (k := j) (by rw [List.length_map]; omega) h5
        have e2 : (qrs.map IRow.v).set (0 + (j : Int).toNat * 1) (.slice A5 (q.l.length + 1) c5) = (qrs.set j ⟨A5, c5, q.l ++ [x.block]⟩).map IRow.v := by
          rw [show 0 + ((j : Nat) : Int).toNat * 1 = j by omega, List.map_set]
          show _ = (qrs.map IRow.v).set j (.slice A5 (q.l ++ [x.block]).length c5)
          rw [List.length_append]; rfl
        rw [e2, ← List.map_set] at h6
        exact h6.sel 4 [3, 1, 0] rfl
    ·simp only [decide_eq_true_eq, decide_eq_false_iff_not] at hc3
     refine WC.exit ?_
     refine WC.region ?_
     refine WL.ad rfl rfl rfl ?_
     refine WL.mv rfl rfl ?_
     refine WL.nil ?_
     refine ⟨rfl, ?_⟩
     first
     | (refine ⟨(j + 1, qrs), ⟨hjl, hql, ?_⟩, (by show lebs - (j + 1) < lebs - j; omega), .cons rfl (.cons rfl (.cons rfl (.cons (look_eq rfl (by simp)) (.nil _)))), fun w h => h.sel 1 [] rfl⟩
        obtain rfl : k = r.l.length - 1 := by omega
        show qrs.map IRow.l = _
        rw [hqs, htk, hsj, List.take_of_length_le (l := ll) (by omega), List.append_assoc]; rfl)
     | (refine ⟨(j + 1, irs), ⟨hjl, hil, ?_⟩, (by show lebs - (j + 1) < lebs - j; omega), .cons rfl (.cons rfl (.cons rfl (.cons (look_eq rfl (by simp)) (.nil _)))), fun w h => ?_⟩
        · show irs.map IRow.l = _
          rw [his, htk, hsj, hrep, List.append_assoc]; rfl
        · rw [hdr, List.map_cons] at h
          have h4 := Sat.takeA (k := 0) (by simp) (h.sel 4 [3, 0, 1, 2] rfl)
          have h5 : Sat K w (r.row :: AllA ((rs.drop (j + 1)).map FRow.row) :: Cells b8 27 (irs.map IRow.v) :: AllA (irs.map IRow.row) :: Cells bo 22 (rs.map FRow.v) :: F) := h4
          exact h5.sel 5 [2, 3, 4, 1] rfl)
  ·simp only [decide_eq_true_eq, decide_eq_false_iff_not] at hc1
   refine WC.exit ?_
   refine WC.sr ?_
   refine WL.mv rfl rfl ?_
   refine WL.sg rfl rfl ?_
   refine WL.sg rfl rfl ?_
   refine WL.nil ?_
   refine WC.ret ?_
   obtain rfl : j = lebs := by omega
   refine BodyQ.ret (H' := Cells b8 27 (irs.map IRow.v) :: AllA (irs.map IRow.row) :: F) (Res.tmp2 rfl rfl rfl) (fun w h => h.sel 4 [0, 1] rfl) ⟨b8, irs, hil, ?_, rfl, rfl⟩
   rw [his, List.take_of_length_le (by omega), Nat.sub_self, List.replicate_zero, List.append_nil]
end
end Go.Proofs.Ytcmojpiokjhmhaa
