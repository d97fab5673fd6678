import Derived.Test.YtcedojacbhnbiaaGreatP22
namespace Go.Proofs.YtcedojacbhnbiaaGreat
open Go.Sl Go.RowKit
set_option linter.unusedVariables false
set_option linter.unusedSimpArgs false
set_option maxRecDepth 20000
theorem JN {K : World} {F : List au} {A : Option Addr} {m cap : Nat} {l : List Fd} (hm : l.length = m) (h0 : 0 < m) : ∀ w, Sat K w (bC (.slice A m cap) 237 5 m (bJ l) :: F) → Sat K w (bC (.slice A (m - 1) cap) 237 5 (m - 1) (bJ l.dropLast) :: F) := fun w h => by
  cases A with
  | none => have := (bC.vQ h).1; omega
  | some a =>
    obtain ⟨g, rfl⟩ := bC.addr h
    obtain ⟨r, ⟨h1, h2, h3, h4⟩, h5⟩ := Sat.lg h
    have h6 := Sat.Dc (m := m - 1) (cap := cap) (s := 5) h5 h1 (by omega) h4
    have hne : l ≠ [] := fun e => by rw [e] at hm; simp at hm; omega
    have e1 : bJ l = bJ l.dropLast ++ (l.getLast hne).cells := by
      conv => lhs; rw [← List.dropLast_concat_getLast hne]
      exact iJ _ _
    have e2 : (bJ l ++ r).take ((m - 1) * 5) = bJ l.dropLast := by
      rw [e1, List.append_assoc, List.take_left']
      rw [dQ, List.length_dropLast, hm]
    rw [e2] at h6
    exact h6
section
variable {K : World} {F : List au}
theorem Cz {av n cap : Nat} {A : Option Addr} {fs : List Fd} (hl : 1 ≤ av ∧ av ≤ 64) (hs : Seq K F A n 5 (bJ fs)) (hn : fs.length = n) (h20 : n < 20) :
    Does Tryz.prog 102 #[.int .i64 (av : Int), .slice A n cap] K F
      (fun v H' => ∃ b8 : Nat, ∃ dD : List bg, dD.length = av ∧ dD.map bg.l = kF av fs ∧ v = .tuple #[.slice (some ⟨b8, 0, none⟩) av av, .int .i64 0] ∧ H' = Cells b8 124 (dD.map bg.v) :: bH (dD.map bg.row) :: F) := by
  obtain ⟨st, hst⟩ : ∃ st, st = kF av fs := ⟨_, rfl⟩
  have RQ : st.length = av := by rw [hst]; exact lV _ _
  rw [← hst]
  refine Does.enter Tryz.func102 rfl Tryz.ntmps102 rfl ?_
  simp only [aJ, Nat.reduceAdd]
  refine WC.sr (WL.sg rfl rfl (WL.sg rfl rfl (WL.nil (WC.sr (WL.mv rfl rfl (WL.mv rfl rfl (WL.call (vs := [_, _, _]) Tryz.call163 ⟨OV.p rfl, OV.p rfl, OV.p rfl, trivial⟩ (Cy pO hl hs hn h20) rfl ?_)))))))
  rintro _ _ ⟨bo, rs, hrl, hrs, rfl, rfl⟩
  have hpr : ∀ j r, rs[j]? = some r → st.getD j [] = (bX (ltOf KJ) r.l.dropLast).map Fd.block ∧ j < av ∧ r.l.length ≤ 19 := fun j r hj => by
    have h1 : (rs.map aY.l)[j]? = some r.l := by rw [List.getElem?_map, hj]; rfl
    have hjl : j < av := by rw [← hrl]; exact (List.getElem?_eq_some_iff.1 hj).1
    rw [hrs] at h1
    simp only [List.getElem?_map, fE, List.getElem?_range hjl, Option.map_some] at h1
    injection h1 with h1
    refine ⟨?_, hjl, ?_⟩
    · rw [hst]
      unfold kF
      simp only [List.getD, List.getElem?_map, fE, List.getElem?_range hjl, Option.map_some, Option.getD_some]
      rw [h1]
    · rw [← h1, eT]
      exact Nat.le_trans (List.length_filter_le _ _) (by omega)
  refine WL.mv rfl rfl (WL.xt rfl rfl rfl (WL.xt rfl rfl rfl (WL.sg rfl rfl (WL.sg rfl rfl (WL.nil (WC.seq (WC.sr (WL.mv rfl rfl (WL.val (V.neq (OV.p rfl) (OV.p rfl)) rfl (WL.nil ?_))))))))))
  refine WC.aM rfl (by first | rfl | (simp; done) | (simp; omega)) ?_
  refine WC.skip (WC.sr (WL.mv rfl rfl ?_))
  refine WL.l7 (m := av) Tryz.underlying125 Oh (OV.p rfl) (OV.p rfl) rfl rfl (by omega) rfl rfl rfl (fun b8 => ?_)
  refine WL.sg rfl rfl (WL.nil (WC.seq (WC.sr (WL.mv rfl rfl (WL.val (V.len (t := 238) Tryz.runUnderlying238 (OV.p rfl)) rfl (WL.mv rfl rfl (WL.nil (WC.block ?_))))))))
  refine WC.loop (σ := Nat × List bg) (fun s => [(8, .slice (some ⟨b8, 0, none⟩) av av), (24, .slice (some ⟨bo, 0, none⟩) av av), (25, .int .i64 (av : Int)), (26, .int .i64 (s.1 : Int))]) (fun s => Cells b8 124 (s.2.map bg.v) :: bH (s.2.map bg.row) :: Cells bo 170 (rs.map aY.v) :: bH ((rs.drop s.1).map aY.row) :: F) (fun s => s.1 ≤ av ∧ s.2.length = av ∧ s.2.map bg.l = st.take s.1 ++ List.replicate (av - s.1) []) (fun s => av - s.1) (0, List.replicate av Pj) ⟨Nat.zero_le _, List.length_replicate, by
    rw [List.map_replicate]; rfl⟩ (.cons rfl (.cons rfl (.cons rfl (.cons rfl (.nil _))))) (fun w h => by
    dsimp only
    rw [List.map_replicate, List.map_replicate]
    have key : ∀ m, ∀ H, Sat K w H → Sat K w (List.replicate m Pj.row ++ H) := fun m => by
      induction m with
      | zero => intro H h; exact h
      | succ m ih => intro H h; exact Sat.iA (ih H h) _ _
    have h1 : Sat K w (List.replicate av Pj.row ++ (Cells b8 124 (List.replicate av Pj.v) :: Cells bo 170 (rs.map aY.v) :: bH (rs.map aY.row) :: F)) := key av _ h
    exact (Sat.all h1).p1) ?_
  rintro ⟨j, dD⟩ ⟨hj, hil, his⟩
  dsimp only at hj hil his ⊢
  refine WC.sr (WL.val (V.lss (OV.p rfl) (OV.p rfl)) rfl (WL.nil (WC.seq ?_)))
  refine WC.cond rfl (fun hc1 => ?_) (fun hc1 => ?_)
  ·simp only [decide_eq_true_eq, decide_eq_false_iff_not] at hc1
   have hjl : j < av := by omega
   obtain ⟨r, hr⟩ : ∃ r, r = rs[j]'(by omega) := ⟨_, rfl⟩
   have hrg : rs[j]? = some r := by rw [hr]; exact List.getElem?_eq_getElem (by omega)
   obtain ⟨hpv, _, PU⟩ := hpr j r hrg
   have Li : (rs.map aY.v)[0 + ((j : Nat) : Int).toNat * 1]? = some r.v := by rw [show 0 + ((j : Nat) : Int).toNat * 1 = j by omega, List.getElem?_map, hrg]; rfl
   have hdr : rs.drop j = r :: rs.drop (j + 1) := by rw [hr]; exact List.drop_eq_getElem_cons (by omega)
   have htk : st.take (j + 1) = st.take j ++ [st.getD j []] := by rw [List.take_add_one, List.getElem?_eq_getElem (by omega)]; simp [List.getD, show j < st.length by omega]
   have hrep : List.replicate (av - j) ([] : List Int) = [] :: List.replicate (av - (j + 1)) [] := by rw [show av - j = (av - (j + 1)) + 1 by omega, List.replicate_succ]
   have Ls : (st.take j).length = j := by rw [List.length_take]; omega
   refine WC.skip (WC.seq (WC.block (WC.sr (WL.mv rfl rfl ?_))))
   refine WL.val (V.bP Bc (OV.p rfl) (OV.p rfl) (fun hc => by omega)) rfl ?_
   refine WL.val (V.load Tryz.isAgg170 (OV.p rfl) (fun _ => by repeat (first | exact Rd.here Li | apply Rd.up))) rfl ?_
   refine WL.sg rfl rfl (WL.sg rfl rfl (WL.nil (WC.seq (WC.sr (WL.mv rfl rfl (WL.val (V.len (t := 170) Tryz.runUnderlying170 (OV.p rfl)) rfl (WL.val (V.eql (OV.p rfl) (OV.p rfl)) rfl (WL.nil ?_))))))))
   refine WC.cond rfl (fun hc2 => ?_) (fun hc2 => ?_)
   ·simp only [decide_eq_true_eq, decide_eq_false_iff_not] at hc2
    have h2 := hc2
    have hnil : r.l = [] := List.eq_nil_of_length_eq_zero (by omega)
    have hsj : st.getD j [] = [] := by rw [hpv, hnil]; rfl
    refine WC.exit (WC.region (WL.ad rfl rfl rfl ?_))
    refine WL.mv rfl rfl (WL.nil ?_)
    refine ⟨rfl, ?_⟩
    first
    | (refine ⟨(j + 1, vR), ⟨hjl, zN, ?_⟩, (by show av - (j + 1) < av - j; omega), .cons rfl (.cons rfl (.cons rfl (.cons (look_eq rfl (by simp)) (.nil _)))), fun w h => h.sel 1 [] rfl⟩
       obtain rfl : k = r.l.length - 1 := by omega
       show vR.map bg.l = _
       rw [Od, htk, hsj, List.take_of_length_le (l := ll) (by omega), List.append_assoc]; rfl)
    | (refine ⟨(j + 1, dD), ⟨hjl, hil, ?_⟩, (by show av - (j + 1) < av - j; omega), .cons rfl (.cons rfl (.cons rfl (.cons (look_eq rfl (by simp)) (.nil _)))), fun w h => ?_⟩
       · show dD.map bg.l = _
         rw [his, htk, hsj, hrep, List.append_assoc]; rfl
       · rw [hdr, List.map_cons] at h
         have h4 := Sat.takeA (k := 0) (by simp) (h.sel 4 [3, 0, 1, 2] rfl)
         have h5 : Sat K w (r.row :: bH ((rs.drop (j + 1)).map aY.row) :: Cells b8 124 (dD.map bg.v) :: bH (dD.map bg.row) :: Cells bo 170 (rs.map aY.v) :: F) := h4
         exact h5.sel 5 [2, 3, 4, 1] rfl)
   ·simp only [decide_eq_true_eq, decide_eq_false_iff_not] at hc2
    have h2 := hc2
    have MP : 0 < r.l.length := by omega
    obtain ⟨ll, hll⟩ : ∃ ll, ll = bX (ltOf KJ) r.l.dropLast := ⟨_, rfl⟩
    have Qi : ll.length = r.l.length - 1 := by rw [hll, eT, List.length_dropLast]
    have hsj : st.getD j [] = ll.map Fd.block := by rw [hpv, hll]
    refine WC.sub (H' := bC (.slice r.A (r.l.length - 1) r.c) 237 5 (r.l.length - 1) (bJ r.l.dropLast) :: Cells b8 124 (dD.map bg.v) :: bH (dD.map bg.row) :: Cells bo 170 (rs.map aY.v) :: bH ((rs.drop (j + 1)).map aY.row) :: F) (Sub.refl _) (fun w h => by
      rw [hdr, List.map_cons] at h
      have h4 := Sat.takeA (k := 0) (by simp) (h.sel 4 [3, 0, 1, 2] rfl)
      have h5 : Sat K w (r.row :: bH ((rs.drop (j + 1)).map aY.row) :: Cells b8 124 (dD.map bg.v) :: bH (dD.map bg.row) :: Cells bo 170 (rs.map aY.v) :: F) := h4
      exact (JN (l := r.l) rfl MP w h5).sel 5 [0, 2, 3, 4, 1] rfl) ?_
    refine WC.skip (WC.seq ?_)
    refine WC.have_ (p := r.l.length - 1 ≤ r.c) (fun w h => by
      obtain ⟨_, cap', hv, hle, _⟩ := bC.shape h.head
      injection hv with _ _ e3
      rw [e3]; exact hle) (fun hrc => ?_)
    refine WC.region (WL.mv rfl rfl (WL.mv rfl rfl (WL.val (V.len (t := 170) Tryz.runUnderlying170 (OV.p rfl)) rfl (WL.sb rfl rfl rfl ?_))))
    refine WL.val (V.aA (v' := .slice r.A (r.l.length - 1) r.c) (V.slice (l := 0) (h := r.l.length - 1) (u := r.c) kH (OV.p rfl) OO.none (OO.some (OV.p rfl) (fun _ => by omega)) OO.none (by simp) (Nat.zero_le _) hrc (Nat.le_refl _)) (fun _ => by rw [Nat.sub_zero, Nat.sub_zero, Ic])) rfl ?_
    refine WL.sg rfl rfl (WL.nil (WC.sr (WL.mv rfl rfl ?_)))
    refine WL.call (vs := [_, _]) Tryz.call168 ⟨OV.p rfl, OV.p rfl, trivial⟩ (rD Jj (by rw [List.length_dropLast]) (by omega)) rfl ?_
    rintro v0 H0 h0
    refine WL.sub (H' := bC (.slice r.A (r.l.length - 1) r.c) 237 5 (r.l.length - 1) (bJ ll) :: Cells b8 124 (dD.map bg.v) :: bH (dD.map bg.row) :: Cells bo 170 (rs.map aY.v) :: bH ((rs.drop (j + 1)).map aY.row) :: F) (Sub.refl _) (fun w h => by rw [hll]; exact h0 w h) ?_
    refine WL.nil (WC.seq ?_)
    have SK : (dD.map bg.l)[j]? = some [] := by rw [his, List.getElem?_append_right (by omega), Ls, Nat.sub_self, hrep]; rfl
    have Qk : ∀ {X : List au} (k : Nat) (x : Fd), ll[k]? = some x → ∀ i v, x.cells[i]? = some v → Rd K (bC (.slice r.A (r.l.length - 1) r.c) 237 5 (r.l.length - 1) (bJ ll) :: X) (r.A.map (·.add (k * 5 + i))) v := fun {X} k x hk i v hi => by
      have h9 : Seq K (bC (.slice r.A (r.l.length - 1) r.c) 237 5 (r.l.length - 1) (bJ ll) :: X) r.A (r.l.length - 1) 5 (bJ ll) := bC.seq (by rw [dQ, Qi])
      exact um h9 hk hi
    refine WC.region (WL.mv rfl rfl (WL.val (V.len (t := 170) Tryz.runUnderlying170 (OV.p rfl)) rfl (WL.mv rfl rfl (WL.nil (WC.block ?_)))))
    refine WC.loop (σ := Nat × List bg) (fun s => [(8, .slice (some ⟨b8, 0, none⟩) av av), (9, .int .i64 (j : Int)), (24, .slice (some ⟨bo, 0, none⟩) av av), (25, .int .i64 (av : Int)), (26, .int .i64 (j : Int)), (41, .slice r.A (r.l.length - 1) r.c), (42, .int .i64 ((r.l.length - 1 : Nat) : Int)), (43, .int .i64 (s.1 : Int))]) (fun s => bC (.slice r.A (r.l.length - 1) r.c) 237 5 (r.l.length - 1) (bJ ll) :: Cells b8 124 (s.2.map bg.v) :: bH (s.2.map bg.row) :: Cells bo 170 (rs.map aY.v) :: bH ((rs.drop (j + 1)).map aY.row) :: F) (fun s => s.1 ≤ r.l.length - 1 ∧ s.2.length = av ∧ s.2.map bg.l = st.take j ++ ((ll.take s.1).map Fd.block :: List.replicate (av - (j + 1)) [])) (fun s => r.l.length - 1 - s.1) (0, dD) ⟨Nat.zero_le _, hil, by rw [his, hrep]; rfl⟩ (.cons rfl (.cons rfl (.cons rfl (.cons rfl (.cons rfl (.cons rfl (.cons rfl (.cons rfl (.nil _))))))))) (fun w h => h) ?_
    rintro ⟨k, vR⟩ ⟨hk, zN, Od⟩
    dsimp only at hk zN Od ⊢
    refine WC.sr (WL.val (V.lss (OV.p rfl) (OV.p rfl)) rfl (WL.nil (WC.seq ?_)))
    refine WC.cond rfl (fun hc3 => ?_) (fun hc3 => ?_)
    ·simp only [decide_eq_true_eq, decide_eq_false_iff_not] at hc3
     have hkl : k < r.l.length - 1 := by omega
     obtain ⟨x, hx⟩ : ∃ x, ll[k]? = some x := ⟨_, List.getElem?_eq_getElem (by omega)⟩
     have QW := fun {X : List au} i v hi => Qk (X := X) k x hx i v hi
     have hti : (k : Int).toNat = k := by omega
     have hlk : ll.take (k + 1) = ll.take k ++ [x] := by rw [List.take_add_one, hx]; rfl
     obtain ⟨q, hq⟩ : ∃ q, q = vR[j]'(by omega) := ⟨_, rfl⟩
     have hqg : vR[j]? = some q := by rw [hq]; exact List.getElem?_eq_getElem (by omega)
     have NQ : q.l = (ll.take k).map Fd.block := by
       have h3 : (vR.map bg.l)[j]? = some q.l := by rw [List.getElem?_map, hqg]; rfl
       rw [Od, List.getElem?_append_right (by omega), Ls, Nat.sub_self] at h3
       injection h3 with h3
       exact h3.symm
     have Rm : q.l.length ≤ 20 := by rw [NQ, List.length_map, List.length_take]; omega
     have JI : (vR.map bg.row)[j]'(by rw [List.length_map]; omega) = q.row := by rw [List.getElem_map, hq]
     have Ox : (vR.map bg.v)[0 + (j : Int).toNat * 1]? = some q.v := by rw [show 0 + ((j : Nat) : Int).toNat * 1 = j by omega, List.getElem?_map, hqg]; rfl
     refine WC.skip (WC.seq (WC.block (WC.sr ?_)))
     refine WL.val (V.aA (v' := sp r.A (k * 5)) (V.fu kH (OV.p rfl) (OV.p rfl) (fun hc => by omega) (fun hc => by rw [hti]; repeat (first | exact QW 0 _ rfl | apply Rd.up))) (fun _ => by rw [hti])) rfl ?_
     refine WL.val (V.EX (vs := x.cells) ⟨Tryz.isAgg237, Tryz.sizeOf237⟩ (OV.p rfl) rfl (by decide) (fun _ i v hi => by repeat (first | exact QW i v hi | apply Rd.up))) rfl ?_
     refine WL.alloc (cs := [(.int .i64 0), (.int .i64 0), (.int .i64 0), (.int .i64 0), (.bool false)]) Tryz.zeroValue237 rfl rfl (fun b12 => ?_)
     refine WL.store (cs := [_, _, _, _, _]) Tryz.sizeOf237 (OV.p rfl) (OV.p rfl) rfl rfl rfl (by repeat (first | exact aQ.here (cs' := [_, _, _, _, _]) rfl rfl | apply aQ.up)) ?_
     refine WL.nil ?_
     refine WC.sub (H' := bC (.slice q.A q.l.length q.c) 3 1 q.l.length (ints .i64 q.l) :: Cells b8 124 (vR.map bg.v) :: bH ((vR.map bg.row).eraseIdx j) :: Cells b12 237 x.cells :: bC (.slice r.A (r.l.length - 1) r.c) 237 5 (r.l.length - 1) (bJ ll) :: Cells bo 170 (rs.map aY.v) :: bH ((rs.drop (j + 1)).map aY.row) :: F) (Sub.refl _) (fun w h => by
       have h4 := Sat.takeA (k := j) (by rw [List.length_map]; omega) (h.sel 4 [3, 2, 0, 1] rfl)
       rw [JI] at h4
       exact h4.sel 5 [0, 2, 1, 3, 4] rfl) ?_
     refine WC.dY (bH ((vR.map bg.row).eraseIdx j) :: Cells b12 237 x.cells :: bC (.slice r.A (r.l.length - 1) r.c) 237 5 (r.l.length - 1) (bJ ll) :: Cells bo 170 (rs.map aY.v) :: bH ((rs.drop (j + 1)).map aY.row) :: F) (by kernel_rfl) ?_
     refine WA.t 0 rfl (V.move (OV.p rfl)) (WA.t 1 rfl (V.move (OV.p rfl)) (WA.t 2 rfl (V.move (OV.p rfl)) (WA.t 3 rfl (V.move (OV.p rfl)) ?_)))
     refine WA.t 4 rfl (V.bP sQ (OV.p rfl) (OV.p rfl) (fun hc => by omega)) ?_
     refine WA.t 6 rfl (V.fieldAddr qD (OV.p rfl)) ?_
     refine WA.t 7 rfl (V.load Tryz.isAgg3 (OV.p rfl) (fun _ => by repeat (first | exact Rd.here rfl | apply Rd.up))) ?_
     refine WA.two (i := 5) (j := 8) (fun w h => by repeat (first | exact h | replace h := h.tail)) (by kernel_rfl) rfl rfl ?_ ?_
     ·refine WL.val (V.load Tryz.isAgg124 (OV.p rfl) (fun _ => by repeat (first | exact Rd.here Ox | apply Rd.up))) rfl ?_
      refine WL.nil (WA.o 8 rfl ?_)
      refine WL.buildSlice (E := 3) (cs := [_]) (vs := [(0, _)]) ⟨OV.p rfl, trivial⟩ rfl (cZ _) rfl (fun R4 => ?_)
      refine WL.nil (WA.o 9 rfl ?_)
      refine WL.sub (Sub.refl _) (fun w h => h.p1) ?_
      refine WL.append (m := q.l.length) (q := 1) (news := [.int .i64 x.block]) Tryz.underlying124 el3 (OV.p rfl) (OV.p rfl) (Seq.all rfl) (by intro u hu; rw [List.mem_singleton.1 hu]; rfl) (by omega) rfl rfl (fun A5 c5 KM pI => ?_)
      refine WL.nil ?_
      refine WA.t 10 rfl (V.bP sQ (OV.p rfl) (OV.p rfl) (fun hc => by omega)) ?_
      refine WA.o 11 rfl ?_
      refine WL.store (cs := [_]) Tryz.sizeOf124 (OV.p rfl) (OV.p rfl) rfl rfl rfl (aQ.up (aQ.up (aQ.at_ (by rw [List.length_map]; omega)))) ?_
      refine WL.nil (WA.fin (WC.region (WL.ad rfl rfl rfl ?_)))
      refine WL.mv rfl rfl (WL.nil ?_)
      refine ⟨rfl, ?_⟩
      refine ⟨(k + 1, vR.set j ⟨A5, c5, q.l ++ [x.block]⟩), ⟨hkl, by show (vR.set _ _).length = av; rw [List.length_set]; exact zN, ?_⟩, (by show r.l.length - 1 - (k + 1) < r.l.length - 1 - k; omega), .cons rfl (.cons rfl (.cons rfl (.cons rfl (.cons rfl (.cons rfl (.cons rfl (.cons (look_eq rfl (by simp)) (.nil _)))))))), fun w h => ?_⟩
      · show (vR.set j _).map bg.l = _
        rw [List.map_set, Od, List.set_append_right _ _ (by omega), Ls, Nat.sub_self, List.set_cons_zero, hlk, List.map_append, ← NQ]; rfl
      · have h5 := h.sel 5 [0, 3, 2, 4] rfl
        have e1 : bC (.slice A5 (q.l.length + 1) c5) 3 1 (q.l.length + 1) (ints .i64 q.l ++ [.int .i64 x.block]) = bg.row ⟨A5, c5, q.l ++ [x.block]⟩ := by
          unfold bg.row
          rw [bY, List.length_append]; rfl
        rw [e1] at h5
        have h6 := Sat.zR (l := vR.map bg.row) (k := j) (by rw [List.length_map]; omega) h5
        have e2 : (vR.map bg.v).set (0 + (j : Int).toNat * 1) (.slice A5 (q.l.length + 1) c5) = (vR.set j ⟨A5, c5, q.l ++ [x.block]⟩).map bg.v := by
          rw [show 0 + ((j : Nat) : Int).toNat * 1 = j by omega, List.map_set]
          show _ = (vR.map bg.v).set j (.slice A5 (q.l ++ [x.block]).length c5)
          rw [List.length_append]; rfl
        rw [e2, ← List.map_set] at h6
        exact h6.sel 4 [3, 1, 0] rfl
     ·refine WL.buildSlice (E := 3) (cs := [_]) (vs := [(0, _)]) ⟨OV.p rfl, trivial⟩ rfl (cZ _) rfl (fun R4 => ?_)
      refine WL.nil (WA.o 5 rfl ?_)
      refine WL.val (V.load Tryz.isAgg124 (OV.p rfl) (fun _ => by repeat (first | exact Rd.here Ox | apply Rd.up))) rfl ?_
      refine WL.nil (WA.o 9 rfl ?_)
      refine WL.sub (Sub.refl _) (fun w h => h.p1) ?_
      refine WL.append (m := q.l.length) (q := 1) (news := [.int .i64 x.block]) Tryz.underlying124 el3 (OV.p rfl) (OV.p rfl) (Seq.all rfl) (by intro u hu; rw [List.mem_singleton.1 hu]; rfl) (by omega) rfl rfl (fun A5 c5 KM pI => ?_)
      refine WL.nil ?_
      refine WA.t 10 rfl (V.bP sQ (OV.p rfl) (OV.p rfl) (fun hc => by omega)) ?_
      refine WA.o 11 rfl ?_
      refine WL.store (cs := [_]) Tryz.sizeOf124 (OV.p rfl) (OV.p rfl) rfl rfl rfl (aQ.up (aQ.up (aQ.at_ (by rw [List.length_map]; omega)))) ?_
      refine WL.nil (WA.fin (WC.region (WL.ad rfl rfl rfl ?_)))
      refine WL.mv rfl rfl (WL.nil ?_)
      refine ⟨rfl, ?_⟩
      refine ⟨(k + 1, vR.set j ⟨A5, c5, q.l ++ [x.block]⟩), ⟨hkl, by show (vR.set _ _).length = av; rw [List.length_set]; exact zN, ?_⟩, (by show r.l.length - 1 - (k + 1) < r.l.length - 1 - k; omega), .cons rfl (.cons rfl (.cons rfl (.cons rfl (.cons rfl (.cons rfl (.cons rfl (.cons (look_eq rfl (by simp)) (.nil _)))))))), fun w h => ?_⟩
      · show (vR.set j _).map bg.l = _
        rw [List.map_set, Od, List.set_append_right _ _ (by omega), Ls, Nat.sub_self, List.set_cons_zero, hlk, List.map_append, ← NQ]; rfl
      · have h5 := h.sel 5 [0, 3, 2, 4] rfl
        have e1 : bC (.slice A5 (q.l.length + 1) c5) 3 1 (q.l.length + 1) (ints .i64 q.l ++ [.int .i64 x.block]) = bg.row ⟨A5, c5, q.l ++ [x.block]⟩ := by
          unfold bg.row
          rw [bY, List.length_append]; rfl
        rw [e1] at h5
        have h6 := Sat.zR (l := vR.map bg.row) (k := j) (by rw [List.length_map]; omega) h5
        have e2 : (vR.map bg.v).set (0 + (j : Int).toNat * 1) (.slice A5 (q.l.length + 1) c5) = (vR.set j ⟨A5, c5, q.l ++ [x.block]⟩).map bg.v := by
          rw [show 0 + ((j : Nat) : Int).toNat * 1 = j by omega, List.map_set]
          show _ = (vR.map bg.v).set j (.slice A5 (q.l ++ [x.block]).length c5)
          rw [List.length_append]; rfl
        rw [e2, ← List.map_set] at h6
        exact h6.sel 4 [3, 1, 0] rfl
    ·simp only [decide_eq_true_eq, decide_eq_false_iff_not] at hc3
     refine WC.exit (WC.region (WL.ad rfl rfl rfl ?_))
     refine WL.mv rfl rfl (WL.nil ?_)
     refine ⟨rfl, ?_⟩
     first
     | (refine ⟨(j + 1, vR), ⟨hjl, zN, ?_⟩, (by show av - (j + 1) < av - j; omega), .cons rfl (.cons rfl (.cons rfl (.cons (look_eq rfl (by simp)) (.nil _)))), fun w h => h.sel 1 [] rfl⟩
        obtain rfl : k = r.l.length - 1 := by omega
        show vR.map bg.l = _
        rw [Od, htk, hsj, List.take_of_length_le (l := ll) (by omega), List.append_assoc]; rfl)
     | (refine ⟨(j + 1, dD), ⟨hjl, hil, ?_⟩, (by show av - (j + 1) < av - j; omega), .cons rfl (.cons rfl (.cons rfl (.cons (look_eq rfl (by simp)) (.nil _)))), fun w h => ?_⟩
        · show dD.map bg.l = _
          rw [his, htk, hsj, hrep, List.append_assoc]; rfl
        · rw [hdr, List.map_cons] at h
          have h4 := Sat.takeA (k := 0) (by simp) (h.sel 4 [3, 0, 1, 2] rfl)
          have h5 : Sat K w (r.row :: bH ((rs.drop (j + 1)).map aY.row) :: Cells b8 124 (dD.map bg.v) :: bH (dD.map bg.row) :: Cells bo 170 (rs.map aY.v) :: F) := h4
          exact h5.sel 5 [2, 3, 4, 1] rfl)
  ·simp only [decide_eq_true_eq, decide_eq_false_iff_not] at hc1
   refine WC.exit (WC.sr (WL.mv rfl rfl (WL.sg rfl rfl (WL.sg rfl rfl (WL.nil (WC.ret ?_))))))
   obtain rfl : j = av := by omega
   refine aj.ret (H' := Cells b8 124 (dD.map bg.v) :: bH (dD.map bg.row) :: F) (aL.dJ rfl rfl rfl) (fun w h => h.sel 4 [0, 1] rfl) ⟨b8, dD, hil, ?_, rfl, rfl⟩
   rw [his, List.take_of_length_le (by omega), Nat.sub_self, List.replicate_zero, List.append_nil]
end
structure St where
  stands : List Int
  stale : List (List Int)
  (next at_ : Int)
  dead : Bool
def iQ (S : ak) (av : Nat) : St := ⟨fT av S.bN, kF av S.bN, jR S.bN, 0, false⟩
namespace St
def ready (T : St) (aI : Int) : Int := if T.dead then 70 else if aI < 0 ∨ (T.stands.length : Int) ≤ aI then 1 else 0
def told (T : St) (e : Int) : St := { T with dead := T.dead || decide (e = 70) }
def at' (T : St) (aI : Int) : Int := T.stands.getD aI.toNat 0
end St
structure bI where
  stands : List Int
  sA : Option Addr
  sc : Nat
  b8 : Nat
  dD : List bg
  (next at_ : Int)
  dead : Bool
namespace bI
def sem (T : bI) : St := ⟨T.stands, T.dD.map bg.l, T.next, T.at_, T.dead⟩
abbrev cells (T : bI) (bd : Nat) (g : Geo) : List Value := [ptr bd 0, .int .i64 g.bl, .int .i64 g.pg, .int .i64 g.se, .int .i64 g.sb, .int .i64 g.fl, .slice T.sA T.stands.length T.sc, .slice (some ⟨T.b8, 0, none⟩) T.dD.length T.dD.length, .int .i64 T.next, .int .i64 T.at_, .bool T.dead]
abbrev sl (T : bI) : au := bC (.slice T.sA T.stands.length T.sc) 3 1 T.stands.length (ints .i64 T.stands)
abbrev parts (bs bd : Nat) (g : Geo) (T : bI) : List au := [Cells bs 127 (T.cells bd g), T.sl, Cells T.b8 124 (T.dD.map bg.v), bH (T.dD.map bg.row)]
def A (bs bd : Nat) (g : Geo) (T : bI) : au := bH (parts bs bd g T)
structure Ok (g : Geo) (T : bI) : Prop where
  len : T.dD.length = T.stands.length
  av : 1 ≤ T.stands.length ∧ T.stands.length ≤ 64
  next : 1 ≤ T.next ∧ T.next ≤ 1000000001
  at_ : 0 ≤ T.at_ ∧ T.at_ < g.bl
  std : ∀ b ∈ T.stands, -1 ≤ b ∧ b < g.bl
end bI
theorem Seq.ER {K : World} {l H : List au} {A : au} {B : Option Addr} {m s : Nat} {vs : List Value} (hA : A ∈ l) (h : Seq K [A] B m s vs) : Seq K (bH l :: H) B m s vs := ⟨h.len, fun i v hi => Rd.ER hA (h.rd i v hi)⟩
section
variable {bs bd bc : Nat} {g : Geo} {T : bI} {C : Cw} {K : World} {F : List au}
theorem bI.sJ : aT K (bI.A bs bd g T :: F) bs 0 (T.cells bd g) := fun i v hi => by
  show Rd K (bH (bI.parts bs bd g T) :: F) _ v
  refine Rd.ER (A := Cells bs 127 (T.cells bd g)) (.head _) (Rd.here ?_)
  rw [Nat.zero_add]; exact hi
theorem bI.OP : aT K (bI.A bs bd g T :: F) bs 1 [.int .i64 g.bl, .int .i64 g.pg, .int .i64 g.se, .int .i64 g.sb, .int .i64 g.fl] := fun i v hi => by
  have key : ∀ k v, (T.cells bd g)[k]? = some v → Rd K (bI.A bs bd g T :: F) (some ⟨bs, k, none⟩) v := fun k v hk => by
    have := bI.sJ (K := K) (F := F) (bs := bs) (bd := bd) (g := g) (T := T) k v hk
    rwa [Nat.zero_add] at this
  match i, hi with
  | 0, hi => exact key 1 v hi
  | 1, hi => exact key 2 v hi
  | 2, hi => exact key 3 v hi
  | 3, hi => exact key 4 v hi
  | 4, hi => exact key 5 v hi
theorem bI.Ol : Seq K (bI.A bs bd g T :: F) T.sA T.stands.length 1 (ints .i64 T.stands) :=
  Seq.ER (A := T.sl) (l := bI.parts bs bd g T) (.tail _ (.head _)) (bC.seq (by rw [bK, Nat.mul_one]))
theorem bI.OW {aI : Int} (h : 0 ≤ aI ∧ aI < T.stands.length) : Rd K (bI.A bs bd g T :: F) (T.sA.map (·.add (aI.toNat * 1))) (.int .i64 (T.sem.at' aI)) := Seq.fB bI.Ol h
theorem Does.MQ {f : FuncId} {args : Array Value} {post : Value → List au → Prop} (h : Does Tryz.prog f args K (bI.parts bs bd g T ++ F) post) : Does Tryz.prog f args K (bI.A bs bd g T :: F) post := h.sat fun w hw => hw.vX
theorem Kc {av : Nat} {fs : List Fd} {B : Int} (h : ∀ x ∈ fs, 0 ≤ x.block ∧ x.block < B) (hB : 0 < B) : ∀ b ∈ fT av fs, -1 ≤ b ∧ b < B := fun b hb => by
  unfold fT at hb
  obtain ⟨l, hl, rfl⟩ := List.mem_map.1 hb
  unfold fE at hl
  obtain ⟨aI, _, rfl⟩ := List.mem_map.1 hl
  unfold lastB
  cases hx : (bX (ltOf kG) (fs.filter (jh aI))).getLast? with
  | none => exact ⟨by decide, by dsimp only; omega⟩
  | some x =>
    have h1 := p8.1 (List.mem_of_getLast? hx)
    have := h x (List.mem_filter.1 h1).1
    exact ⟨by dsimp only; omega, this.2⟩
theorem oG {S : ak} {b : Int} {x : Fd} (hg : S.g.aF) (h : S.gJ b = some x) : x.block = b ∧ x.hd.may S.g = true := by
  unfold ak.gJ at h
  split at h
  · cases h
  · split at h
    · cases h
    · rename_i hp
      injection h with h
      subst h
      exact ⟨rfl, (qc hg hp).2.1⟩
theorem vT {S : ak} (hg : S.g.aF) : ∀ x ∈ S.bN, (0 ≤ x.block ∧ x.block < S.g.bl) ∧ x.hd.may S.g = true := fun x hx => by
  unfold ak.bN at hx
  obtain ⟨b, hb, hs⟩ := List.mem_filterMap.1 hx
  obtain ⟨h1, h2⟩ := oG hg hs
  have h3 := ak.kK S _ b hb
  unfold Geo.aF at hg
  exact ⟨by rw [h1]; omega, h2⟩
theorem Hd.Gc {g : Geo} {h : Hd} (hm : h.may g = true) : 1 ≤ h.num ∧ h.num ≤ 1000000000 := by
  unfold Hd.may at hm
  simp only [Bool.and_eq_true, decide_eq_true_eq] at hm
  exact ⟨hm.1.2, hm.2⟩
theorem Eu {c : Fd → Fd → Int} {fs : List Fd} (h0 : 0 < fs.length) : ∀ k, k < fs.length → ou c fs k ∈ fs
  | 0, _ => by show fs.getD 0 fd0 ∈ fs; simp only [List.getD, List.getElem?_eq_getElem h0]; exact List.getElem_mem _
  | k + 1, hk => by
    rw [ou]
    split
    · simp only [List.getD, List.getElem?_eq_getElem hk]; exact List.getElem_mem _
    · exact Eu h0 k (by omega)
theorem EK {fs : List Fd} (h : ∀ x ∈ fs, 1 ≤ x.hd.num ∧ x.hd.num ≤ 1000000000) : 1 ≤ jR fs ∧ jR fs ≤ 1000000001 := by
  unfold jR
  split
  · omega
  · have := h _ (Eu (c := zn) (by omega) (fs.length - 1) (by omega))
    omega
theorem rA (hC : C.Ok) (hg : C.g = g) {av : Nat} (hl : 1 ≤ av ∧ av ≤ 64) (h19 : g.bl ≤ 19) (he : C.sem.jF = 0) : Does Tryz.prog 31 #[ptr bd 0, .int .i64 (av : Int)] K (C.A bc :: bQ bd bc g :: F)
    (fun v H' => ∃ bs : Nat, ∃ T : bI, T.Ok g ∧ T.sem = iQ C.sem av ∧ v = .tuple #[ptr bs 0, .int .i64 0] ∧ H' = C.A bc :: bQ bd bc g :: T.A bs bd g :: F) := by
  have hgm : g.aF := by rw [← hg]; exact hC.aF
  have hgb := hgm
  unfold Geo.aF at hgb
  have hsf := vT (S := C.sem) hC.aF
  have hfl : C.sem.bN.length ≤ 19 := by
    have h1 := ak.fV C.sem C.sem.g.bl.toNat
    have h2 : C.sem.g.bl.toNat ≤ 19 := by rw [show C.sem.g = C.g from rfl, hg]; omega
    unfold ak.bN
    refine Nat.le_trans (List.length_filterMap_le _ _) ?_
    unfold ak.good; omega
  obtain ⟨fs, hfs⟩ : ∃ fs, fs = C.sem.bN := ⟨_, rfl⟩
  have hnx := EK (fs := fs) (fun x hx => Hd.Gc (hsf x (by rw [← hfs]; exact hx)).2)
  refine Does.enter Tryz.func31 rfl Tryz.ntmps31 rfl ?_
  simp only [aJ, Nat.reduceAdd]
  refine WC.sr (WL.sg rfl rfl (WL.sg rfl rfl (WL.nil (WC.seq (WC.sr (WL.mv rfl rfl (WL.val (V.ku Tryz.underlying70 (OV.p rfl) (OV.p rfl)) rfl (WL.nil ?_))))))))
  refine WC.aM rfl (by first | rfl | (simp; done) | (simp; omega)) ?_
  refine WC.skip (WC.seq (WC.sr (WL.mv rfl rfl (WL.val (V.lss (OV.p rfl) (OV.p rfl)) rfl (WL.mv rfl rfl (WL.ah (oj := _) rfl rfl rfl GC.f (V.move (OV.p rfl)) rfl (WL.ah (oj := _) rfl rfl rfl GC.f (V.gtr (OV.g rfl id) (OV.p rfl)) rfl (WL.val (V.aS (OV.p rfl) (OV.g rfl id)) rfl (WL.nil ?_)))))))))
  refine WC.aM rfl ((by simp; omega)) ?_
  refine WC.skip (WC.sr (WL.mv rfl rfl (WL.call (vs := [_]) Tryz.call99 ⟨OV.p rfl, trivial⟩ (EM hC hg h19 he) rfl ?_)))
  rintro _ _ ⟨Af, cf, rfl, rfl⟩
  rw [← hfs] at hfl hsf ⊢
  refine WL.mv rfl rfl (WL.xt rfl rfl rfl (WL.xt rfl rfl rfl (WL.sg rfl rfl (WL.sg rfl rfl (WL.nil (WC.seq (WC.sr (WL.mv rfl rfl (WL.val (V.neq (OV.p rfl) (OV.p rfl)) rfl (WL.nil ?_))))))))))
  refine WC.aM rfl (by first | rfl | (simp; done) | (simp; omega)) ?_
  refine WC.skip (WC.sr (WL.mv rfl rfl (WL.mv rfl rfl (WL.call (vs := [_]) Tryz.call100 ⟨OV.p rfl, trivial⟩ (gG) rfl ?_))))
  rintro _ H0 ⟨rfl, h0⟩
  subst H0
  refine WL.val (V.build (vs := [(0, _), (1, _)]) ⟨OV.p rfl, OV.p rfl, trivial⟩ rfl (F9 _ _ _ _ _ _)) rfl ?_
  refine WL.box (cs := [_, _, _, _, _, _, _, _, _, _, _]) (OV.p rfl) rfl rfl (fun I8 => ?_)
  refine WL.sg rfl rfl (WL.nil (WC.sr (WL.mv rfl rfl (WL.mv rfl rfl (WL.mv rfl rfl (WL.mv rfl rfl ?_))))))
  refine WL.call (vs := [_, _]) Tryz.call101 ⟨OV.p rfl, OV.p rfl, trivial⟩ (D5 (fs := fs) hl (by repeat (first | exact bC.seq (dQ _) | apply Seq.up)) rfl (by omega) (fun x hx => by have := Hd.Gc (hsf x hx).2; omega)) rfl ?_
  rintro _ _ ⟨Ap, cp, rfl, rfl⟩
  refine WL.mv rfl rfl (WL.xt rfl rfl rfl (WL.xt rfl rfl rfl (WL.xt rfl rfl rfl (WL.nc rfl rfl (WL.val (V.fieldAddr jA (OV.p rfl)) rfl ?_)))))
  refine WL.store (cs := [_]) Tryz.sizeOf124 (OV.p rfl) (OV.p rfl) rfl rfl rfl (by repeat (first | exact aQ.here (cs' := [_, _, _, _, _, _, _, _, _, _, _]) rfl rfl | apply aQ.up)) ?_
  refine WL.nc rfl rfl (WL.val (V.fieldAddr iG (OV.p rfl)) rfl ?_)
  refine WL.store (cs := [_]) Tryz.sizeOf3 (OV.p rfl) (OV.p rfl) rfl rfl rfl (by repeat (first | exact aQ.here (cs' := [_, _, _, _, _, _, _, _, _, _, _]) rfl rfl | apply aQ.up)) ?_
  refine WL.nil (WC.sr (WL.mv rfl rfl (WL.mv rfl rfl (WL.mv rfl rfl ?_))))
  refine WL.call (vs := [_, _]) Tryz.call102 ⟨OV.p rfl, OV.p rfl, trivial⟩ (Cz (fs := fs) hl (by repeat (first | exact bC.seq (dQ _) | apply Seq.up)) rfl (by omega)) rfl ?_
  rintro _ _ ⟨b8, dD, hil, his, rfl, rfl⟩
  refine WL.mv rfl rfl (WL.xt rfl rfl rfl (WL.xt rfl rfl rfl (WL.nc rfl rfl (WL.val (V.fieldAddr uh (OV.p rfl)) rfl ?_))))
  refine WL.store (cs := [_]) Tryz.sizeOf125 (OV.p rfl) (OV.p rfl) rfl rfl rfl (by repeat (first | exact aQ.here (cs' := [_, _, _, _, _, _, _, _, _, _, _]) rfl rfl | apply aQ.up)) ?_
  refine WL.nil (WC.sr (WL.mv rfl rfl (WL.sg rfl rfl (WL.sg rfl rfl (WL.nil (WC.ret ?_))))))
  obtain ⟨T, hT⟩ : ∃ T : bI, T = ⟨fT av fs, Ap, cp, b8, dD, jR fs, 0, false⟩ := ⟨_, rfl⟩
  have hpl := fF av fs
  refine aj.ret (H' := C.A bc :: bQ bd bc g :: T.A I8 bd g :: F) (aL.dJ rfl rfl rfl) (fun w h => ?_) ⟨I8, T, ?_, ?_, rfl, rfl⟩
  · have h1 := h.sel 7 [3, 2, 0, 1, 4, 5] rfl
    have h2 := Sat.all (l := bI.parts I8 bd g T) (H := C.A bc :: bQ bd bc g :: F) (K := K) (w := w) (by
      unfold bI.parts bI.cells bI.sl
      rw [hT]
      dsimp only
      rw [hpl, hil]
      exact h1)
    exact h2.sel 3 [1, 2, 0] rfl
  · rw [hT]
    refine ⟨by show dD.length = (fT av fs).length; omega, by show 1 ≤ (fT av fs).length ∧ (fT av fs).length ≤ 64; omega, by show 1 ≤ jR fs ∧ jR fs ≤ 1000000001; omega, by show (0 : Int) ≤ 0 ∧ 0 < g.bl; omega, ?_⟩
    exact Kc (fun x hx => by have := (hsf x hx).1; rw [show C.sem.g = C.g from rfl, hg] at this; exact this) (by omega)
  · rw [hT]
    unfold bI.sem iQ
    rw [← hfs, his]
theorem yF : aG Tryz.prog 87 #[ptr bs 0] K (T.A bs bd g :: F) (.int .i64 (T.stands.length : Int)) := by
  refine Does.enter Tryz.func87 rfl Tryz.ntmps87 rfl ?_
  simp only [aJ, Nat.reduceAdd]
  refine WC.sr (WL.sg rfl rfl (WL.nil (WC.seq (WC.sr (WL.mv rfl rfl (WL.val (V.ku Tryz.underlying28 (OV.p rfl) (OV.p rfl)) rfl (WL.nil ?_)))))))
  refine WC.aM rfl (by first | rfl | (simp; done) | (simp; omega)) ?_
  refine WC.skip (WC.sr (WL.mv rfl rfl (WL.nc rfl rfl (WL.val (V.fieldAddr jA (OV.p rfl)) rfl ?_))))
  refine WL.val (V.load Tryz.isAgg124 (OV.p rfl) (fun _ => bI.sJ 6 _ rfl)) rfl ?_
  refine WL.val (V.len (t := 124) Tryz.runUnderlying124 (OV.p rfl)) rfl (WL.sg rfl rfl (WL.nil (WC.ret ?_)))
  exact aj.ret (H' := T.A bs bd g :: F) (aL.tmp rfl rfl) (fun w h => h) ⟨rfl, rfl⟩
theorem I7 (hg : g.aF) : aG Tryz.prog 50 #[ptr bs 0] K (T.A bs bd g :: F) (.int .i64 g.cap) := by
  refine Does.enter Tryz.func50 rfl Tryz.ntmps50 rfl ?_
  simp only [aJ, Nat.reduceAdd]
  refine WC.sr (WL.sg rfl rfl (WL.nil (WC.seq (WC.sr (WL.mv rfl rfl (WL.val (V.ku Tryz.underlying28 (OV.p rfl) (OV.p rfl)) rfl (WL.nil ?_)))))))
  refine WC.aM rfl (by first | rfl | (simp; done) | (simp; omega)) ?_
  refine WC.skip (WC.sr (WL.mv rfl rfl (WL.nc rfl rfl (WL.val (V.fieldAddr jw (OV.p rfl)) rfl ?_))))
  refine WL.val (V.aU (vs := [.int .i64 g.bl, .int .i64 g.pg, .int .i64 g.se, .int .i64 g.sb, .int .i64 g.fl]) ⟨Tryz.isAgg23, Tryz.sizeOf23⟩ (OV.p rfl) rfl (fun _ => bI.OP)) rfl ?_
  refine WL.call (vs := [_]) Tryz.call110 ⟨OV.p rfl, trivial⟩ (EL hg) rfl ?_
  rintro _ H0 ⟨rfl, h0⟩
  subst H0
  refine WL.mv rfl rfl (WL.xt rfl rfl rfl (WL.xt rfl rfl rfl (WL.sg rfl rfl (WL.sg rfl rfl (WL.nil (WC.sr (WL.mv rfl rfl (WL.sg rfl rfl (WL.nil (WC.ret ?_))))))))))
  exact aj.ret (H' := T.A bs bd g :: F) (aL.tmp rfl rfl) (fun w h => h) ⟨rfl, rfl⟩
theorem nX (aI : Int) : aG Tryz.prog 61 #[ptr bs 0, .int .i64 aI] K (T.A bs bd g :: F) (.int .i64 (T.sem.ready aI)) := by
  obtain ⟨X, hX⟩ : ∃ X, X = T.sem.ready aI := ⟨_, rfl⟩
  rw [← hX]
  unfold St.ready bI.sem at hX
  dsimp only at hX
  refine Does.enter Tryz.func61 rfl Tryz.ntmps61 rfl ?_
  simp only [aJ, Nat.reduceAdd]
  refine WC.sr (WL.sg rfl rfl (WL.nil (WC.seq (WC.block (WC.sr (WL.mv rfl rfl (WL.val (V.ku Tryz.underlying28 (OV.p rfl) (OV.p rfl)) rfl (WL.sg rfl rfl (WL.nil ?_)))))))))
  refine WC.aM rfl (by first | rfl | (simp; done) | (simp; omega)) ?_
  refine WC.sr (WL.mv rfl rfl (WL.nc rfl rfl (WL.val (V.fieldAddr CG (OV.p rfl)) rfl ?_)))
  refine WL.val (V.load Tryz.isAgg4 (OV.p rfl) (fun _ => bI.sJ 10 _ rfl)) rfl ?_
  refine WL.sg rfl rfl (WL.nil ?_)
  refine WC.cond rfl (fun hc1 => ?_) (fun hc1 => ?_)
  ·skip
   have h1 := hc1
   rw [h1] at hX
   refine WC.sr (WL.sg rfl rfl (WL.nil (WC.ret ?_)))
   exact aj.ret (H' := T.A bs bd g :: F) (aL.tmp rfl rfl) (fun w h => h) ⟨by rw [hX]; rfl, rfl⟩
  ·skip
   have h1 := hc1
   rw [h1] at hX
   rw [if_neg Bool.false_ne_true] at hX
   refine WC.sr (WL.mv rfl rfl (WL.val (V.lss (OV.p rfl) (OV.p rfl)) rfl (WL.mv rfl rfl (WL.ah (oj := _) rfl rfl rfl GC.f (V.move (OV.p rfl)) rfl (WL.ah (oj := _) rfl rfl rfl GC.f (V.move (OV.p rfl)) rfl (WL.ah (oj := _) rfl rfl rfl GC.f (V.nilCheck (OV.g rfl id)) rfl (WL.ah (oj := _) rfl rfl rfl GC.f (V.fieldAddr jA (OV.g rfl id)) rfl ?_)))))))
   refine WL.ah (oj := _) rfl rfl rfl GC.f (V.load Tryz.isAgg124 (OV.g rfl id) (fun _ => bI.sJ 6 _ rfl)) rfl ?_
   refine WL.ah (oj := _) rfl rfl rfl GC.f (V.len (t := 124) Tryz.runUnderlying124 (OV.g rfl id)) rfl (WL.ah (oj := _) rfl rfl rfl GC.f (V.geq (OV.g rfl id) (OV.g rfl id)) rfl (WL.val (V.aS (OV.p rfl) (OV.g rfl id)) rfl (WL.sg rfl rfl (WL.nil ?_))))
   refine WC.cond rfl (fun hc2 => ?_) (fun hc2 => ?_)
   ·simp only [Bool.or_eq_true, Bool.or_eq_false_iff, decide_eq_true_eq, decide_eq_false_iff_not] at hc2
    have h2 := hc2
    rw [if_pos h2] at hX
    refine WC.sr (WL.sg rfl rfl (WL.nil (WC.ret ?_)))
    exact aj.ret (H' := T.A bs bd g :: F) (aL.tmp rfl rfl) (fun w h => h) ⟨by rw [hX], rfl⟩
   ·simp only [Bool.or_eq_true, Bool.or_eq_false_iff, decide_eq_true_eq, decide_eq_false_iff_not] at hc2
    have h2 := hc2
    rw [if_neg (by rintro (h | h); exact h2.1 h; exact h2.2 h)] at hX
    refine WC.skip (WC.sr (WL.sg rfl rfl (WL.nil (WC.ret ?_))))
    exact aj.ret (H' := T.A bs bd g :: F) (aL.tmp rfl rfl) (fun w h => h) ⟨by rw [hX], rfl⟩
def bI.told (T : bI) (e : Int) : bI := { T with dead := T.dead || decide (e = 70) }
theorem bI.Ok.told {T : bI} (h : T.Ok g) (e : Int) : (T.told e).Ok g := ⟨h.len, h.av, h.next, h.at_, h.std⟩
theorem nD (e : Int) : Does Tryz.prog 65 #[ptr bs 0, .int .i64 e] K (T.A bs bd g :: F) (fun v H' => v = .int .i64 e ∧ H' = (T.told e).A bs bd g :: F) := by
  refine Does.MQ ?_
  dsimp only [bI.parts, List.cons_append, List.nil_append]
  refine Does.enter Tryz.func65 rfl Tryz.ntmps65 rfl ?_
  simp only [aJ, Nat.reduceAdd]
  refine WC.sr (WL.sg rfl rfl (WL.nil (WC.sr (WL.mv rfl rfl (WL.mv rfl rfl (WL.nc rfl rfl (WL.val (V.fieldAddr CG (OV.p rfl)) rfl (WL.ld Tryz.isAgg4 rfl rfl ?_))))))))
  refine WL.mv rfl rfl (WL.ah (oj := _) rfl rfl rfl GC.f (V.move (OV.p rfl)) rfl (WL.ah (oj := _) rfl rfl rfl GC.f (V.eql (OV.g rfl id) (OV.p rfl)) rfl (WL.val (V.aS (OV.p rfl) (OV.g rfl id)) rfl (WL.nc rfl rfl (WL.val (V.fieldAddr CG (OV.p rfl)) rfl ?_)))))
  refine WL.store (cs := [_]) Tryz.sizeOf4 (OV.p rfl) (OV.p rfl) rfl rfl rfl (by repeat (first | exact aQ.here rfl rfl | apply aQ.up)) ?_
  refine WL.nil (WC.sr (WL.mv rfl rfl (WL.sg rfl rfl (WL.nil (WC.ret ?_)))))
  exact aj.ret (H' := (T.told e).A bs bd g :: F) (aL.tmp rfl rfl) (fun w h => Sat.all (l := bI.parts bs bd g (T.told e)) h) ⟨rfl, rfl⟩
theorem H9 {aI : Int} : aG Tryz.prog 33 #[ptr bs 0, .int .i64 aI] K (T.A bs bd g :: F) (.bool (decide (T.sem.ready aI = 0) && decide (0 ≤ T.sem.at' aI))) := by
  have hin : T.sem.ready aI = 0 → 0 ≤ aI ∧ aI < T.stands.length := fun h => by
    unfold St.ready bI.sem at h
    dsimp only at h
    split at h
    · cases h
    · split at h
      · cases h
      · omega
  refine Does.enter Tryz.func33 rfl Tryz.ntmps33 rfl ?_
  simp only [aJ, Nat.reduceAdd]
  refine WC.sr (WL.sg rfl rfl (WL.nil (WC.sr (WL.mv rfl rfl (WL.mv rfl rfl (WL.call (vs := [_, _]) Tryz.call61 ⟨OV.p rfl, OV.p rfl, trivial⟩ (nX aI) rfl ?_))))))
  rintro _ H0 ⟨rfl, h0⟩
  subst H0
  refine WL.val (V.eql (OV.p rfl) (OV.p rfl)) rfl (WL.mv rfl rfl (WL.ah (oj := _) rfl rfl rfl GC.t (V.move (OV.p rfl)) rfl (WL.ah (oj := _) rfl rfl rfl GC.t (V.nilCheck (OV.g rfl id)) rfl (WL.ah (oj := _) rfl rfl rfl GC.t (V.fieldAddr jA (OV.g rfl id)) rfl ?_))))
  refine WL.ah (oj := _) rfl rfl rfl GC.t (V.load Tryz.isAgg124 (OV.g rfl id) (fun _ => bI.sJ 6 _ rfl)) rfl ?_
  refine WL.ah (oj := _) rfl rfl rfl GC.t (V.move (OV.p rfl)) rfl ?_
  refine WL.ah (oj := _) rfl rfl rfl GC.t (V.fu bO (OV.g rfl id) (OV.g rfl id) (fun hc => hin (by simpa using hc)) (fun hc => bI.OW (hin (by simpa using hc)))) rfl ?_
  refine WL.ah (oj := _) rfl rfl rfl GC.t (V.load Tryz.isAgg3 (OV.g rfl id) (fun hc => bI.OW (hin (by simpa using hc)))) rfl ?_
  refine WL.ah (oj := _) rfl rfl rfl GC.t (V.geq (OV.g rfl id) (OV.p rfl)) rfl (WL.val (V.aD (OV.p rfl) (OV.g rfl id)) rfl (WL.sg rfl rfl (WL.nil (WC.ret ?_))))
  exact aj.ret (H' := T.A bs bd g :: F) (aL.tmp rfl rfl) (fun w h => h) ⟨rfl, rfl⟩
theorem Fz (hC : C.Ok) (hg : C.g = g) : aG Tryz.prog 66 #[ptr bs 0] K (C.A bc :: bQ bd bc g :: T.A bs bd g :: F) (.int .i64 (if C.sem.jF = 70 then 70 else 6)) := by
  refine Does.enter Tryz.func66 rfl Tryz.ntmps66 rfl ?_
  simp only [aJ, Nat.reduceAdd]
  refine WC.sr (WL.sg rfl rfl (WL.nil (WC.seq (WC.sr (WL.mv rfl rfl (WL.nc rfl rfl (WL.val (V.fieldAddr qy (OV.p rfl)) rfl ?_)))))))
  refine WL.val (V.load Tryz.isAgg70 (OV.p rfl) (fun _ => Rd.up (Rd.up (bI.sJ 0 _ rfl)))) rfl ?_
  refine WL.call (vs := [_, _, _]) Tryz.call126 ⟨OV.p rfl, OV.p rfl, OV.p rfl, trivial⟩ (ny hC hg 0 0 (by decide)) rfl ?_
  rintro _ H0 ⟨rfl, h0⟩
  subst H0
  refine WL.mv rfl rfl (WL.xt rfl rfl rfl (WL.xt rfl rfl rfl (WL.sg rfl rfl (WL.sg rfl rfl (WL.nil (WC.sr (WL.mv rfl rfl (WL.val (V.eql (OV.p rfl) (OV.p rfl)) rfl (WL.nil ?_)))))))))
  refine WC.cond rfl (fun hc0 => ?_) (fun hc0 => ?_)
  ·simp only [decide_eq_true_eq, decide_eq_false_iff_not] at hc0
   have h0 := hc0
   refine WC.sr (WL.mv rfl rfl (WL.sg rfl rfl (WL.nil (WC.ret ?_))))
   exact aj.ret (H' := C.A bc :: bQ bd bc g :: T.A bs bd g :: F) (aL.tmp rfl rfl) (fun w h => h) ⟨by rw [if_pos (show C.sem.jF = 70 from h0)]; exact congrArg _ h0, rfl⟩
  ·simp only [decide_eq_true_eq, decide_eq_false_iff_not] at hc0
   have h0 := hc0
   refine WC.skip (WC.sr (WL.sg rfl rfl (WL.nil (WC.ret ?_))))
   exact aj.ret (H' := C.A bc :: bQ bd bc g :: T.A bs bd g :: F) (aL.tmp rfl rfl) (fun w h => h) ⟨by rw [if_neg (show ¬ C.sem.jF = 70 from h0)], rfl⟩
end
end Go.Proofs.YtcedojacbhnbiaaGreat
