import Derived.Test.YtcmojpiokjhmhaaGreatP20
namespace Go.Proofs.YtcmojpiokjhmhaaGreat
open Go.Sl Go.RowKit
set_option linter.unusedVariables false
set_option linter.unusedSimpArgs false
set_option maxRecDepth 20000
theorem Lf {K : World} {F : List ak} {A : Option Addr} {m cap : Nat} {l : List Fd} (hm : l.length = m) (h0 : 0 < m) : ∀ w, Sat K w (aU (.slice A m cap) 139 5 m (bP l) :: F) → Sat K w (aU (.slice A (m - 1) cap) 139 5 (m - 1) (bP l.dropLast) :: F) := fun w h => by
  cases A with
  | none => have := (aU.sM h).1; omega
  | some a =>
    obtain ⟨g, rfl⟩ := aU.addr h
    obtain ⟨r, ⟨h1, h2, h3, h4⟩, h5⟩ := Sat.kH h
    have h6 := Sat.Dq (m := m - 1) (cap := cap) (s := 5) h5 h1 (by omega) h4
    have hne : l ≠ [] := fun e => by rw [e] at hm; simp at hm; omega
    have e1 : bP l = bP l.dropLast ++ (l.getLast hne).cells := by
      conv => lhs; rw [← List.dropLast_concat_getLast hne]
      exact iX _ _
    have e2 : (bP l ++ r).take ((m - 1) * 5) = bP l.dropLast := by
      rw [e1, List.append_assoc, List.take_left']
      rw [dN, List.length_dropLast, hm]
    rw [e2] at h6
    exact h6
section
variable {K : World} {F : List ak}
theorem En {aj n cap : Nat} {A : Option Addr} {fs : List Fd} (hl : 1 ≤ aj ∧ aj ≤ 64) (hs : Seq K F A n 5 (bP fs)) (hn : fs.length = n) (h20 : n < 20) :
    Does Tryz.prog 76 #[.int .i64 (aj : Int), .slice A n cap] K F
      (fun v H' => ∃ b8 : Nat, ∃ cB : List aX, cB.length = aj ∧ cB.map aX.l = kZ aj fs ∧ v = .tuple #[.slice (some ⟨b8, 0, none⟩) aj aj, .int .i64 0] ∧ H' = Cells b8 24 (cB.map aX.v) :: bG (cB.map aX.row) :: F) := by
  obtain ⟨st, hst⟩ : ∃ st, st = kZ aj fs := ⟨_, rfl⟩
  have Ui : st.length = aj := by rw [hst]; exact mV _ _
  rw [← hst]
  refine Does.enter Tryz.func76 rfl Tryz.ntmps76 rfl ?_
  simp only [aI, Nat.reduceAdd]
  refine WC.sr (WL.sg rfl rfl (WL.sg rfl rfl (WL.nil (WC.sr (WL.mv rfl rfl (WL.mv rfl rfl (WL.call (vs := [_, _, _]) Tryz.call100 ⟨OV.p rfl, OV.p rfl, OV.p rfl, trivial⟩ (vG xE hl hs hn h20) rfl ?_)))))))
  rintro _ _ ⟨bo, rs, hrl, hrs, rfl, rfl⟩
  have hpr : ∀ j r, rs[j]? = some r → st.getD j [] = (dz (ltOf Lx) r.l.dropLast).map Fd.block ∧ j < aj ∧ r.l.length ≤ 19 := fun j r hj => by
    have h1 : (rs.map bq.l)[j]? = some r.l := by rw [List.getElem?_map, hj]; rfl
    have hjl : j < aj := by rw [← hrl]; exact (List.getElem?_eq_some_iff.1 hj).1
    rw [hrs] at h1
    simp only [List.getElem?_map, gF, List.getElem?_range hjl, Option.map_some] at h1
    injection h1 with h1
    refine ⟨?_, hjl, ?_⟩
    · rw [hst]
      unfold kZ
      simp only [List.getD, List.getElem?_map, gF, List.getElem?_range hjl, Option.map_some, Option.getD_some]
      rw [h1]
    · rw [← h1, fA]
      exact Nat.le_trans (List.length_filter_le _ _) (by omega)
  refine WL.mv rfl rfl (WL.xt rfl rfl rfl (WL.xt rfl rfl rfl (WL.sg rfl rfl (WL.sg rfl rfl (WL.nil (WC.seq (WC.sr (WL.mv rfl rfl (WL.val (V.neq (OV.p rfl) (OV.p rfl)) rfl (WL.nil ?_))))))))))
  refine WC.aQ rfl (by first | rfl | (simp; done) | (simp; omega)) ?_
  refine WC.skip (WC.sr (WL.mv rfl rfl ?_))
  refine WL.oW (m := aj) Tryz.underlying87 Sz (OV.p rfl) (OV.p rfl) rfl rfl (by omega) rfl rfl rfl (fun b8 => ?_)
  refine WL.sg rfl rfl (WL.nil (WC.seq (WC.sr (WL.mv rfl rfl (WL.val (V.len (t := 140) Tryz.runUnderlying140 (OV.p rfl)) rfl (WL.mv rfl rfl (WL.nil (WC.block ?_))))))))
  refine WC.loop (σ := Nat × List aX) (fun s => [(8, .slice (some ⟨b8, 0, none⟩) aj aj), (24, .slice (some ⟨bo, 0, none⟩) aj aj), (25, .int .i64 (aj : Int)), (26, .int .i64 (s.1 : Int))]) (fun s => Cells b8 24 (s.2.map aX.v) :: bG (s.2.map aX.row) :: Cells bo 111 (rs.map bq.v) :: bG ((rs.drop s.1).map bq.row) :: F) (fun s => s.1 ≤ aj ∧ s.2.length = aj ∧ s.2.map aX.l = st.take s.1 ++ List.replicate (aj - s.1) []) (fun s => aj - s.1) (0, List.replicate aj Og) ⟨Nat.zero_le _, List.length_replicate, by
    rw [List.map_replicate]; rfl⟩ (.cons rfl (.cons rfl (.cons rfl (.cons rfl (.nil _))))) (fun w h => by
    dsimp only
    rw [List.map_replicate, List.map_replicate]
    have key : ∀ m, ∀ H, Sat K w H → Sat K w (List.replicate m Og.row ++ H) := fun m => by
      induction m with
      | zero => intro H h; exact h
      | succ m ih => intro H h; exact Sat.fO (ih H h) _ _
    have h1 : Sat K w (List.replicate aj Og.row ++ (Cells b8 24 (List.replicate aj Og.v) :: Cells bo 111 (rs.map bq.v) :: bG (rs.map bq.row) :: F)) := key aj _ h
    exact (Sat.all h1).p1) ?_
  rintro ⟨j, cB⟩ ⟨hj, hil, his⟩
  dsimp only at hj hil his ⊢
  refine WC.sr (WL.val (V.lss (OV.p rfl) (OV.p rfl)) rfl (WL.nil (WC.seq ?_)))
  refine WC.cond rfl (fun hc1 => ?_) (fun hc1 => ?_)
  ·simp only [decide_eq_true_eq, decide_eq_false_iff_not] at hc1
   have hjl : j < aj := by omega
   obtain ⟨r, hr⟩ : ∃ r, r = rs[j]'(by omega) := ⟨_, rfl⟩
   have hrg : rs[j]? = some r := by rw [hr]; exact List.getElem?_eq_getElem (by omega)
   obtain ⟨hpv, _, Sc⟩ := hpr j r hrg
   have MO : (rs.map bq.v)[0 + ((j : Nat) : Int).toNat * 1]? = some r.v := by rw [show 0 + ((j : Nat) : Int).toNat * 1 = j by omega, List.getElem?_map, hrg]; rfl
   have hdr : rs.drop j = r :: rs.drop (j + 1) := by rw [hr]; exact List.drop_eq_getElem_cons (by omega)
   have htk : st.take (j + 1) = st.take j ++ [st.getD j []] := by rw [List.take_add_one, List.getElem?_eq_getElem (by omega)]; simp [List.getD, show j < st.length by omega]
   have hrep : List.replicate (aj - j) ([] : List Int) = [] :: List.replicate (aj - (j + 1)) [] := by rw [show aj - j = (aj - (j + 1)) + 1 by omega, List.replicate_succ]
   have MX : (st.take j).length = j := by rw [List.length_take]; omega
   refine WC.skip (WC.seq (WC.block (WC.sr (WL.mv rfl rfl ?_))))
   refine WL.val (V.bR Ci (OV.p rfl) (OV.p rfl) (fun hc => by omega)) rfl ?_
   refine WL.val (V.load Tryz.isAgg111 (OV.p rfl) (fun _ => by repeat (first | exact Rd.here MO | apply Rd.up))) rfl ?_
   refine WL.sg rfl rfl (WL.sg rfl rfl (WL.nil (WC.seq (WC.sr (WL.mv rfl rfl (WL.val (V.len (t := 111) Tryz.runUnderlying111 (OV.p rfl)) rfl (WL.val (V.eql (OV.p rfl) (OV.p rfl)) rfl (WL.nil ?_))))))))
   refine WC.cond rfl (fun hc2 => ?_) (fun hc2 => ?_)
   ·simp only [decide_eq_true_eq, decide_eq_false_iff_not] at hc2
    have h2 := hc2
    have hnil : r.l = [] := List.eq_nil_of_length_eq_zero (by omega)
    have hsj : st.getD j [] = [] := by rw [hpv, hnil]; rfl
    refine WC.exit (WC.region (WL.ad rfl rfl rfl ?_))
    refine WL.mv rfl rfl (WL.nil ?_)
    refine ⟨rfl, ?_⟩
    first
    | (refine ⟨(j + 1, xD), ⟨hjl, Bq, ?_⟩, (by show aj - (j + 1) < aj - j; omega), .cons rfl (.cons rfl (.cons rfl (.cons (look_eq rfl (by simp)) (.nil _)))), fun w h => h.sel 1 [] rfl⟩
       obtain rfl : k = r.l.length - 1 := by omega
       show xD.map aX.l = _
       rw [OC, htk, hsj, List.take_of_length_le (l := ll) (by omega), List.append_assoc]; rfl)
    | (refine ⟨(j + 1, cB), ⟨hjl, hil, ?_⟩, (by show aj - (j + 1) < aj - j; omega), .cons rfl (.cons rfl (.cons rfl (.cons (look_eq rfl (by simp)) (.nil _)))), fun w h => ?_⟩
       · show cB.map aX.l = _
         rw [his, htk, hsj, hrep, List.append_assoc]; rfl
       · rw [hdr, List.map_cons] at h
         have h4 := Sat.takeA (k := 0) (by simp) (h.sel 4 [3, 0, 1, 2] rfl)
         have h5 : Sat K w (r.row :: bG ((rs.drop (j + 1)).map bq.row) :: Cells b8 24 (cB.map aX.v) :: bG (cB.map aX.row) :: Cells bo 111 (rs.map bq.v) :: F) := h4
         exact h5.sel 5 [2, 3, 4, 1] rfl)
   ·simp only [decide_eq_true_eq, decide_eq_false_iff_not] at hc2
    have h2 := hc2
    have Ox : 0 < r.l.length := by omega
    obtain ⟨ll, hll⟩ : ∃ ll, ll = dz (ltOf Lx) r.l.dropLast := ⟨_, rfl⟩
    have R8 : ll.length = r.l.length - 1 := by rw [hll, fA, List.length_dropLast]
    have hsj : st.getD j [] = ll.map Fd.block := by rw [hpv, hll]
    refine WC.sub (H' := aU (.slice r.A (r.l.length - 1) r.c) 139 5 (r.l.length - 1) (bP r.l.dropLast) :: Cells b8 24 (cB.map aX.v) :: bG (cB.map aX.row) :: Cells bo 111 (rs.map bq.v) :: bG ((rs.drop (j + 1)).map bq.row) :: F) (Sub.refl _) (fun w h => by
      rw [hdr, List.map_cons] at h
      have h4 := Sat.takeA (k := 0) (by simp) (h.sel 4 [3, 0, 1, 2] rfl)
      have h5 : Sat K w (r.row :: bG ((rs.drop (j + 1)).map bq.row) :: Cells b8 24 (cB.map aX.v) :: bG (cB.map aX.row) :: Cells bo 111 (rs.map bq.v) :: F) := h4
      exact (Lf (l := r.l) rfl Ox w h5).sel 5 [0, 2, 3, 4, 1] rfl) ?_
    refine WC.skip (WC.seq ?_)
    refine WC.have_ (p := r.l.length - 1 ≤ r.c) (fun w h => by
      obtain ⟨_, cap', hv, hle, _⟩ := aU.shape h.head
      injection hv with _ _ e3
      rw [e3]; exact hle) (fun hrc => ?_)
    refine WC.region (WL.mv rfl rfl (WL.mv rfl rfl (WL.val (V.len (t := 111) Tryz.runUnderlying111 (OV.p rfl)) rfl (WL.sb rfl rfl rfl ?_))))
    refine WL.val (V.aC (v' := .slice r.A (r.l.length - 1) r.c) (V.slice (l := 0) (h := r.l.length - 1) (u := r.c) lM (OV.p rfl) OO.none (OO.some (OV.p rfl) (fun _ => by omega)) OO.none (by simp) (Nat.zero_le _) hrc (Nat.le_refl _)) (fun _ => by rw [Nat.sub_zero, Nat.sub_zero, Jr])) rfl ?_
    refine WL.sg rfl rfl (WL.nil (WC.sr (WL.mv rfl rfl ?_)))
    refine WL.call (vs := [_, _]) Tryz.call105 ⟨OV.p rfl, OV.p rfl, trivial⟩ (A8 J4 (by rw [List.length_dropLast]) (by omega)) rfl ?_
    rintro v0 H0 h0
    refine WL.sub (H' := aU (.slice r.A (r.l.length - 1) r.c) 139 5 (r.l.length - 1) (bP ll) :: Cells b8 24 (cB.map aX.v) :: bG (cB.map aX.row) :: Cells bo 111 (rs.map bq.v) :: bG ((rs.drop (j + 1)).map bq.row) :: F) (Sub.refl _) (fun w h => by rw [hll]; exact h0 w h) ?_
    refine WL.nil (WC.seq ?_)
    have Vv : (cB.map aX.l)[j]? = some [] := by rw [his, List.getElem?_append_right (by omega), MX, Nat.sub_self, hrep]; rfl
    have R4 : ∀ {X : List ak} (k : Nat) (x : Fd), ll[k]? = some x → ∀ i v, x.cells[i]? = some v → Rd K (aU (.slice r.A (r.l.length - 1) r.c) 139 5 (r.l.length - 1) (bP ll) :: X) (r.A.map (·.add (k * 5 + i))) v := fun {X} k x hk i v hi => by
      have h9 : Seq K (aU (.slice r.A (r.l.length - 1) r.c) 139 5 (r.l.length - 1) (bP ll) :: X) r.A (r.l.length - 1) 5 (bP ll) := aU.seq (by rw [dN, R8])
      exact vM h9 hk hi
    refine WC.region (WL.mv rfl rfl (WL.val (V.len (t := 111) Tryz.runUnderlying111 (OV.p rfl)) rfl (WL.mv rfl rfl (WL.nil (WC.block ?_)))))
    refine WC.loop (σ := Nat × List aX) (fun s => [(8, .slice (some ⟨b8, 0, none⟩) aj aj), (9, .int .i64 (j : Int)), (24, .slice (some ⟨bo, 0, none⟩) aj aj), (25, .int .i64 (aj : Int)), (26, .int .i64 (j : Int)), (41, .slice r.A (r.l.length - 1) r.c), (42, .int .i64 ((r.l.length - 1 : Nat) : Int)), (43, .int .i64 (s.1 : Int))]) (fun s => aU (.slice r.A (r.l.length - 1) r.c) 139 5 (r.l.length - 1) (bP ll) :: Cells b8 24 (s.2.map aX.v) :: bG (s.2.map aX.row) :: Cells bo 111 (rs.map bq.v) :: bG ((rs.drop (j + 1)).map bq.row) :: F) (fun s => s.1 ≤ r.l.length - 1 ∧ s.2.length = aj ∧ s.2.map aX.l = st.take j ++ ((ll.take s.1).map Fd.block :: List.replicate (aj - (j + 1)) [])) (fun s => r.l.length - 1 - s.1) (0, cB) ⟨Nat.zero_le _, hil, by rw [his, hrep]; rfl⟩ (.cons rfl (.cons rfl (.cons rfl (.cons rfl (.cons rfl (.cons rfl (.cons rfl (.cons rfl (.nil _))))))))) (fun w h => h) ?_
    rintro ⟨k, xD⟩ ⟨hk, Bq, OC⟩
    dsimp only at hk Bq OC ⊢
    refine WC.sr (WL.val (V.lss (OV.p rfl) (OV.p rfl)) rfl (WL.nil (WC.seq ?_)))
    refine WC.cond rfl (fun hc3 => ?_) (fun hc3 => ?_)
    ·simp only [decide_eq_true_eq, decide_eq_false_iff_not] at hc3
     have hkl : k < r.l.length - 1 := by omega
     obtain ⟨x, hx⟩ : ∃ x, ll[k]? = some x := ⟨_, List.getElem?_eq_getElem (by omega)⟩
     have TA := fun {X : List ak} i v hi => R4 (X := X) k x hx i v hi
     have hti : (k : Int).toNat = k := by omega
     have hlk : ll.take (k + 1) = ll.take k ++ [x] := by rw [List.take_add_one, hx]; rfl
     obtain ⟨q, hq⟩ : ∃ q, q = xD[j]'(by omega) := ⟨_, rfl⟩
     have hqg : xD[j]? = some q := by rw [hq]; exact List.getElem?_eq_getElem (by omega)
     have OT : q.l = (ll.take k).map Fd.block := by
       have h3 : (xD.map aX.l)[j]? = some q.l := by rw [List.getElem?_map, hqg]; rfl
       rw [OC, List.getElem?_append_right (by omega), MX, Nat.sub_self] at h3
       injection h3 with h3
       exact h3.symm
     have Tk : q.l.length ≤ 20 := by rw [OT, List.length_map, List.length_take]; omega
     have KM : (xD.map aX.row)[j]'(by rw [List.length_map]; omega) = q.row := by rw [List.getElem_map, hq]
     have Qk : (xD.map aX.v)[0 + (j : Int).toNat * 1]? = some q.v := by rw [show 0 + ((j : Nat) : Int).toNat * 1 = j by omega, List.getElem?_map, hqg]; rfl
     refine WC.skip (WC.seq (WC.block (WC.sr ?_)))
     refine WL.val (V.aC (v' := sp r.A (k * 5)) (V.dS lM (OV.p rfl) (OV.p rfl) (fun hc => by omega) (fun hc => by rw [hti]; repeat (first | exact TA 0 _ rfl | apply Rd.up))) (fun _ => by rw [hti])) rfl ?_
     refine WL.val (V.CQ (vs := x.cells) ⟨Tryz.isAgg139, Tryz.sizeOf139⟩ (OV.p rfl) rfl (by decide) (fun _ i v hi => by repeat (first | exact TA i v hi | apply Rd.up))) rfl ?_
     refine WL.alloc (cs := [(.int .i64 0), (.int .i64 0), (.int .i64 0), (.int .i64 0), (.bool false)]) Tryz.zeroValue139 rfl rfl (fun b12 => ?_)
     refine WL.store (cs := [_, _, _, _, _]) Tryz.sizeOf139 (OV.p rfl) (OV.p rfl) rfl rfl rfl (by repeat (first | exact bA.here (cs' := [_, _, _, _, _]) rfl rfl | apply bA.up)) ?_
     refine WL.nil ?_
     refine WC.sub (H' := aU (.slice q.A q.l.length q.c) 3 1 q.l.length (ints .i64 q.l) :: Cells b8 24 (xD.map aX.v) :: bG ((xD.map aX.row).eraseIdx j) :: Cells b12 139 x.cells :: aU (.slice r.A (r.l.length - 1) r.c) 139 5 (r.l.length - 1) (bP ll) :: Cells bo 111 (rs.map bq.v) :: bG ((rs.drop (j + 1)).map bq.row) :: F) (Sub.refl _) (fun w h => by
       have h4 := Sat.takeA (k := j) (by rw [List.length_map]; omega) (h.sel 4 [3, 2, 0, 1] rfl)
       rw [KM] at h4
       exact h4.sel 5 [0, 2, 1, 3, 4] rfl) ?_
     refine WC.dR (bG ((xD.map aX.row).eraseIdx j) :: Cells b12 139 x.cells :: aU (.slice r.A (r.l.length - 1) r.c) 139 5 (r.l.length - 1) (bP ll) :: Cells bo 111 (rs.map bq.v) :: bG ((rs.drop (j + 1)).map bq.row) :: F) (by kernel_rfl) ?_
     refine WA.t 0 rfl (V.move (OV.p rfl)) (WA.t 1 rfl (V.move (OV.p rfl)) (WA.t 2 rfl (V.move (OV.p rfl)) (WA.t 3 rfl (V.move (OV.p rfl)) ?_)))
     refine WA.t 4 rfl (V.bR AU (OV.p rfl) (OV.p rfl) (fun hc => by omega)) ?_
     refine WA.t 6 rfl (V.fieldAddr q9 (OV.p rfl)) ?_
     refine WA.t 7 rfl (V.load Tryz.isAgg3 (OV.p rfl) (fun _ => by repeat (first | exact Rd.here rfl | apply Rd.up))) ?_
     refine WA.two (i := 5) (j := 8) (fun w h => by repeat (first | exact h | replace h := h.tail)) (by kernel_rfl) rfl rfl ?_ ?_
     ·refine WL.val (V.load Tryz.isAgg24 (OV.p rfl) (fun _ => by repeat (first | exact Rd.here Qk | apply Rd.up))) rfl ?_
      refine WL.nil (WA.o 8 rfl ?_)
      refine WL.buildSlice (E := 3) (cs := [_]) (vs := [(0, _)]) ⟨OV.p rfl, trivial⟩ rfl (bT _) rfl (fun Ue => ?_)
      refine WL.nil (WA.o 9 rfl ?_)
      refine WL.sub (Sub.refl _) (fun w h => h.p1) ?_
      refine WL.append (m := q.l.length) (q := 1) (news := [.int .i64 x.block]) Tryz.underlying24 el3 (OV.p rfl) (OV.p rfl) (Seq.all rfl) (by intro u hu; rw [List.mem_singleton.1 hu]; rfl) (by omega) rfl rfl (fun A5 c5 EJ ny => ?_)
      refine WL.nil ?_
      refine WA.t 10 rfl (V.bR AU (OV.p rfl) (OV.p rfl) (fun hc => by omega)) ?_
      refine WA.o 11 rfl ?_
      refine WL.store (cs := [_]) Tryz.sizeOf24 (OV.p rfl) (OV.p rfl) rfl rfl rfl (bA.up (bA.up (bA.at_ (by rw [List.length_map]; omega)))) ?_
      refine WL.nil (WA.fin (WC.region (WL.ad rfl rfl rfl ?_)))
      refine WL.mv rfl rfl (WL.nil ?_)
      refine ⟨rfl, ?_⟩
      refine ⟨(k + 1, xD.set j ⟨A5, c5, q.l ++ [x.block]⟩), ⟨hkl, by show (xD.set _ _).length = aj; rw [List.length_set]; exact Bq, ?_⟩, (by show r.l.length - 1 - (k + 1) < r.l.length - 1 - k; omega), .cons rfl (.cons rfl (.cons rfl (.cons rfl (.cons rfl (.cons rfl (.cons rfl (.cons (look_eq rfl (by simp)) (.nil _)))))))), fun w h => ?_⟩
      · show (xD.set j _).map aX.l = _
        rw [List.map_set, OC, List.set_append_right _ _ (by omega), MX, Nat.sub_self, List.set_cons_zero, hlk, List.map_append, ← OT]; rfl
      · have h5 := h.sel 5 [0, 3, 2, 4] rfl
        have e1 : aU (.slice A5 (q.l.length + 1) c5) 3 1 (q.l.length + 1) (ints .i64 q.l ++ [.int .i64 x.block]) = aX.row ⟨A5, c5, q.l ++ [x.block]⟩ := by
          unfold aX.row
          rw [bf, List.length_append]; rfl
        rw [e1] at h5
        have h6 := Sat.Bn (l := xD.map aX.row) (k := j) (by rw [List.length_map]; omega) h5
        have e2 : (xD.map aX.v).set (0 + (j : Int).toNat * 1) (.slice A5 (q.l.length + 1) c5) = (xD.set j ⟨A5, c5, q.l ++ [x.block]⟩).map aX.v := by
          rw [show 0 + ((j : Nat) : Int).toNat * 1 = j by omega, List.map_set]
          show _ = (xD.map aX.v).set j (.slice A5 (q.l ++ [x.block]).length c5)
          rw [List.length_append]; rfl
        rw [e2, ← List.map_set] at h6
        exact h6.sel 4 [3, 1, 0] rfl
     ·refine WL.buildSlice (E := 3) (cs := [_]) (vs := [(0, _)]) ⟨OV.p rfl, trivial⟩ rfl (bT _) rfl (fun Ue => ?_)
      refine WL.nil (WA.o 5 rfl ?_)
      refine WL.val (V.load Tryz.isAgg24 (OV.p rfl) (fun _ => by repeat (first | exact Rd.here Qk | apply Rd.up))) rfl ?_
      refine WL.nil (WA.o 9 rfl ?_)
      refine WL.sub (Sub.refl _) (fun w h => h.p1) ?_
      refine WL.append (m := q.l.length) (q := 1) (news := [.int .i64 x.block]) Tryz.underlying24 el3 (OV.p rfl) (OV.p rfl) (Seq.all rfl) (by intro u hu; rw [List.mem_singleton.1 hu]; rfl) (by omega) rfl rfl (fun A5 c5 EJ ny => ?_)
      refine WL.nil ?_
      refine WA.t 10 rfl (V.bR AU (OV.p rfl) (OV.p rfl) (fun hc => by omega)) ?_
      refine WA.o 11 rfl ?_
      refine WL.store (cs := [_]) Tryz.sizeOf24 (OV.p rfl) (OV.p rfl) rfl rfl rfl (bA.up (bA.up (bA.at_ (by rw [List.length_map]; omega)))) ?_
      refine WL.nil (WA.fin (WC.region (WL.ad rfl rfl rfl ?_)))
      refine WL.mv rfl rfl (WL.nil ?_)
      refine ⟨rfl, ?_⟩
      refine ⟨(k + 1, xD.set j ⟨A5, c5, q.l ++ [x.block]⟩), ⟨hkl, by show (xD.set _ _).length = aj; rw [List.length_set]; exact Bq, ?_⟩, (by show r.l.length - 1 - (k + 1) < r.l.length - 1 - k; omega), .cons rfl (.cons rfl (.cons rfl (.cons rfl (.cons rfl (.cons rfl (.cons rfl (.cons (look_eq rfl (by simp)) (.nil _)))))))), fun w h => ?_⟩
      · show (xD.set j _).map aX.l = _
        rw [List.map_set, OC, List.set_append_right _ _ (by omega), MX, Nat.sub_self, List.set_cons_zero, hlk, List.map_append, ← OT]; rfl
      · have h5 := h.sel 5 [0, 3, 2, 4] rfl
        have e1 : aU (.slice A5 (q.l.length + 1) c5) 3 1 (q.l.length + 1) (ints .i64 q.l ++ [.int .i64 x.block]) = aX.row ⟨A5, c5, q.l ++ [x.block]⟩ := by
          unfold aX.row
          rw [bf, List.length_append]; rfl
        rw [e1] at h5
        have h6 := Sat.Bn (l := xD.map aX.row) (k := j) (by rw [List.length_map]; omega) h5
        have e2 : (xD.map aX.v).set (0 + (j : Int).toNat * 1) (.slice A5 (q.l.length + 1) c5) = (xD.set j ⟨A5, c5, q.l ++ [x.block]⟩).map aX.v := by
          rw [show 0 + ((j : Nat) : Int).toNat * 1 = j by omega, List.map_set]
          show _ = (xD.map aX.v).set j (.slice A5 (q.l ++ [x.block]).length c5)
          rw [List.length_append]; rfl
        rw [e2, ← List.map_set] at h6
        exact h6.sel 4 [3, 1, 0] rfl
    ·simp only [decide_eq_true_eq, decide_eq_false_iff_not] at hc3
     refine WC.exit (WC.region (WL.ad rfl rfl rfl ?_))
     refine WL.mv rfl rfl (WL.nil ?_)
     refine ⟨rfl, ?_⟩
     first
     | (refine ⟨(j + 1, xD), ⟨hjl, Bq, ?_⟩, (by show aj - (j + 1) < aj - j; omega), .cons rfl (.cons rfl (.cons rfl (.cons (look_eq rfl (by simp)) (.nil _)))), fun w h => h.sel 1 [] rfl⟩
        obtain rfl : k = r.l.length - 1 := by omega
        show xD.map aX.l = _
        rw [OC, htk, hsj, List.take_of_length_le (l := ll) (by omega), List.append_assoc]; rfl)
     | (refine ⟨(j + 1, cB), ⟨hjl, hil, ?_⟩, (by show aj - (j + 1) < aj - j; omega), .cons rfl (.cons rfl (.cons rfl (.cons (look_eq rfl (by simp)) (.nil _)))), fun w h => ?_⟩
        · show cB.map aX.l = _
          rw [his, htk, hsj, hrep, List.append_assoc]; rfl
        · rw [hdr, List.map_cons] at h
          have h4 := Sat.takeA (k := 0) (by simp) (h.sel 4 [3, 0, 1, 2] rfl)
          have h5 : Sat K w (r.row :: bG ((rs.drop (j + 1)).map bq.row) :: Cells b8 24 (cB.map aX.v) :: bG (cB.map aX.row) :: Cells bo 111 (rs.map bq.v) :: F) := h4
          exact h5.sel 5 [2, 3, 4, 1] rfl)
  ·simp only [decide_eq_true_eq, decide_eq_false_iff_not] at hc1
   refine WC.exit (WC.sr (WL.mv rfl rfl (WL.sg rfl rfl (WL.sg rfl rfl (WL.nil (WC.ret ?_))))))
   obtain rfl : j = aj := by omega
   refine au.ret (H' := Cells b8 24 (cB.map aX.v) :: bG (cB.map aX.row) :: F) (aO.fD rfl rfl rfl) (fun w h => h.sel 4 [0, 1] rfl) ⟨b8, cB, hil, ?_, rfl, rfl⟩
   rw [his, List.take_of_length_le (by omega), Nat.sub_self, List.replicate_zero, List.append_nil]
end
structure St where
  stands : List Int
  stale : List (List Int)
  (next at_ : Int)
  dead : Bool
def gY (S : ah) (aj : Nat) : St := ⟨fK aj S.bQ, kZ aj S.bQ, kg S.bQ, 0, false⟩
namespace St
def ready (T : St) (aB : Int) : Int := if T.dead then 70 else if aB < 0 ∨ (T.stands.length : Int) ≤ aB then 1 else 0
def told (T : St) (e : Int) : St := { T with dead := T.dead || decide (e = 70) }
def at' (T : St) (aB : Int) : Int := T.stands.getD aB.toNat 0
end St
structure bC where
  stands : List Int
  sA : Option Addr
  sc : Nat
  b8 : Nat
  cB : List aX
  (next at_ : Int)
  dead : Bool
namespace bC
def sem (T : bC) : St := ⟨T.stands, T.cB.map aX.l, T.next, T.at_, T.dead⟩
abbrev cells (T : bC) (bd : Nat) (g : Geo) : List Value := [ptr bd 0, .int .i64 g.bl, .int .i64 g.pg, .int .i64 g.se, .int .i64 g.sb, .int .i64 g.fl, .slice T.sA T.stands.length T.sc, .slice (some ⟨T.b8, 0, none⟩) T.cB.length T.cB.length, .int .i64 T.next, .int .i64 T.at_, .bool T.dead]
abbrev sl (T : bC) : ak := aU (.slice T.sA T.stands.length T.sc) 3 1 T.stands.length (ints .i64 T.stands)
abbrev parts (bs bd : Nat) (g : Geo) (T : bC) : List ak := [Cells bs 89 (T.cells bd g), T.sl, Cells T.b8 24 (T.cB.map aX.v), bG (T.cB.map aX.row)]
def A (bs bd : Nat) (g : Geo) (T : bC) : ak := bG (parts bs bd g T)
structure Ok (g : Geo) (T : bC) : Prop where
  len : T.cB.length = T.stands.length
  aj : 1 ≤ T.stands.length ∧ T.stands.length ≤ 64
  next : 1 ≤ T.next ∧ T.next ≤ 1000000001
  at_ : 0 ≤ T.at_ ∧ T.at_ < g.bl
  std : ∀ b ∈ T.stands, -1 ≤ b ∧ b < g.bl
end bC
theorem Seq.xK {K : World} {l H : List ak} {A : ak} {B : Option Addr} {m s : Nat} {vs : List Value} (hA : A ∈ l) (h : Seq K [A] B m s vs) : Seq K (bG l :: H) B m s vs := ⟨h.len, fun i v hi => Rd.xK hA (h.rd i v hi)⟩
section
variable {bs bd bc : Nat} {g : Geo} {T : bC} {C : Cw} {K : World} {F : List ak}
theorem bC.sK : bD K (bC.A bs bd g T :: F) bs 0 (T.cells bd g) := fun i v hi => by
  show Rd K (bG (bC.parts bs bd g T) :: F) _ v
  refine Rd.xK (A := Cells bs 89 (T.cells bd g)) (.head _) (Rd.here ?_)
  rw [Nat.zero_add]; exact hi
theorem bC.P6 : bD K (bC.A bs bd g T :: F) bs 1 [.int .i64 g.bl, .int .i64 g.pg, .int .i64 g.se, .int .i64 g.sb, .int .i64 g.fl] := fun i v hi => by
  have key : ∀ k v, (T.cells bd g)[k]? = some v → Rd K (bC.A bs bd g T :: F) (some ⟨bs, k, none⟩) v := fun k v hk => by
    have := bC.sK (K := K) (F := F) (bs := bs) (bd := bd) (g := g) (T := T) k v hk
    rwa [Nat.zero_add] at this
  match i, hi with
  | 0, hi => exact key 1 v hi
  | 1, hi => exact key 2 v hi
  | 2, hi => exact key 3 v hi
  | 3, hi => exact key 4 v hi
  | 4, hi => exact key 5 v hi
theorem bC.Qq : Seq K (bC.A bs bd g T :: F) T.sA T.stands.length 1 (ints .i64 T.stands) :=
  Seq.xK (A := T.sl) (l := bC.parts bs bd g T) (.tail _ (.head _)) (aU.seq (by rw [aG, Nat.mul_one]))
theorem bC.Ro {aB : Int} (h : 0 ≤ aB ∧ aB < T.stands.length) : Rd K (bC.A bs bd g T :: F) (T.sA.map (·.add (aB.toNat * 1))) (.int .i64 (T.sem.at' aB)) := Seq.iY bC.Qq h
theorem Does.Oy {f : FuncId} {args : Array Value} {post : Value → List ak → Prop} (h : Does Tryz.prog f args K (bC.parts bs bd g T ++ F) post) : Does Tryz.prog f args K (bC.A bs bd g T :: F) post := h.sat fun w hw => hw.uF
theorem MN {aj : Nat} {fs : List Fd} {B : Int} (h : ∀ x ∈ fs, 0 ≤ x.block ∧ x.block < B) (hB : 0 < B) : ∀ b ∈ fK aj fs, -1 ≤ b ∧ b < B := fun b hb => by
  unfold fK at hb
  obtain ⟨l, hl, rfl⟩ := List.mem_map.1 hb
  unfold gF at hl
  obtain ⟨aB, _, rfl⟩ := List.mem_map.1 hl
  unfold lastB
  cases hx : (dz (ltOf lS) (fs.filter (jW aB))).getLast? with
  | none => exact ⟨by decide, by dsimp only; omega⟩
  | some x =>
    have h1 := rE.1 (List.mem_of_getLast? hx)
    have := h x (List.mem_filter.1 h1).1
    exact ⟨by dsimp only; omega, this.2⟩
theorem qQ {S : ah} {b : Int} {x : Fd} (hg : S.g.aD) (h : S.iA b = some x) : x.block = b ∧ x.hd.may S.g = true := by
  unfold ah.iA at h
  split at h
  · cases h
  · split at h
    · cases h
    · rename_i hp
      injection h with h
      subst h
      exact ⟨rfl, (rC hg hp).2.1⟩
theorem pI {S : ah} (hg : S.g.aD) : ∀ x ∈ S.bQ, (0 ≤ x.block ∧ x.block < S.g.bl) ∧ x.hd.may S.g = true := fun x hx => by
  unfold ah.bQ at hx
  obtain ⟨b, hb, hs⟩ := List.mem_filterMap.1 hx
  obtain ⟨h1, h2⟩ := qQ hg hs
  have h3 := ah.kY S _ b hb
  unfold Geo.aD at hg
  exact ⟨by rw [h1]; omega, h2⟩
theorem Hd.Ei {g : Geo} {h : Hd} (hm : h.may g = true) : 1 ≤ h.num ∧ h.num ≤ 1000000000 := by
  unfold Hd.may at hm
  simp only [Bool.and_eq_true, decide_eq_true_eq] at hm
  exact ⟨hm.1.2, hm.2⟩
theorem AL {c : Fd → Fd → Int} {fs : List Fd} (h0 : 0 < fs.length) : ∀ k, k < fs.length → qG c fs k ∈ fs
  | 0, _ => by show fs.getD 0 fd0 ∈ fs; simp only [List.getD, List.getElem?_eq_getElem h0]; exact List.getElem_mem _
  | k + 1, hk => by
    rw [qG]
    split
    · simp only [List.getD, List.getElem?_eq_getElem hk]; exact List.getElem_mem _
    · exact AL h0 k (by omega)
theorem FR {fs : List Fd} (h : ∀ x ∈ fs, 1 ≤ x.hd.num ∧ x.hd.num ≤ 1000000000) : 1 ≤ kg fs ∧ kg fs ≤ 1000000001 := by
  unfold kg
  split
  · omega
  · have := h _ (AL (c := yt) (by omega) (fs.length - 1) (by omega))
    omega
theorem y9 (hC : C.Ok) (hg : C.g = g) {aj : Nat} (hl : 1 ≤ aj ∧ aj ≤ 64) (h19 : g.bl ≤ 19) (he : C.sem.gV = 0) : Does Tryz.prog 41 #[ptr bd 0, .int .i64 (aj : Int)] K (C.A bc :: bK bd bc g :: F)
    (fun v H' => ∃ bs : Nat, ∃ T : bC, T.Ok g ∧ T.sem = gY C.sem aj ∧ v = .tuple #[ptr bs 0, .int .i64 0] ∧ H' = C.A bc :: bK bd bc g :: T.A bs bd g :: F) := by
  have hgm : g.aD := by rw [← hg]; exact hC.aD
  have hgb := hgm
  unfold Geo.aD at hgb
  have hsf := pI (S := C.sem) hC.aD
  have hfl : C.sem.bQ.length ≤ 19 := by
    have h1 := ah.fF C.sem C.sem.g.bl.toNat
    have h2 : C.sem.g.bl.toNat ≤ 19 := by rw [show C.sem.g = C.g from rfl, hg]; omega
    unfold ah.bQ
    refine Nat.le_trans (List.length_filterMap_le _ _) ?_
    unfold ah.good; omega
  obtain ⟨fs, hfs⟩ : ∃ fs, fs = C.sem.bQ := ⟨_, rfl⟩
  have hnx := FR (fs := fs) (fun x hx => Hd.Ei (hsf x (by rw [← hfs]; exact hx)).2)
  refine Does.enter Tryz.func41 rfl Tryz.ntmps41 rfl ?_
  simp only [aI, Nat.reduceAdd]
  refine WC.sr (WL.sg rfl rfl (WL.sg rfl rfl (WL.nil (WC.seq (WC.sr (WL.mv rfl rfl (WL.val (V.lQ Tryz.underlying58 (OV.p rfl) (OV.p rfl)) rfl (WL.nil ?_))))))))
  refine WC.aQ rfl (by first | rfl | (simp; done) | (simp; omega)) ?_
  refine WC.skip (WC.seq (WC.sr (WL.mv rfl rfl (WL.val (V.lss (OV.p rfl) (OV.p rfl)) rfl (WL.mv rfl rfl (WL.av (oj := _) rfl rfl rfl GC.f (V.move (OV.p rfl)) rfl (WL.av (oj := _) rfl rfl rfl GC.f (V.gtr (OV.g rfl id) (OV.p rfl)) rfl (WL.val (V.bH (OV.p rfl) (OV.g rfl id)) rfl (WL.nil ?_)))))))))
  refine WC.aQ rfl ((by simp; omega)) ?_
  refine WC.skip (WC.sr (WL.mv rfl rfl (WL.call (vs := [_]) Tryz.call73 ⟨OV.p rfl, trivial⟩ (xL hC hg h19 he) rfl ?_)))
  rintro _ _ ⟨Af, cf, rfl, rfl⟩
  rw [← hfs] at hfl hsf ⊢
  refine WL.mv rfl rfl (WL.xt rfl rfl rfl (WL.xt rfl rfl rfl (WL.sg rfl rfl (WL.sg rfl rfl (WL.nil (WC.seq (WC.sr (WL.mv rfl rfl (WL.val (V.neq (OV.p rfl) (OV.p rfl)) rfl (WL.nil ?_))))))))))
  refine WC.aQ rfl (by first | rfl | (simp; done) | (simp; omega)) ?_
  refine WC.skip (WC.sr (WL.mv rfl rfl (WL.mv rfl rfl (WL.call (vs := [_]) Tryz.call74 ⟨OV.p rfl, trivial⟩ (iw) rfl ?_))))
  rintro _ H0 ⟨rfl, h0⟩
  subst H0
  refine WL.val (V.build (vs := [(0, _), (1, _)]) ⟨OV.p rfl, OV.p rfl, trivial⟩ rfl (JJ _ _ _ _ _ _)) rfl ?_
  refine WL.box (cs := [_, _, _, _, _, _, _, _, _, _, _]) (OV.p rfl) rfl rfl (fun J2 => ?_)
  refine WL.sg rfl rfl (WL.nil (WC.sr (WL.mv rfl rfl (WL.mv rfl rfl (WL.mv rfl rfl (WL.mv rfl rfl ?_))))))
  refine WL.call (vs := [_, _]) Tryz.call75 ⟨OV.p rfl, OV.p rfl, trivial⟩ (xH (fs := fs) hl (by repeat (first | exact aU.seq (dN _) | apply Seq.up)) rfl (by omega) (fun x hx => by have := Hd.Ei (hsf x hx).2; omega)) rfl ?_
  rintro _ _ ⟨Ap, cp, rfl, rfl⟩
  refine WL.mv rfl rfl (WL.xt rfl rfl rfl (WL.xt rfl rfl rfl (WL.xt rfl rfl rfl (WL.nc rfl rfl (WL.val (V.fieldAddr lJ (OV.p rfl)) rfl ?_)))))
  refine WL.store (cs := [_]) Tryz.sizeOf24 (OV.p rfl) (OV.p rfl) rfl rfl rfl (by repeat (first | exact bA.here (cs' := [_, _, _, _, _, _, _, _, _, _, _]) rfl rfl | apply bA.up)) ?_
  refine WL.nc rfl rfl (WL.val (V.fieldAddr kD (OV.p rfl)) rfl ?_)
  refine WL.store (cs := [_]) Tryz.sizeOf3 (OV.p rfl) (OV.p rfl) rfl rfl rfl (by repeat (first | exact bA.here (cs' := [_, _, _, _, _, _, _, _, _, _, _]) rfl rfl | apply bA.up)) ?_
  refine WL.nil (WC.sr (WL.mv rfl rfl (WL.mv rfl rfl (WL.mv rfl rfl ?_))))
  refine WL.call (vs := [_, _]) Tryz.call76 ⟨OV.p rfl, OV.p rfl, trivial⟩ (En (fs := fs) hl (by repeat (first | exact aU.seq (dN _) | apply Seq.up)) rfl (by omega)) rfl ?_
  rintro _ _ ⟨b8, cB, hil, his, rfl, rfl⟩
  refine WL.mv rfl rfl (WL.xt rfl rfl rfl (WL.xt rfl rfl rfl (WL.nc rfl rfl (WL.val (V.fieldAddr tQ (OV.p rfl)) rfl ?_))))
  refine WL.store (cs := [_]) Tryz.sizeOf87 (OV.p rfl) (OV.p rfl) rfl rfl rfl (by repeat (first | exact bA.here (cs' := [_, _, _, _, _, _, _, _, _, _, _]) rfl rfl | apply bA.up)) ?_
  refine WL.nil (WC.sr (WL.mv rfl rfl (WL.sg rfl rfl (WL.sg rfl rfl (WL.nil (WC.ret ?_))))))
  obtain ⟨T, hT⟩ : ∃ T : bC, T = ⟨fK aj fs, Ap, cp, b8, cB, kg fs, 0, false⟩ := ⟨_, rfl⟩
  have hpl := jm aj fs
  refine au.ret (H' := C.A bc :: bK bd bc g :: T.A J2 bd g :: F) (aO.fD rfl rfl rfl) (fun w h => ?_) ⟨J2, T, ?_, ?_, rfl, rfl⟩
  · have h1 := h.sel 7 [3, 2, 0, 1, 4, 5] rfl
    have h2 := Sat.all (l := bC.parts J2 bd g T) (H := C.A bc :: bK bd bc g :: F) (K := K) (w := w) (by
      unfold bC.parts bC.cells bC.sl
      rw [hT]
      dsimp only
      rw [hpl, hil]
      exact h1)
    exact h2.sel 3 [1, 2, 0] rfl
  · rw [hT]
    refine ⟨by show cB.length = (fK aj fs).length; omega, by show 1 ≤ (fK aj fs).length ∧ (fK aj fs).length ≤ 64; omega, by show 1 ≤ kg fs ∧ kg fs ≤ 1000000001; omega, by show (0 : Int) ≤ 0 ∧ 0 < g.bl; omega, ?_⟩
    exact MN (fun x hx => by have := (hsf x hx).1; rw [show C.sem.g = C.g from rfl, hg] at this; exact this) (by omega)
  · rw [hT]
    unfold bC.sem gY
    rw [← hfs, his]
theorem Ia : aL Tryz.prog 13 #[ptr bs 0] K (T.A bs bd g :: F) (.int .i64 (T.stands.length : Int)) := by
  refine Does.enter Tryz.func13 rfl Tryz.ntmps13 rfl ?_
  simp only [aI, Nat.reduceAdd]
  refine WC.sr (WL.sg rfl rfl (WL.nil (WC.seq (WC.sr (WL.mv rfl rfl (WL.val (V.lQ Tryz.underlying33 (OV.p rfl) (OV.p rfl)) rfl (WL.nil ?_)))))))
  refine WC.aQ rfl (by first | rfl | (simp; done) | (simp; omega)) ?_
  refine WC.skip (WC.sr (WL.mv rfl rfl (WL.nc rfl rfl (WL.val (V.fieldAddr lJ (OV.p rfl)) rfl ?_))))
  refine WL.val (V.load Tryz.isAgg24 (OV.p rfl) (fun _ => bC.sK 6 _ rfl)) rfl ?_
  refine WL.val (V.len (t := 24) Tryz.runUnderlying24 (OV.p rfl)) rfl (WL.sg rfl rfl (WL.nil (WC.ret ?_)))
  exact au.ret (H' := T.A bs bd g :: F) (aO.tmp rfl rfl) (fun w h => h) ⟨rfl, rfl⟩
theorem Kk (hg : g.aD) : aL Tryz.prog 14 #[ptr bs 0] K (T.A bs bd g :: F) (.int .i64 g.cap) := by
  refine Does.enter Tryz.func14 rfl Tryz.ntmps14 rfl ?_
  simp only [aI, Nat.reduceAdd]
  refine WC.sr (WL.sg rfl rfl (WL.nil (WC.seq (WC.sr (WL.mv rfl rfl (WL.val (V.lQ Tryz.underlying33 (OV.p rfl) (OV.p rfl)) rfl (WL.nil ?_)))))))
  refine WC.aQ rfl (by first | rfl | (simp; done) | (simp; omega)) ?_
  refine WC.skip (WC.sr (WL.mv rfl rfl (WL.nc rfl rfl (WL.val (V.fieldAddr mP (OV.p rfl)) rfl ?_))))
  refine WL.val (V.bB (vs := [.int .i64 g.bl, .int .i64 g.pg, .int .i64 g.se, .int .i64 g.sb, .int .i64 g.fl]) ⟨Tryz.isAgg23, Tryz.sizeOf23⟩ (OV.p rfl) rfl (fun _ => bC.P6)) rfl ?_
  refine WL.call (vs := [_]) Tryz.call49 ⟨OV.p rfl, trivial⟩ (EF hg) rfl ?_
  rintro _ H0 ⟨rfl, h0⟩
  subst H0
  refine WL.mv rfl rfl (WL.xt rfl rfl rfl (WL.xt rfl rfl rfl (WL.sg rfl rfl (WL.sg rfl rfl (WL.nil (WC.sr (WL.mv rfl rfl (WL.sg rfl rfl (WL.nil (WC.ret ?_))))))))))
  exact au.ret (H' := T.A bs bd g :: F) (aO.tmp rfl rfl) (fun w h => h) ⟨rfl, rfl⟩
theorem qC (aB : Int) : aL Tryz.prog 51 #[ptr bs 0, .int .i64 aB] K (T.A bs bd g :: F) (.int .i64 (T.sem.ready aB)) := by
  obtain ⟨X, hX⟩ : ∃ X, X = T.sem.ready aB := ⟨_, rfl⟩
  rw [← hX]
  unfold St.ready bC.sem at hX
  dsimp only at hX
  refine Does.enter Tryz.func51 rfl Tryz.ntmps51 rfl ?_
  simp only [aI, Nat.reduceAdd]
  refine WC.sr (WL.sg rfl rfl (WL.nil (WC.seq (WC.block (WC.sr (WL.mv rfl rfl (WL.val (V.lQ Tryz.underlying33 (OV.p rfl) (OV.p rfl)) rfl (WL.sg rfl rfl (WL.nil ?_)))))))))
  refine WC.aQ rfl (by first | rfl | (simp; done) | (simp; omega)) ?_
  refine WC.sr (WL.mv rfl rfl (WL.nc rfl rfl (WL.val (V.fieldAddr HZ (OV.p rfl)) rfl ?_)))
  refine WL.val (V.load Tryz.isAgg4 (OV.p rfl) (fun _ => bC.sK 10 _ rfl)) rfl ?_
  refine WL.sg rfl rfl (WL.nil ?_)
  refine WC.cond rfl (fun hc1 => ?_) (fun hc1 => ?_)
  ·skip
   have h1 := hc1
   rw [h1] at hX
   refine WC.sr (WL.sg rfl rfl (WL.nil (WC.ret ?_)))
   exact au.ret (H' := T.A bs bd g :: F) (aO.tmp rfl rfl) (fun w h => h) ⟨by rw [hX]; rfl, rfl⟩
  ·skip
   have h1 := hc1
   rw [h1] at hX
   rw [if_neg Bool.false_ne_true] at hX
   refine WC.sr (WL.mv rfl rfl (WL.val (V.lss (OV.p rfl) (OV.p rfl)) rfl (WL.mv rfl rfl (WL.av (oj := _) rfl rfl rfl GC.f (V.move (OV.p rfl)) rfl (WL.av (oj := _) rfl rfl rfl GC.f (V.move (OV.p rfl)) rfl (WL.av (oj := _) rfl rfl rfl GC.f (V.nilCheck (OV.g rfl id)) rfl (WL.av (oj := _) rfl rfl rfl GC.f (V.fieldAddr lJ (OV.g rfl id)) rfl ?_)))))))
   refine WL.av (oj := _) rfl rfl rfl GC.f (V.load Tryz.isAgg24 (OV.g rfl id) (fun _ => bC.sK 6 _ rfl)) rfl ?_
   refine WL.av (oj := _) rfl rfl rfl GC.f (V.len (t := 24) Tryz.runUnderlying24 (OV.g rfl id)) rfl (WL.av (oj := _) rfl rfl rfl GC.f (V.geq (OV.g rfl id) (OV.g rfl id)) rfl (WL.val (V.bH (OV.p rfl) (OV.g rfl id)) rfl (WL.sg rfl rfl (WL.nil ?_))))
   refine WC.cond rfl (fun hc2 => ?_) (fun hc2 => ?_)
   ·simp only [Bool.or_eq_true, Bool.or_eq_false_iff, decide_eq_true_eq, decide_eq_false_iff_not] at hc2
    have h2 := hc2
    rw [if_pos h2] at hX
    refine WC.sr (WL.sg rfl rfl (WL.nil (WC.ret ?_)))
    exact au.ret (H' := T.A bs bd g :: F) (aO.tmp rfl rfl) (fun w h => h) ⟨by rw [hX], rfl⟩
   ·simp only [Bool.or_eq_true, Bool.or_eq_false_iff, decide_eq_true_eq, decide_eq_false_iff_not] at hc2
    have h2 := hc2
    rw [if_neg (by rintro (h | h); exact h2.1 h; exact h2.2 h)] at hX
    refine WC.skip (WC.sr (WL.sg rfl rfl (WL.nil (WC.ret ?_))))
    exact au.ret (H' := T.A bs bd g :: F) (aO.tmp rfl rfl) (fun w h => h) ⟨by rw [hX], rfl⟩
def bC.told (T : bC) (e : Int) : bC := { T with dead := T.dead || decide (e = 70) }
theorem bC.Ok.told {T : bC} (h : T.Ok g) (e : Int) : (T.told e).Ok g := ⟨h.len, h.aj, h.next, h.at_, h.std⟩
theorem lF (e : Int) : Does Tryz.prog 55 #[ptr bs 0, .int .i64 e] K (T.A bs bd g :: F) (fun v H' => v = .int .i64 e ∧ H' = (T.told e).A bs bd g :: F) := by
  refine Does.Oy ?_
  dsimp only [bC.parts, List.cons_append, List.nil_append]
  refine Does.enter Tryz.func55 rfl Tryz.ntmps55 rfl ?_
  simp only [aI, Nat.reduceAdd]
  refine WC.sr (WL.sg rfl rfl (WL.nil (WC.sr (WL.mv rfl rfl (WL.mv rfl rfl (WL.nc rfl rfl (WL.val (V.fieldAddr HZ (OV.p rfl)) rfl (WL.ld Tryz.isAgg4 rfl rfl ?_))))))))
  refine WL.mv rfl rfl (WL.av (oj := _) rfl rfl rfl GC.f (V.move (OV.p rfl)) rfl (WL.av (oj := _) rfl rfl rfl GC.f (V.eql (OV.g rfl id) (OV.p rfl)) rfl (WL.val (V.bH (OV.p rfl) (OV.g rfl id)) rfl (WL.nc rfl rfl (WL.val (V.fieldAddr HZ (OV.p rfl)) rfl ?_)))))
  refine WL.store (cs := [_]) Tryz.sizeOf4 (OV.p rfl) (OV.p rfl) rfl rfl rfl (by repeat (first | exact bA.here rfl rfl | apply bA.up)) ?_
  refine WL.nil (WC.sr (WL.mv rfl rfl (WL.sg rfl rfl (WL.nil (WC.ret ?_)))))
  exact au.ret (H' := (T.told e).A bs bd g :: F) (aO.tmp rfl rfl) (fun w h => Sat.all (l := bC.parts bs bd g (T.told e)) h) ⟨rfl, rfl⟩
theorem Gq (hC : C.Ok) (hg : C.g = g) : aL Tryz.prog 56 #[ptr bs 0] K (C.A bc :: bK bd bc g :: T.A bs bd g :: F) (.int .i64 (if C.sem.gV = 70 then 70 else 6)) := by
  refine Does.enter Tryz.func56 rfl Tryz.ntmps56 rfl ?_
  simp only [aI, Nat.reduceAdd]
  refine WC.sr (WL.sg rfl rfl (WL.nil (WC.seq (WC.sr (WL.mv rfl rfl (WL.nc rfl rfl (WL.val (V.fieldAddr sU (OV.p rfl)) rfl ?_)))))))
  refine WL.val (V.load Tryz.isAgg58 (OV.p rfl) (fun _ => Rd.up (Rd.up (bC.sK 0 _ rfl)))) rfl ?_
  refine WL.call (vs := [_, _, _]) Tryz.call88 ⟨OV.p rfl, OV.p rfl, OV.p rfl, trivial⟩ (oh hC hg 0 0 (by decide)) rfl ?_
  rintro _ H0 ⟨rfl, h0⟩
  subst H0
  refine WL.mv rfl rfl (WL.xt rfl rfl rfl (WL.xt rfl rfl rfl (WL.sg rfl rfl (WL.sg rfl rfl (WL.nil (WC.sr (WL.mv rfl rfl (WL.val (V.eql (OV.p rfl) (OV.p rfl)) rfl (WL.nil ?_)))))))))
  refine WC.cond rfl (fun hc0 => ?_) (fun hc0 => ?_)
  ·simp only [decide_eq_true_eq, decide_eq_false_iff_not] at hc0
   have h0 := hc0
   refine WC.sr (WL.mv rfl rfl (WL.sg rfl rfl (WL.nil (WC.ret ?_))))
   exact au.ret (H' := C.A bc :: bK bd bc g :: T.A bs bd g :: F) (aO.tmp rfl rfl) (fun w h => h) ⟨by rw [if_pos (show C.sem.gV = 70 from h0)]; exact congrArg _ h0, rfl⟩
  ·simp only [decide_eq_true_eq, decide_eq_false_iff_not] at hc0
   have h0 := hc0
   refine WC.skip (WC.sr (WL.sg rfl rfl (WL.nil (WC.ret ?_))))
   exact au.ret (H' := C.A bc :: bK bd bc g :: T.A bs bd g :: F) (aO.tmp rfl rfl) (fun w h => h) ⟨by rw [if_neg (show ¬ C.sem.gV = 70 from h0)], rfl⟩
end
end Go.Proofs.YtcmojpiokjhmhaaGreat
