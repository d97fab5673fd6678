import Derived.Test.YtcedojacbhnbiaaGreatP20
namespace Go.Proofs.YtcedojacbhnbiaaGreat
open Go.Sl Go.RowKit
set_option linter.unusedVariables false
set_option linter.unusedSimpArgs false
set_option maxRecDepth 20000
def aY.sort (c : Fd → Fd → Int) (x : aY) : aY := { x with l := bX (ltOf c) x.l }
theorem aY.Nz (c : Fd → Fd → Int) (x : aY) : (x.sort c).v = x.v := by
  show Value.slice x.A (bX (ltOf c) x.l).length x.c = _
  rw [eT]
def Nl : aY := ⟨none, 0, []⟩
def jH (c : Fd → Fd → Int) (rs : List aY) : Nat → List aY
  | 0 => rs
  | j + 1 => (jH c rs j).set j ((rs.getD j Nl).sort c)
theorem jW (c : Fd → Fd → Int) (rs : List aY) : ∀ j, (jH c rs j).length = rs.length
  | 0 => rfl
  | j + 1 => by rw [jH, List.length_set, jW]
theorem ql (c : Fd → Fd → Int) (rs : List aY) : ∀ j, j ≤ rs.length → ∀ i, (jH c rs j)[i]? = if i < j then (rs[i]?).map (aY.sort c) else rs[i]?
  | 0, _, i => by simp [jH]
  | j + 1, hj, i => by
    rw [jH, List.getElem?_set, jW, ql c rs j (by omega)]
    by_cases h : j = i
    · subst h
      rw [if_pos rfl, if_pos (by omega), if_pos (by omega)]
      simp [List.getD, show j < rs.length by omega]
    · rw [if_neg h]
      by_cases h2 : i < j
      · rw [if_pos h2, if_pos (by omega)]
      · rw [if_neg h2, if_neg (by omega)]
theorem LW (c : Fd → Fd → Int) (rs : List aY) (j : Nat) (hj : j ≤ rs.length) : (jH c rs j).map aY.v = rs.map aY.v := by
  apply List.ext_getElem?
  intro i
  rw [List.getElem?_map, List.getElem?_map, ql c rs j hj]
  split
  · rw [Option.map_map]
    congr 1
    funext x
    exact aY.Nz c x
  · rfl
theorem L8 (c : Fd → Fd → Int) (rs : List aY) : (jH c rs rs.length).map aY.l = (rs.map aY.l).map (bX (ltOf c)) := by
  apply List.ext_getElem?
  intro i
  rw [List.getElem?_map, List.getElem?_map, List.getElem?_map, ql c rs _ (Nat.le_refl _)]
  by_cases h : i < rs.length
  · rw [if_pos h, Option.map_map, Option.map_map]; rfl
  · rw [if_neg h, List.getElem?_eq_none (by omega)]; rfl
theorem iJ (l : List Fd) (x : Fd) : bJ (l ++ [x]) = bJ l ++ x.cells := by simp [bJ]
theorem um {K : World} {F : List au} {A : Option Addr} {n : Nat} {fs : List Fd} (hs : Seq K F A n 5 (bJ fs)) {k : Nat} {x : Fd} (hx : fs[k]? = some x) {j : Nat} {v : Value} (hj : x.cells[j]? = some v) : Rd K F (A.map (·.add (k * 5 + j))) v :=
  hs.rd _ _ (flat_get (s := 5) Fd.len fs k j x v hx hj)
section
variable {K : World} {F : List au}
def Ga (f : Nat) (c : Fd → Fd → Int) (ys : List Fd) : Prop := ∀ (K : World) (F : List au) (A : Option Addr) (cap : Nat), Does Tryz.prog 168 #[.slice A ys.length cap, .func (.func f) #[] #[]] K (bC (.slice A ys.length cap) 237 5 ys.length (bJ ys) :: F)
  (fun v H' => ∀ w, Sat K w H' → Sat K w (bC (.slice A ys.length cap) 237 5 ys.length (bJ (bX (ltOf c) ys)) :: F))
theorem qJ {f : Nat} {c : Fd → Fd → Int} (hf : wm f c) {av n cap : Nat} {A : Option Addr} {fs : List Fd} (hl : 1 ≤ av ∧ av ≤ 64) (hs : Seq K F A n 5 (bJ fs)) (hn : fs.length = n) (h20 : n < 1000) (hso : ∀ aI, aI < av → Ga f c (fs.filter (jh aI))) :
    Does Tryz.prog 163 #[.int .i64 (av : Int), .slice A n cap, .func (.func f) #[] #[]] K F
      (fun v H' => ∃ bo : Nat, ∃ rs : List aY, rs.length = av ∧ rs.map aY.l = (fE av fs).map (bX (ltOf c)) ∧ v = .tuple #[.slice (some ⟨bo, 0, none⟩) av av, .int .i64 0] ∧ H' = Cells bo 170 (rs.map aY.v) :: bH (rs.map aY.row) :: F) := by
  refine Does.enter Tryz.func163 rfl Tryz.ntmps163 rfl ?_
  simp only [aJ, Nat.reduceAdd]
  refine WC.sr (WL.sg rfl rfl (WL.sg rfl rfl (WL.nil (WC.seq (WC.sr (WL.mv rfl rfl (WL.val (V.lss (OV.p rfl) (OV.p rfl)) rfl (WL.mv rfl rfl (WL.ah (oj := _) rfl rfl rfl GC.f (V.move (OV.p rfl)) rfl (WL.ah (oj := _) rfl rfl rfl GC.f (V.gtr (OV.g rfl id) (OV.p rfl)) rfl (WL.val (V.aS (OV.p rfl) (OV.g rfl id)) rfl (WL.nil ?_))))))))))))
  refine WC.aM rfl ((by simp; omega)) ?_
  refine WC.skip (WC.sr (WL.mv rfl rfl ?_))
  refine WL.l7 (m := av) Tryz.underlying238 Og (OV.p rfl) (OV.p rfl) rfl rfl (by omega) rfl rfl rfl (fun bo => ?_)
  refine WL.sg rfl rfl (WL.nil (WC.seq (WC.sr (WL.mv rfl rfl (WL.val (V.len (t := 170) Tryz.runUnderlying170 (OV.p rfl)) rfl (WL.mv rfl rfl (WL.nil (WC.block ?_))))))))
  refine WC.loop (σ := Nat × List aY) (fun s => [(0, .int .i64 (av : Int)), (2, .func (.func f) #[] #[]), (8, .slice (some ⟨bo, 0, none⟩) av av), (22, .slice A n cap), (23, .int .i64 (n : Int)), (24, .int .i64 (s.1 : Int))]) (fun s => Cells bo 170 (s.2.map aY.v) :: bH (s.2.map aY.row) :: F) (fun s => s.1 ≤ n ∧ s.2.length = av ∧ s.2.map aY.l = fE av (fs.take s.1)) (fun s => n - s.1) (0, List.replicate av Nl) ⟨Nat.zero_le _, List.length_replicate, by
    rw [List.map_replicate]
    apply List.ext_getElem
    · simp [fE]
    · intro i h1 h2; simp [fE, Nl]⟩ (.cons rfl (.cons rfl (.cons rfl (.cons rfl (.cons rfl (.cons rfl (.nil _))))))) (fun w h => by
    dsimp only
    rw [List.map_replicate, List.map_replicate]
    have key : ∀ m, ∀ H, Sat K w H → Sat K w (List.replicate m Nl.row ++ H) := fun m => by
      induction m with
      | zero => intro H h; exact h
      | succ m ih => intro H h; exact Sat.iA (ih H h) _ _
    have h1 : Sat K w (List.replicate av Nl.row ++ (Cells bo 170 (List.replicate av Nl.v) :: F)) := key av _ h
    exact (Sat.all h1).p1) ?_
  rintro ⟨k, rs⟩ ⟨hk, hrl, hrs⟩
  dsimp only at hk hrl hrs ⊢
  refine WC.sr (WL.val (V.lss (OV.p rfl) (OV.p rfl)) rfl (WL.nil (WC.seq ?_)))
  refine WC.cond rfl (fun hc1 => ?_) (fun hc1 => ?_)
  ·simp only [decide_eq_true_eq, decide_eq_false_iff_not] at hc1
   obtain ⟨x, hx⟩ : ∃ x, fs[k]? = some x := ⟨_, List.getElem?_eq_getElem (by omega)⟩
   have hel : ∀ (j : Nat) v, x.cells[j]? = some v → Rd K F (A.map (·.add (k * 5 + j))) v := fun j v hj => um hs hx hj
   have htk : fs.take (k + 1) = fs.take k ++ [x] := by rw [List.take_add_one, hx]; rfl
   have hti : (k : Int).toNat = k := by omega
   refine WC.skip (WC.seq (WC.block (WC.sr ?_)))
   refine WL.val (V.aA (v' := sp A (k * 5)) (V.fu kH (OV.p rfl) (OV.p rfl) (fun hc => by omega) (fun hc => by rw [hti]; repeat (first | exact hel 0 _ rfl | apply Rd.up))) (fun _ => by rw [hti])) rfl ?_
   refine WL.val (V.EX (vs := x.cells) ⟨Tryz.isAgg237, Tryz.sizeOf237⟩ (OV.p rfl) rfl (by decide) (fun _ j v hj => by repeat (first | exact hel j v hj | apply Rd.up))) rfl ?_
   refine WL.alloc (cs := [(.int .i64 0), (.int .i64 0), (.int .i64 0), (.int .i64 0), (.bool false)]) Tryz.zeroValue237 rfl rfl (fun b10 => ?_)
   refine WL.store (cs := [_, _, _, _, _]) Tryz.sizeOf237 (OV.p rfl) (OV.p rfl) rfl rfl rfl (by repeat (first | exact aQ.here (cs' := [_, _, _, _, _]) rfl rfl | apply aQ.up)) ?_
   refine WL.nil (WC.sr (WL.val (V.fieldAddr lD (OV.p rfl)) rfl (WL.val (V.fieldAddr xG (OV.p rfl)) rfl (WL.ld Tryz.isAgg3 rfl rfl ?_))))
   refine WL.sg rfl rfl (WL.nil (WC.sr (WL.val (V.fieldAddr Ma (OV.p rfl)) rfl (WL.ld Tryz.isAgg4 rfl rfl ?_))))
   refine WL.mv rfl rfl (WL.ah (oj := _) rfl rfl rfl GC.t (V.move (OV.p rfl)) rfl (WL.ah (oj := _) rfl rfl rfl GC.t (V.geq (OV.g rfl id) (OV.p rfl)) rfl (WL.val (V.aD (OV.p rfl) (OV.g rfl id)) rfl (WL.mv rfl rfl (WL.ah (oj := _) rfl rfl rfl GC.t (V.move (OV.p rfl)) rfl (WL.ah (oj := _) rfl rfl rfl GC.t (V.move (OV.p rfl)) rfl (WL.ah (oj := _) rfl rfl rfl GC.t (V.lss (OV.g rfl id) (OV.g rfl id)) rfl (WL.val (V.aD (OV.p rfl) (OV.g rfl id)) rfl (WL.nil ?_)))))))))
   refine WC.cond rfl (fun hc2 => ?_) (fun hc2 => ?_)
   ·simp only [Bool.and_eq_true, Bool.and_eq_false_iff, decide_eq_true_eq, decide_eq_false_iff_not] at hc2
    have h2 := hc2
    obtain ⟨lb, hlb⟩ : ∃ lb : Nat, x.hd.aI = (lb : Int) := ⟨x.hd.aI.toNat, by omega⟩
    have hll : lb < av := by omega
    obtain ⟨r, hr⟩ : ∃ r, r = rs[lb]'(by omega) := ⟨_, rfl⟩
    have hrg : rs[lb]? = some r := by rw [hr]; exact List.getElem?_eq_getElem (by omega)
    have hrl2 : r.l = (fs.take k).filter (jh lb) := by
      have h3 : (rs.map aY.l)[lb]? = some r.l := by rw [List.getElem?_map, hrg]; rfl
      rw [hrs] at h3
      simp only [fE, List.getElem?_map, List.getElem?_range hll, Option.map_some] at h3
      injection h3 with h3
      exact h3.symm
    have hrb : r.l.length ≤ 1000 := by rw [hrl2]; exact Nat.le_trans (List.length_filter_le _ _) (by rw [List.length_take]; omega)
    have hrow : (rs.map aY.row)[lb]'(by rw [List.length_map]; omega) = r.row := by rw [List.getElem_map, hr]
    have Li : (rs.map aY.v)[0 + x.hd.aI.toNat * 1]? = some r.v := by rw [hlb, show 0 + ((lb : Nat) : Int).toNat * 1 = lb by omega, List.getElem?_map, hrg]; rfl
    refine WC.sub (H' := bC (.slice r.A r.l.length r.c) 237 5 r.l.length (bJ r.l) :: Cells bo 170 (rs.map aY.v) :: bH ((rs.map aY.row).eraseIdx lb) :: Cells b10 237 x.cells :: F) (Sub.refl _) (fun w h => by
      have h4 := Sat.takeA (k := lb) (by rw [List.length_map]; omega) (h.sel 3 [2, 1, 0] rfl)
      rw [hrow] at h4
      exact h4.sel 4 [0, 2, 1, 3] rfl) ?_
    refine WC.dY (bH ((rs.map aY.row).eraseIdx lb) :: Cells b10 237 x.cells :: F) (by kernel_rfl) ?_
    refine WA.t 0 rfl (V.move (OV.p rfl)) (WA.t 1 rfl (V.move (OV.p rfl)) (WA.t 2 rfl (V.move (OV.p rfl)) (WA.t 3 rfl (V.move (OV.p rfl)) ?_)))
    refine WA.t 4 rfl (V.bP Bc (OV.p rfl) (OV.p rfl) (fun hc => by omega)) ?_
    refine WA.t 6 rfl (V.aU (vs := [_, _, _, _, _]) ⟨Tryz.isAgg237, Tryz.sizeOf237⟩ (OV.p rfl) rfl (fun _ => by repeat (first | exact aT.gets ⟨rfl, rfl, rfl, rfl, rfl, trivial⟩ | apply aT.up))) ?_
    refine WA.two (i := 5) (j := 7) (fun w h => by repeat (first | exact h | replace h := h.tail)) (by kernel_rfl) rfl rfl ?_ ?_
    ·refine WL.val (V.load Tryz.isAgg170 (OV.p rfl) (fun _ => by repeat (first | exact Rd.here Li | apply Rd.up))) rfl ?_
     refine WL.nil (WA.o 7 rfl ?_)
     refine WL.buildSlice (E := 237) (cs := [_, _, _, _, _]) (vs := [(0, _)]) ⟨OV.p rfl, trivial⟩ rfl (q9 _ _ _ _ _) rfl (fun R9 => ?_)
     refine WL.nil (WA.o 8 rfl ?_)
     refine WL.sub (Sub.refl _) (fun w h => h.p1) ?_
     refine WL.append (m := r.l.length) (q := 1) (news := x.cells) Tryz.underlying170 KN (OV.p rfl) (OV.p rfl) (Seq.all rfl) (fun u hu => by simpa using List.all_eq_true.1 (uW x) u hu) (by omega) rfl rfl (fun A5 c5 KM pI => ?_)
     refine WL.nil ?_
     refine WA.t 9 rfl (V.bP Bc (OV.p rfl) (OV.p rfl) (fun hc => by omega)) ?_
     refine WA.o 10 rfl ?_
     refine WL.store (cs := [_]) Tryz.sizeOf170 (OV.p rfl) (OV.p rfl) rfl rfl rfl (aQ.up (aQ.up (aQ.at_ (by rw [List.length_map]; omega)))) ?_
     refine WL.nil (WA.fin (WC.region (WL.ad rfl rfl rfl ?_)))
     refine WL.mv rfl rfl (WL.nil ?_)
     refine ⟨rfl, ?_⟩
     first
     | (refine ⟨(k + 1, rs.set lb ⟨A5, c5, r.l ++ [x]⟩), ⟨by show k + 1 ≤ n; omega, by show (rs.set _ _).length = av; rw [List.length_set]; exact hrl, ?_⟩, (by show n - (k + 1) < n - k; omega), .cons rfl (.cons rfl (.cons rfl (.cons rfl (.cons rfl (.cons (look_eq rfl (by simp)) (.nil _)))))), fun w h => ?_⟩
        · show (rs.set lb _).map aY.l = _
          rw [htk, vB hll h2.1.1 hlb, List.map_set, hrs, ← hrl2]
        · have h5 := h.sel 5 [0, 3, 2] rfl
          have e1 : bC (.slice A5 (r.l.length + 1) c5) 237 5 (r.l.length + 1) (bJ r.l ++ x.cells) = aY.row ⟨A5, c5, r.l ++ [x]⟩ := by
            unfold aY.row
            rw [iJ, List.length_append]; rfl
          rw [e1] at h5
          have h6 := Sat.zR (l := rs.map aY.row) (k := lb) (by rw [List.length_map]; omega) h5
          have e2 : (rs.map aY.v).set (0 + x.hd.aI.toNat * 1) (.slice A5 (r.l.length + 1) c5) = (rs.set lb ⟨A5, c5, r.l ++ [x]⟩).map aY.v := by
            rw [hlb, show 0 + ((lb : Nat) : Int).toNat * 1 = lb by omega, List.map_set]
            show _ = (rs.map aY.v).set lb (.slice A5 (r.l ++ [x]).length c5)
            rw [List.length_append]; rfl
          rw [e2, ← List.map_set] at h6
          exact h6.p1)
     | (refine ⟨(k + 1, rs), ⟨by show k + 1 ≤ n; omega, hrl, ?_⟩, (by show n - (k + 1) < n - k; omega), .cons rfl (.cons rfl (.cons rfl (.cons rfl (.cons rfl (.cons (look_eq rfl (by simp)) (.nil _)))))), fun w h => h.drop 1⟩
        show rs.map aY.l = _
        rw [htk, rW Dx, hrs])
    ·refine WL.buildSlice (E := 237) (cs := [_, _, _, _, _]) (vs := [(0, _)]) ⟨OV.p rfl, trivial⟩ rfl (q9 _ _ _ _ _) rfl (fun R9 => ?_)
     refine WL.nil (WA.o 5 rfl ?_)
     refine WL.val (V.load Tryz.isAgg170 (OV.p rfl) (fun _ => by repeat (first | exact Rd.here Li | apply Rd.up))) rfl ?_
     refine WL.nil (WA.o 8 rfl ?_)
     refine WL.sub (Sub.refl _) (fun w h => h.p1) ?_
     refine WL.append (m := r.l.length) (q := 1) (news := x.cells) Tryz.underlying170 KN (OV.p rfl) (OV.p rfl) (Seq.all rfl) (fun u hu => by simpa using List.all_eq_true.1 (uW x) u hu) (by omega) rfl rfl (fun A5 c5 KM pI => ?_)
     refine WL.nil ?_
     refine WA.t 9 rfl (V.bP Bc (OV.p rfl) (OV.p rfl) (fun hc => by omega)) ?_
     refine WA.o 10 rfl ?_
     refine WL.store (cs := [_]) Tryz.sizeOf170 (OV.p rfl) (OV.p rfl) rfl rfl rfl (aQ.up (aQ.up (aQ.at_ (by rw [List.length_map]; omega)))) ?_
     refine WL.nil (WA.fin (WC.region (WL.ad rfl rfl rfl ?_)))
     refine WL.mv rfl rfl (WL.nil ?_)
     refine ⟨rfl, ?_⟩
     first
     | (refine ⟨(k + 1, rs.set lb ⟨A5, c5, r.l ++ [x]⟩), ⟨by show k + 1 ≤ n; omega, by show (rs.set _ _).length = av; rw [List.length_set]; exact hrl, ?_⟩, (by show n - (k + 1) < n - k; omega), .cons rfl (.cons rfl (.cons rfl (.cons rfl (.cons rfl (.cons (look_eq rfl (by simp)) (.nil _)))))), fun w h => ?_⟩
        · show (rs.set lb _).map aY.l = _
          rw [htk, vB hll h2.1.1 hlb, List.map_set, hrs, ← hrl2]
        · have h5 := h.sel 5 [0, 3, 2] rfl
          have e1 : bC (.slice A5 (r.l.length + 1) c5) 237 5 (r.l.length + 1) (bJ r.l ++ x.cells) = aY.row ⟨A5, c5, r.l ++ [x]⟩ := by
            unfold aY.row
            rw [iJ, List.length_append]; rfl
          rw [e1] at h5
          have h6 := Sat.zR (l := rs.map aY.row) (k := lb) (by rw [List.length_map]; omega) h5
          have e2 : (rs.map aY.v).set (0 + x.hd.aI.toNat * 1) (.slice A5 (r.l.length + 1) c5) = (rs.set lb ⟨A5, c5, r.l ++ [x]⟩).map aY.v := by
            rw [hlb, show 0 + ((lb : Nat) : Int).toNat * 1 = lb by omega, List.map_set]
            show _ = (rs.map aY.v).set lb (.slice A5 (r.l ++ [x]).length c5)
            rw [List.length_append]; rfl
          rw [e2, ← List.map_set] at h6
          exact h6.p1)
     | (refine ⟨(k + 1, rs), ⟨by show k + 1 ≤ n; omega, hrl, ?_⟩, (by show n - (k + 1) < n - k; omega), .cons rfl (.cons rfl (.cons rfl (.cons rfl (.cons rfl (.cons (look_eq rfl (by simp)) (.nil _)))))), fun w h => h.drop 1⟩
        show rs.map aY.l = _
        rw [htk, rW Dx, hrs])
   ·simp only [Bool.and_eq_true, Bool.and_eq_false_iff, decide_eq_true_eq, decide_eq_false_iff_not] at hc2
    have h2 := hc2
    have Dx : ∀ aI, aI < av → jh aI x = false := fun aI hl2 => by
      unfold jh
      rcases h2 with (h | h) | h
      · rw [h]; rfl
      · rw [decide_eq_false (show ¬ x.hd.aI = (aI : Int) by omega), Bool.and_false]
      · rw [decide_eq_false (show ¬ x.hd.aI = (aI : Int) by omega), Bool.and_false]
    refine WC.skip (WC.region (WL.ad rfl rfl rfl ?_))
    refine WL.mv rfl rfl (WL.nil ?_)
    refine ⟨rfl, ?_⟩
    first
    | (refine ⟨(k + 1, rs.set lb ⟨A5, c5, r.l ++ [x]⟩), ⟨by show k + 1 ≤ n; omega, by show (rs.set _ _).length = av; rw [List.length_set]; exact hrl, ?_⟩, (by show n - (k + 1) < n - k; omega), .cons rfl (.cons rfl (.cons rfl (.cons rfl (.cons rfl (.cons (look_eq rfl (by simp)) (.nil _)))))), fun w h => ?_⟩
       · show (rs.set lb _).map aY.l = _
         rw [htk, vB hll h2.1.1 hlb, List.map_set, hrs, ← hrl2]
       · have h5 := h.sel 5 [0, 3, 2] rfl
         have e1 : bC (.slice A5 (r.l.length + 1) c5) 237 5 (r.l.length + 1) (bJ r.l ++ x.cells) = aY.row ⟨A5, c5, r.l ++ [x]⟩ := by
           unfold aY.row
           rw [iJ, List.length_append]; rfl
         rw [e1] at h5
         have h6 := Sat.zR (l := rs.map aY.row) (k := lb) (by rw [List.length_map]; omega) h5
         have e2 : (rs.map aY.v).set (0 + x.hd.aI.toNat * 1) (.slice A5 (r.l.length + 1) c5) = (rs.set lb ⟨A5, c5, r.l ++ [x]⟩).map aY.v := by
           rw [hlb, show 0 + ((lb : Nat) : Int).toNat * 1 = lb by omega, List.map_set]
           show _ = (rs.map aY.v).set lb (.slice A5 (r.l ++ [x]).length c5)
           rw [List.length_append]; rfl
         rw [e2, ← List.map_set] at h6
         exact h6.p1)
    | (refine ⟨(k + 1, rs), ⟨by show k + 1 ≤ n; omega, hrl, ?_⟩, (by show n - (k + 1) < n - k; omega), .cons rfl (.cons rfl (.cons rfl (.cons rfl (.cons rfl (.cons (look_eq rfl (by simp)) (.nil _)))))), fun w h => h.drop 1⟩
       show rs.map aY.l = _
       rw [htk, rW Dx, hrs])
  ·simp only [decide_eq_true_eq, decide_eq_false_iff_not] at hc1
   refine WC.exit (WC.seq (WC.seq ?_))
   obtain rfl : k = n := by omega
   rw [List.take_of_length_le (by omega)] at hrs
   refine WC.region (WL.mv rfl rfl (WL.val (V.len (t := 238) Tryz.runUnderlying238 (OV.p rfl)) rfl (WL.mv rfl rfl (WL.nil (WC.block ?_)))))
   refine WC.loop (σ := Nat) (fun j => [(2, .func (.func f) #[] #[]), (8, .slice (some ⟨bo, 0, none⟩) av av), (53, .slice (some ⟨bo, 0, none⟩) av av), (54, .int .i64 (av : Int)), (55, .int .i64 (j : Int))]) (fun j => Cells bo 170 (rs.map aY.v) :: bH ((jH c rs j).map aY.row) :: F) (fun j => j ≤ av) (fun j => av - j) 0 (Nat.zero_le _) (.cons rfl (.cons rfl (.cons rfl (.cons rfl (.cons rfl (.nil _)))))) (fun w h => h) ?_
   rintro j hj
   refine WC.sr (WL.val (V.lss (OV.p rfl) (OV.p rfl)) rfl (WL.nil (WC.seq ?_)))
   refine WC.cond rfl (fun hc3 => ?_) (fun hc3 => ?_)
   ·simp only [decide_eq_true_eq, decide_eq_false_iff_not] at hc3
    have hjl : j < av := by omega
    obtain ⟨r, hr⟩ : ∃ r, r = rs[j]'(by omega) := ⟨_, rfl⟩
    have hrg : rs[j]? = some r := by rw [hr]; exact List.getElem?_eq_getElem (by omega)
    have hsl := jW c rs j
    have Oc : (jH c rs j)[j]? = some r := by rw [ql c rs j (by omega), if_neg (Nat.lt_irrefl _)]; exact hrg
    have hrow : ((jH c rs j).map aY.row)[j]'(by rw [List.length_map]; omega) = r.row := by
      rw [List.getElem_map]
      congr 1
      rw [List.getElem?_eq_getElem (by omega)] at Oc
      injection Oc
    have Li : (rs.map aY.v)[0 + ((j : Nat) : Int).toNat * 1]? = some r.v := by rw [show 0 + ((j : Nat) : Int).toNat * 1 = j by omega, List.getElem?_map, hrg]; rfl
    have hrb : Ga f c r.l := by
      have h3 : (rs.map aY.l)[j]? = some r.l := by rw [List.getElem?_map, hrg]; rfl
      rw [hrs] at h3
      simp only [fE, List.getElem?_map, List.getElem?_range hjl, Option.map_some] at h3
      injection h3 with h3
      rw [← h3]
      exact hso j hjl
    refine WC.skip (WC.seq (WC.block (WC.sr ?_)))
    refine WL.val (V.bP Bc (OV.p rfl) (OV.p rfl) (fun hc => by omega)) rfl ?_
    refine WL.val (V.load Tryz.isAgg170 (OV.p rfl) (fun _ => Rd.here Li)) rfl ?_
    refine WL.sg rfl rfl (WL.nil ?_)
    refine WC.sub (H' := bC (.slice r.A r.l.length r.c) 237 5 r.l.length (bJ r.l) :: bH (((jH c rs j).map aY.row).eraseIdx j) :: Cells bo 170 (rs.map aY.v) :: F) (Sub.refl _) (fun w h => by
      have h4 := Sat.takeA (k := j) (by rw [List.length_map]; omega) h.p1
      rw [hrow] at h4
      exact h4) ?_
    refine WC.region (WL.mv rfl rfl (WL.mv rfl rfl (WL.call (vs := [_, _]) Tryz.call168 ⟨OV.p rfl, OV.p rfl, trivial⟩ (hrb _ _ _ _) rfl ?_)))
    rintro v0 H0 h0
    refine WL.nil (WC.region (WL.ad rfl rfl rfl ?_))
    refine WL.mv rfl rfl (WL.nil ?_)
    refine ⟨rfl, ?_⟩
    refine ⟨j + 1, hjl, (by show av - (j + 1) < av - j; omega), .cons rfl (.cons rfl (.cons rfl (.cons rfl (.cons (look_eq rfl (by simp)) (.nil _))))), fun w h => ?_⟩
    have h5 := h0 w h
    have e1 : bC (.slice r.A r.l.length r.c) 237 5 r.l.length (bJ (bX (ltOf c) r.l)) = (r.sort c).row := by
      unfold aY.row aY.sort
      rw [eT]
    rw [e1] at h5
    have h6 := Sat.zR (l := (jH c rs j).map aY.row) (k := j) (by rw [List.length_map]; omega) h5
    have e3 : rs.getD j Nl = r := by simp [List.getD, hrg]
    rw [← List.map_set] at h6
    dsimp only
    rw [jH, e3]
    exact h6.p1
   ·simp only [decide_eq_true_eq, decide_eq_false_iff_not] at hc3
    refine WC.exit (WC.sr (WL.mv rfl rfl (WL.sg rfl rfl (WL.sg rfl rfl (WL.nil (WC.ret ?_))))))
    obtain rfl : j = av := by omega
    refine aj.ret (H' := Cells bo 170 ((jH c rs j).map aY.v) :: bH ((jH c rs j).map aY.row) :: F) (aL.dJ rfl rfl rfl) (fun w h => by rw [LW c rs j (by omega)]; exact h) ⟨bo, jH c rs j, by rw [jW, hrl], ?_, rfl, rfl⟩
    have h7 := L8 c rs
    rw [hrl] at h7
    rw [h7, hrs]
theorem Cy {f : Nat} {c : Fd → Fd → Int} (hf : wm f c) {av n cap : Nat} {A : Option Addr} {fs : List Fd} (hl : 1 ≤ av ∧ av ≤ 64) (hs : Seq K F A n 5 (bJ fs)) (hn : fs.length = n) (h20 : n < 20) :
    Does Tryz.prog 163 #[.int .i64 (av : Int), .slice A n cap, .func (.func f) #[] #[]] K F
      (fun v H' => ∃ bo : Nat, ∃ rs : List aY, rs.length = av ∧ rs.map aY.l = (fE av fs).map (bX (ltOf c)) ∧ v = .tuple #[.slice (some ⟨bo, 0, none⟩) av av, .int .i64 0] ∧ H' = Cells bo 170 (rs.map aY.v) :: bH (rs.map aY.row) :: F) :=
  qJ hf hl hs hn (by omega) (fun aI _ _ _ _ _ => rD hf rfl (Nat.lt_of_le_of_lt (List.length_filter_le _ _) (by omega)))
end
theorem xJ {a b n : Nat} (ha : a < 2 ^ n) (hb : b * 2 ^ n < 4611686018427387904) (ha2 : a < 4611686018427387904) : bitsOf .or .i64 (a : Int) ((b * 2 ^ n : Nat) : Int) = ((a + b * 2 ^ n : Nat) : Int) := by
  have h1 : a + b * 2 ^ n < 9223372036854775808 := by omega
  unfold bitsOf
  dsimp only
  rw [eu, eu, BitVec.toNat_or, BitVec.toNat_ofNat, BitVec.toNat_ofNat]
  have e1 : a % 2 ^ IntKind.i64.bits = a := Nat.mod_eq_of_lt (by show a < 2 ^ 64; omega)
  have e2 : b * 2 ^ n % 2 ^ IntKind.i64.bits = b * 2 ^ n := Nat.mod_eq_of_lt (by show b * 2 ^ n < 2 ^ 64; omega)
  rw [e1, e2]
  have e3 : a ||| b * 2 ^ n = a + b * 2 ^ n := by
    have := Nat.two_pow_add_eq_or_of_lt ha b
    rw [Nat.mul_comm b, Nat.or_comm, ← this, Nat.add_comm]
  rw [e3]
  exact wrap_i64 (by omega)
theorem BU {x n : Nat} (hn : n ≤ 24) (hx : x < 256) : IntKind.i64.wrap ((x : Int) * 2 ^ (min (n : Int).toNat IntKind.i64.bits)) = ((x * 2 ^ n : Nat) : Int) := by
  have h1 : min (n : Int).toNat IntKind.i64.bits = n := by rw [Int.toNat_natCast]; exact Nat.min_eq_left (by show n ≤ 64; omega)
  have h2 : x * 2 ^ n ≤ 255 * 2 ^ 24 := Nat.mul_le_mul (by omega) (Nat.pow_le_pow_right (by decide) hn)
  rw [h1, show (x : Int) * 2 ^ n = ((x * 2 ^ n : Nat) : Int) by rw [Int.natCast_mul, Int.natCast_pow]; rfl]
  exact wrap_i64 (by omega)
theorem qc {g : Geo} {d : List Nat} {h : Hd} (hg : g.aF) (hp : gH g d = some h) : d.length = g.room.toNat ∧ h.may g = true ∧ d = iU g h := by
  unfold gH at hp
  split at hp
  · rename_i h1
    injection hp with hp
    subst hp
    simp only [Bool.and_eq_true, decide_eq_true_eq] at h1
    exact ⟨by rw [← h1.2, jV hg], h1.1, h1.2.symm⟩
  · cases hp
section
variable {g : Geo} {K : World} {F : List au}
theorem sj (hg : g.aF) (h : Hd) (hn : h.len ≤ 1099511627776) (hl : 0 ≤ h.aI) (hk : 0 ≤ h.num) :
    Does Tryz.prog 123 #[g.v, h.v] K F (fun v H' => (h.may g = true ∧ ∃ A' c', v = .tuple #[.slice A' g.room.toNat c', .int .i64 0] ∧ H' = bC (.slice A' g.room.toNat c') 5 1 g.room.toNat (aB .u8 (iU g h)) :: F) ∨
      (h.may g = false ∧ v = .tuple #[.slice none 0 0, .int .i64 1] ∧ H' = F)) := by
  have hr := Geo.jq hg
  refine Does.enter Tryz.func123 rfl Tryz.ntmps123 rfl ?_
  simp only [aJ, Nat.reduceAdd]
  refine WC.sr ?_
  refine WL.box (cs := [_, _, _, _, _]) (OV.p rfl) rfl rfl (fun b2 => ?_)
  refine WL.box (cs := [_, _, _]) (OV.p rfl) rfl rfl (fun b3 => ?_)
  refine WL.sg rfl rfl (WL.sg rfl rfl (WL.nil (WC.seq (WC.sr ?_))))
  refine WL.val (V.aU (vs := [_, _, _, _, _]) ⟨Tryz.isAgg23, Tryz.sizeOf23⟩ (OV.p rfl) rfl (fun _ => by repeat (first | exact aT.gets ⟨rfl, rfl, rfl, rfl, rfl, trivial⟩ | apply aT.up))) rfl ?_
  refine WL.val (V.aU (vs := [_, _, _]) ⟨Tryz.isAgg157, Tryz.sizeOf157⟩ (OV.p rfl) rfl (fun _ => by repeat (first | exact aT.gets ⟨rfl, rfl, rfl, trivial⟩ | apply aT.up))) rfl ?_
  refine WL.call (vs := [_, _]) Tryz.call189 ⟨OV.p rfl, OV.p rfl, trivial⟩ (Jv hg h hn) rfl ?_
  rintro _ H0 ⟨rfl, h0⟩
  subst H0
  refine WL.val (V.not (OV.p rfl)) rfl (WL.nil ?_)
  refine WC.cond rfl (fun hc0 => ?_) (fun hc0 => ?_)
  ·skip
   have h0 := hc0
   simp only [Bool.not_eq_true', Bool.not_eq_false'] at h0
   refine WC.sr (WL.sg rfl rfl (WL.sg rfl rfl (WL.nil (WC.ret ?_))))
   exact aj.ret (H' := F) (aL.dJ rfl rfl rfl) (fun w h => h.drop 2) (.inr ⟨h0, rfl, rfl⟩)
  ·skip
   have h0 := hc0
   simp only [Bool.not_eq_true', Bool.not_eq_false'] at h0
   have hmb := h0
   unfold Hd.may Geo.fits at hmb
   simp only [Bool.and_eq_true, decide_eq_true_eq] at hmb
   refine WC.skip (WC.sr ?_)
   refine WL.val (V.aU (vs := [_, _, _, _, _]) ⟨Tryz.isAgg23, Tryz.sizeOf23⟩ (OV.p rfl) rfl (fun _ => by repeat (first | exact aT.gets ⟨rfl, rfl, rfl, rfl, rfl, trivial⟩ | apply aT.up))) rfl ?_
   refine WL.call (vs := [_]) Tryz.call122 ⟨OV.p rfl, trivial⟩ (iH hg) rfl ?_
   rintro _ H0 ⟨rfl, h0⟩
   subst H0
   refine WL.mv rfl rfl (WL.xt rfl rfl rfl (WL.xt rfl rfl rfl (WL.sg rfl rfl (WL.sg rfl rfl (WL.nil (WC.sr ?_))))))
   refine WL.buildSlice (E := 5) (cs := [_, _, _, _]) (vs := [(0, _), (1, _), (2, _), (3, _)]) ⟨OV.p rfl, OV.p rfl, OV.p rfl, OV.p rfl, trivial⟩ rfl (iE _ _ _ _) rfl (fun b18 => ?_)
   refine WL.K3 Tryz.underlying34 Tryz.underlying5 (OV.p rfl) rfl (WL.val (V.fieldAddr xG (OV.p rfl)) rfl (WL.ld Tryz.isAgg3 rfl rfl ?_))
   refine WL.val (V.fieldAddr tJ (OV.p rfl)) rfl (WL.ld Tryz.isAgg3 rfl rfl ?_)
   refine WL.val (V.fieldAddr jr (OV.p rfl)) rfl (WL.ld Tryz.isAgg3 rfl rfl ?_)
   refine WL.buildSlice (E := 3) (cs := [_, _, _]) (vs := [(0, _), (1, _), (2, _)]) ⟨OV.p rfl, OV.p rfl, OV.p rfl, trivial⟩ rfl (yC _ _ _) rfl (fun NP => ?_)
   refine WL.call (vs := [_, _]) Tryz.call190 ⟨OV.p rfl, OV.p rfl, trivial⟩ (Ky (cs := [.int .u8 99, .int .u8 97, .int .u8 115, .int .u8 101]) (by repeat (first | exact Seq.PI rfl | apply Seq.up)) (Seq.all rfl)) rfl ?_
   rintro _ _ ⟨A1, c1, rfl, rfl⟩
   refine WL.sg rfl rfl (WL.nil (WC.sr (WL.mv rfl rfl (WL.mv rfl rfl (WL.sb rfl rfl rfl ?_)))))
   refine WL.Cv (m := 16) (q := g.room.toNat - 16) Tryz.underlying34 Tryz.underlying3 vP rfl rfl (OV.p rfl) (OV.p rfl) (by omega) (by omega) (by omega) rfl (fun A2 c2 hA2 hc2 => ?_)
   refine WL.sg rfl rfl (WL.sg rfl rfl (WL.nil (WC.ret ?_)))
   have e1 : 16 + (g.room.toNat - 16) = g.room.toNat := by omega
   refine aj.ret (H' := bC (.slice A2 g.room.toNat c2) 5 1 g.room.toNat (aB .u8 (iU g h)) :: F) (aL.dJ rfl (look_eq rfl (by rw [e1])) rfl) (fun w hw => ?_) (.inl ⟨h0, A2, c2, rfl, rfl⟩)
   have h' := hw.sel 5 [0] rfl
   rw [e1, vv hl, vv hmb.1.1.1.1.1, vv hk] at h'
   unfold iU
   rw [dx, dx, dx, dx, dh]
   exact h'
theorem iP {A : Option Addr} {m cap b i : Nat} {d : List Nat} (hs : Seq K F A m 1 (aB .u8 d)) (h8 : Small 256 d) (hb : Rd K F (some ⟨b, 0, none⟩) (.slice A m cap)) (hi : i + 3 < m) (hm : m ≤ 1000000) :
    aG Tryz.prog 157 #[.int .i64 (i : Int), ptr b 0] K F (.int .i64 (sF d i)) := by
  have hl : d.length = m := by simpa [aB] using hs.len
  obtain ⟨x0, e0⟩ : ∃ x, x = d.getD i 0 := ⟨_, rfl⟩
  obtain ⟨x1, e1⟩ : ∃ x, x = d.getD (i + 1) 0 := ⟨_, rfl⟩
  obtain ⟨x2, e2⟩ : ∃ x, x = d.getD (i + 2) 0 := ⟨_, rfl⟩
  obtain ⟨x3, e3⟩ : ∃ x, x = d.getD (i + 3) 0 := ⟨_, rfl⟩
  have b0 : x0 < 256 := by rw [e0]; exact h8.at_ (by decide) _
  have b1 : x1 < 256 := by rw [e1]; exact h8.at_ (by decide) _
  have b2 : x2 < 256 := by rw [e2]; exact h8.at_ (by decide) _
  have b3 : x3 < 256 := by rw [e3]; exact h8.at_ (by decide) _
  have rd : ∀ (k : Nat) (j : Int) x, j = (i + k : Nat) → k ≤ 3 → x = d.getD (i + k) 0 → Rd K F (A.map (·.add (j.toNat * 1))) (.int .u8 (x : Int)) := fun k j x hj hk hx => by
    rw [hj, hx, Int.toNat_natCast]
    exact hs.gK (by omega)
  have r0 := rd 0 (i : Int) x0 (by omega) (by omega) e0
  have r1 := rd 1 ((i : Int) + 1) x1 (by omega) (by omega) e1
  have r2 := rd 2 ((i : Int) + 2) x2 (by omega) (by omega) e2
  have r3 := rd 3 ((i : Int) + 3) x3 (by omega) (by omega) e3
  have hres : sF d i = ((x0 + x1 * 2 ^ 8 + x2 * 2 ^ 16 + x3 * 2 ^ 24 : Nat) : Int) := by unfold sF; rw [← e0, ← e1, ← e2, ← e3]; omega
  rw [hres]
  refine Does.enter Tryz.func157 rfl Tryz.ntmps157 rfl ?_
  simp only [aJ, Nat.reduceAdd]
  refine WC.sr (WL.sg rfl rfl (WL.nil (WC.seq ?_)))
  refine WC.fK (by kernel_rfl) (by kernel_rfl) ?_
  refine WQ.val (V.load Tryz.isAgg34 (OV.p rfl) (fun _ => hb)) rfl ?_
  refine WQ.val (V.move (OV.p rfl)) rfl ?_
  refine WQ.val (V.fu dB (OV.p rfl) (OV.p rfl) (fun hc => by omega) (fun hc => r0)) rfl ?_
  refine WQ.val (V.load Tryz.isAgg5 (OV.p rfl) (fun hc => r0)) rfl ?_
  refine WQ.val (V.tX Tryz.runUnderlying5 Tryz.runUnderlying3 (OV.p rfl) (fun _ => wrap_i64 (by omega))) rfl ?_
  refine WQ.val (V.load Tryz.isAgg34 (OV.p rfl) (fun _ => hb)) rfl ?_
  refine WQ.val (V.move (OV.p rfl)) rfl ?_
  refine WQ.val (V.jO (OV.p rfl) (OV.p rfl) (fun hc => by first | omega | (simp at hc; omega))) rfl ?_
  refine WQ.val (V.fu dB (OV.p rfl) (OV.p rfl) (fun hc => by omega) (fun hc => r1)) rfl ?_
  refine WQ.val (V.load Tryz.isAgg5 (OV.p rfl) (fun hc => r1)) rfl ?_
  refine WQ.val (V.tX Tryz.runUnderlying5 Tryz.runUnderlying3 (OV.p rfl) (fun _ => wrap_i64 (by omega))) rfl ?_
  refine WQ.val (V.aA (v' := .int .i64 ((x1 * 2 ^ 8 : Nat) : Int)) (V.shl (OV.p rfl) (OV.p rfl) (by omega)) (fun _ => congrArg _ (BU (n := 8) (by decide) b1))) rfl ?_
  refine WQ.val (V.aA (v' := .int .i64 ((x0 + x1 * 2 ^ 8 : Nat) : Int)) (V.or (OV.p rfl) (OV.p rfl)) (fun _ => congrArg _ (xJ (n := 8) (by omega) (by omega) (by omega)))) rfl ?_
  refine WQ.val (V.load Tryz.isAgg34 (OV.p rfl) (fun _ => hb)) rfl ?_
  refine WQ.val (V.move (OV.p rfl)) rfl ?_
  refine WQ.val (V.jO (OV.p rfl) (OV.p rfl) (fun hc => by first | omega | (simp at hc; omega))) rfl ?_
  refine WQ.val (V.fu dB (OV.p rfl) (OV.p rfl) (fun hc => by omega) (fun hc => r2)) rfl ?_
  refine WQ.val (V.load Tryz.isAgg5 (OV.p rfl) (fun hc => r2)) rfl ?_
  refine WQ.val (V.tX Tryz.runUnderlying5 Tryz.runUnderlying3 (OV.p rfl) (fun _ => wrap_i64 (by omega))) rfl ?_
  refine WQ.val (V.aA (v' := .int .i64 ((x2 * 2 ^ 16 : Nat) : Int)) (V.shl (OV.p rfl) (OV.p rfl) (by omega)) (fun _ => congrArg _ (BU (n := 16) (by decide) b2))) rfl ?_
  refine WQ.val (V.aA (v' := .int .i64 ((x0 + x1 * 2 ^ 8 + x2 * 2 ^ 16 : Nat) : Int)) (V.or (OV.p rfl) (OV.p rfl)) (fun _ => congrArg _ (xJ (n := 16) (by omega) (by omega) (by omega)))) rfl ?_
  refine WQ.val (V.load Tryz.isAgg34 (OV.p rfl) (fun _ => hb)) rfl ?_
  refine WQ.val (V.move (OV.p rfl)) rfl ?_
  refine WQ.val (V.jO (OV.p rfl) (OV.p rfl) (fun hc => by first | omega | (simp at hc; omega))) rfl ?_
  refine WQ.val (V.fu dB (OV.p rfl) (OV.p rfl) (fun hc => by omega) (fun hc => r3)) rfl ?_
  refine WQ.val (V.load Tryz.isAgg5 (OV.p rfl) (fun hc => r3)) rfl ?_
  refine WQ.val (V.tX Tryz.runUnderlying5 Tryz.runUnderlying3 (OV.p rfl) (fun _ => wrap_i64 (by omega))) rfl ?_
  refine WQ.val (V.aA (v' := .int .i64 ((x3 * 2 ^ 24 : Nat) : Int)) (V.shl (OV.p rfl) (OV.p rfl) (by omega)) (fun _ => congrArg _ (BU (n := 24) (by decide) b3))) rfl ?_
  refine WQ.val (V.aA (v' := .int .i64 ((x0 + x1 * 2 ^ 8 + x2 * 2 ^ 16 + x3 * 2 ^ 24 : Nat) : Int)) (V.or (OV.p rfl) (OV.p rfl)) (fun _ => congrArg _ (xJ (n := 24) (by omega) (by omega) (by omega)))) rfl ?_
  refine WQ.val (V.assign (OV.p rfl)) rfl (WQ.nil (WC.ret ?_))
  exact aj.ret (H' := F) (aL.tmp rfl rfl) (fun w h => h) ⟨rfl, rfl⟩
theorem bytes_Equal {A B : Option Addr} {m q cap cap' : Nat} {d e : List Nat} (hs : Seq K F A m 1 (aB .u8 d)) (hq : Seq K F B q 1 (aB .u8 e)) (hd : Small 256 d) (he : Small 256 e) :
    aG Tryz.prog 158 #[.slice A m cap, .slice B q cap'] K F (.bool (decide (d = e))) := by
  refine Does.enter Tryz.func158 rfl Tryz.ntmps158 rfl ?_
  simp only [aJ, Nat.reduceAdd]
  refine WC.sr (WL.sg rfl rfl (WL.nil (WC.sr (WL.mv rfl rfl ?_))))
  refine WL.val (V.tC (xs := bq d) Tryz.underlying34 Tryz.underlying5 Tryz.underlying9 (OV.p rfl) (fun _ => by rw [← lI]; exact hs)) rfl ?_
  refine WL.mv rfl rfl ?_
  refine WL.val (V.tC (xs := bq e) Tryz.underlying34 Tryz.underlying5 Tryz.underlying9 (OV.p rfl) (fun _ => by rw [← lI]; exact hq)) rfl ?_
  refine WL.val (V.P9 (OV.p rfl) (OV.p rfl)) rfl (WL.sg rfl rfl (WL.nil (WC.ret ?_)))
  refine aj.ret (H' := F) (aL.tmp rfl rfl) (fun w h => h) ⟨?_, rfl⟩
  rw [str_eq (jU hd) (jU he)]
  congr 1
  apply decide_eq_decide.2
  exact ⟨fun h => by rw [← jy d, h, jy], fun h => by rw [h]⟩
def eZ (g : Geo) (d : List Nat) : Hd := (gH g d).getD ⟨0, 0, 0⟩
def gX (g : Geo) (d : List Nat) : Int := match gH g d with | some _ => 0 | none => if d.length = g.room.toNat then 4 else 1
theorem zD {A : Option Addr} {m cap : Nat} {d : List Nat} (hg : g.aF) (hs : Seq K F A m 1 (aB .u8 d)) (h8 : Small 256 d) (hm : m ≤ 1000000) :
    aG Tryz.prog 91 #[g.v, .slice A m cap] K F (.tuple #[(eZ g d).v, .int .i64 (gX g d)]) := by
  have hl : d.length = m := by simpa [aB] using hs.len
  have hr := Geo.jq hg
  by_cases hlen : (m : Int) = g.room
  rotate_left
  · have hn : gH g d = none := by
      cases hp : gH g d with
      | none => rfl
      | some h => have := (qc hg hp).1; omega
    have e1 : eZ g d = ⟨0, 0, 0⟩ := by unfold eZ; rw [hn]; rfl
    have e2 : gX g d = 1 := by unfold gX; rw [hn]; exact if_neg (by omega)
    rw [e1, e2]
    refine Does.enter Tryz.func91 rfl Tryz.ntmps91 rfl ?_
    simp only [aJ, Nat.reduceAdd]
    refine WC.sr ?_
    refine WL.box (cs := [_, _, _, _, _]) (OV.p rfl) rfl rfl (fun b2 => ?_)
    refine WL.box (cs := [_]) (OV.p rfl) rfl rfl (fun b3 => ?_)
    refine WL.alloc (cs := [(.int .i64 0), (.int .i64 0), (.int .i64 0)]) Tryz.zeroValue157 rfl rfl (fun b4 => ?_)
    refine WL.sg rfl rfl (WL.nil (WC.sr ?_))
    refine WL.val (V.aU (vs := [_, _, _, _, _]) ⟨Tryz.isAgg23, Tryz.sizeOf23⟩ (OV.p rfl) rfl (fun _ => by repeat (first | exact aT.gets ⟨rfl, rfl, rfl, rfl, rfl, trivial⟩ | apply aT.up))) rfl ?_
    refine WL.call (vs := [_]) Tryz.call122 ⟨OV.p rfl, trivial⟩ (iH hg) rfl ?_
    rintro _ H0 ⟨rfl, h0⟩
    subst H0
    refine WL.mv rfl rfl (WL.xt rfl rfl rfl (WL.xt rfl rfl rfl (WL.sg rfl rfl (WL.sg rfl rfl (WL.nil (WC.seq (WC.sr (WL.mv rfl rfl (WL.val (V.neq (OV.p rfl) (OV.p rfl)) rfl (WL.mv rfl rfl ?_))))))))))
    refine WL.ah (oj := _) rfl rfl rfl GC.f (V.load Tryz.isAgg34 (OV.p rfl) (fun _ => by repeat (first | exact Rd.here rfl | apply Rd.up))) rfl ?_
    refine WL.ah (oj := _) rfl rfl rfl GC.f (V.len (t := 34) Tryz.runUnderlying34 (OV.g rfl id)) rfl (WL.ah (oj := _) rfl rfl rfl GC.f (V.move (OV.p rfl)) rfl (WL.ah (oj := _) rfl rfl rfl GC.f (V.neq (OV.g rfl id) (OV.g rfl id)) rfl (WL.val (V.aS (OV.p rfl) (OV.g rfl id)) rfl (WL.nil ?_))))
    refine WC.bU rfl ((by simp; omega)) ?_
    refine WC.sr (WL.val (V.build (vs := []) trivial rfl (Gv )) rfl ?_)
    refine WL.store (cs := [_, _, _]) Tryz.sizeOf157 (OV.p rfl) (OV.p rfl) rfl rfl rfl (by repeat (first | exact aQ.here (cs' := [_, _, _]) rfl rfl | apply aQ.up)) ?_
    refine WL.sg rfl rfl (WL.nil (WC.ret ?_))
    exact aj.ret (H' := F) (aL.two rfl (R1.gF (vs := [_, _, _]) rfl ⟨Tryz.isAgg157, Tryz.sizeOf157⟩ rfl (by repeat (first | exact aT.gets ⟨rfl, rfl, rfl, trivial⟩ | apply aT.up))) (R1.tmp rfl)) (fun w h => h.drop 3) ⟨rfl, rfl⟩
  obtain ⟨h, hh⟩ : ∃ h, h = vG d := ⟨_, rfl⟩
  have db : ∀ i, 0 ≤ sF d i ∧ sF d i < 4294967296 := fun i => by
    have x0 := h8.at_ (by decide) i
    have x1 := h8.at_ (by decide) (i + 1)
    have x2 := h8.at_ (by decide) (i + 2)
    have x3 := h8.at_ (by decide) (i + 3)
    unfold sF
    omega
  have hb : h = ⟨sF d 4, sF d 8, sF d 12⟩ := hh
  have h0l : 0 ≤ h.aI := by rw [hb]; exact (db 4).1
  have h0k : 0 ≤ h.num := by rw [hb]; exact (db 12).1
  have Qw : h.len ≤ 1099511627776 := by rw [hb]; have := (db 8).2; show sF d 8 ≤ _; omega
  cases CX : h.may g with
  | false =>
    have hn : gH g d = none := by unfold gH; rw [← hh, CX]; rfl
    have e1 : eZ g d = ⟨0, 0, 0⟩ := by unfold eZ; rw [hn]; rfl
    have e2 : gX g d = 4 := by unfold gX; rw [hn]; exact if_pos (by omega)
    rw [e1, e2]
    have hby : ∀ (K : World) (F : List au), aG Tryz.prog 123 #[g.v, h.v] K F (.tuple #[.slice none 0 0, .int .i64 1]) := fun K F => (sj hg h Qw h0l h0k).mono (fun v H' hx => by
      rcases hx with ⟨h1, _⟩ | ⟨_, h2, h3⟩
      · rw [CX] at h1; cases h1
      · exact ⟨h2, h3⟩)
    rw [hb] at hby
    refine Does.enter Tryz.func91 rfl Tryz.ntmps91 rfl ?_
    simp only [aJ, Nat.reduceAdd]
    refine WC.sr ?_
    refine WL.box (cs := [_, _, _, _, _]) (OV.p rfl) rfl rfl (fun b2 => ?_)
    refine WL.box (cs := [_]) (OV.p rfl) rfl rfl (fun b3 => ?_)
    refine WL.alloc (cs := [(.int .i64 0), (.int .i64 0), (.int .i64 0)]) Tryz.zeroValue157 rfl rfl (fun b4 => ?_)
    refine WL.sg rfl rfl (WL.nil (WC.sr ?_))
    refine WL.val (V.aU (vs := [_, _, _, _, _]) ⟨Tryz.isAgg23, Tryz.sizeOf23⟩ (OV.p rfl) rfl (fun _ => by repeat (first | exact aT.gets ⟨rfl, rfl, rfl, rfl, rfl, trivial⟩ | apply aT.up))) rfl ?_
    refine WL.call (vs := [_]) Tryz.call122 ⟨OV.p rfl, trivial⟩ (iH hg) rfl ?_
    rintro _ H0 ⟨rfl, h0⟩
    subst H0
    refine WL.mv rfl rfl (WL.xt rfl rfl rfl (WL.xt rfl rfl rfl (WL.sg rfl rfl (WL.sg rfl rfl (WL.nil (WC.seq (WC.sr (WL.mv rfl rfl (WL.val (V.neq (OV.p rfl) (OV.p rfl)) rfl (WL.mv rfl rfl ?_))))))))))
    refine WL.ah (oj := _) rfl rfl rfl GC.f (V.load Tryz.isAgg34 (OV.p rfl) (fun _ => by repeat (first | exact Rd.here rfl | apply Rd.up))) rfl ?_
    refine WL.ah (oj := _) rfl rfl rfl GC.f (V.len (t := 34) Tryz.runUnderlying34 (OV.g rfl id)) rfl (WL.ah (oj := _) rfl rfl rfl GC.f (V.move (OV.p rfl)) rfl (WL.ah (oj := _) rfl rfl rfl GC.f (V.neq (OV.g rfl id) (OV.g rfl id)) rfl (WL.val (V.aS (OV.p rfl) (OV.g rfl id)) rfl (WL.nil ?_))))
    refine WC.aM rfl ((by simp; omega)) ?_
    refine WC.skip (WC.sr (WL.val (V.makeFunc (us := []) (vs := [_]) trivial ⟨OV.p rfl, trivial⟩) rfl (WL.sg rfl rfl (WL.nil (WC.sr (WL.mv rfl rfl ?_))))))
    refine WL.kV (first := []) (vs := [_]) (captured := [ptr b3 0]) Tryz.call157 (OV.p rfl) ⟨OV.p rfl, trivial⟩ (iP (i := 4) (by repeat (first | exact hs | apply Seq.up)) h8 (by repeat (first | exact Rd.here rfl | apply Rd.up)) (by omega) hm) rfl ?_
    rintro _ _ ⟨rfl, rfl⟩
    refine WL.mv rfl rfl ?_
    refine WL.kV (first := []) (vs := [_]) (captured := [ptr b3 0]) Tryz.call157 (OV.p rfl) ⟨OV.p rfl, trivial⟩ (iP (i := 8) (by repeat (first | exact hs | apply Seq.up)) h8 (by repeat (first | exact Rd.here rfl | apply Rd.up)) (by omega) hm) rfl ?_
    rintro _ _ ⟨rfl, rfl⟩
    refine WL.mv rfl rfl ?_
    refine WL.kV (first := []) (vs := [_]) (captured := [ptr b3 0]) Tryz.call157 (OV.p rfl) ⟨OV.p rfl, trivial⟩ (iP (i := 12) (by repeat (first | exact hs | apply Seq.up)) h8 (by repeat (first | exact Rd.here rfl | apply Rd.up)) (by omega) hm) rfl ?_
    rintro _ _ ⟨rfl, rfl⟩
    refine WL.val (V.build (vs := [(0, _), (1, _), (2, _)]) ⟨OV.p rfl, OV.p rfl, OV.p rfl, trivial⟩ rfl (mX _ _ _)) rfl ?_
    refine WL.alloc (cs := [(.int .i64 0), (.int .i64 0), (.int .i64 0)]) Tryz.zeroValue157 rfl rfl (fun b9 => ?_)
    refine WL.store (cs := [_, _, _]) Tryz.sizeOf157 (OV.p rfl) (OV.p rfl) rfl rfl rfl (by repeat (first | exact aQ.here (cs' := [_, _, _]) rfl rfl | apply aQ.up)) ?_
    refine WL.nil (WC.seq (WC.sr ?_))
    refine WL.val (V.aU (vs := [_, _, _, _, _]) ⟨Tryz.isAgg23, Tryz.sizeOf23⟩ (OV.p rfl) rfl (fun _ => by repeat (first | exact aT.gets ⟨rfl, rfl, rfl, rfl, rfl, trivial⟩ | apply aT.up))) rfl ?_
    refine WL.val (V.aU (vs := [_, _, _]) ⟨Tryz.isAgg157, Tryz.sizeOf157⟩ (OV.p rfl) rfl (fun _ => by repeat (first | exact aT.gets ⟨rfl, rfl, rfl, trivial⟩ | apply aT.up))) rfl ?_
    refine WL.call (vs := [_, _]) Tryz.call123 ⟨OV.p rfl, OV.p rfl, trivial⟩ (hby _ _) rfl ?_
    rintro _ H0 ⟨rfl, h0⟩
    subst H0
    refine WL.mv rfl rfl (WL.xt rfl rfl rfl (WL.xt rfl rfl rfl (WL.sg rfl rfl (WL.sg rfl rfl (WL.nil (WC.sr (WL.mv rfl rfl (WL.val (V.neq (OV.p rfl) (OV.p rfl)) rfl (WL.mv rfl rfl ?_)))))))))
    refine WL.sO (oj := _) rfl rfl rfl rfl rfl (fun d hd => by injection hd with hd; subst hd; rfl) ?_
    refine WL.sO (oj := _) rfl rfl rfl rfl rfl (fun d hd => by injection hd with hd; subst hd; rfl) ?_
    refine WL.sO (oj := _) rfl rfl rfl rfl rfl (fun d hd => by injection hd with hd; subst hd; rfl) ?_
    refine WL.sO (oj := _) rfl rfl rfl rfl rfl (fun d hd => by injection hd with hd; subst hd; rfl) ?_
    refine WL.val (V.M5 (OV.p rfl) (OV.p rfl)) rfl (WL.nil ?_)
    refine WC.bU rfl (by first | rfl | (simp; done) | (simp; omega)) ?_
    refine WC.sr (WL.val (V.build (vs := []) trivial rfl (Gv )) rfl ?_)
    refine WL.store (cs := [_, _, _]) Tryz.sizeOf157 (OV.p rfl) (OV.p rfl) rfl rfl rfl (by repeat (first | exact aQ.here (cs' := [_, _, _]) rfl rfl | apply aQ.up)) ?_
    refine WL.sg rfl rfl (WL.nil (WC.ret ?_))
    exact aj.ret (H' := F) (aL.two rfl (R1.gF (vs := [_, _, _]) rfl ⟨Tryz.isAgg157, Tryz.sizeOf157⟩ rfl (by repeat (first | exact aT.gets ⟨rfl, rfl, rfl, trivial⟩ | apply aT.up))) (R1.tmp rfl)) (fun w h => h.drop 4) ⟨rfl, rfl⟩
  | true =>
    have hby : ∀ (K : World) (F : List au), Does Tryz.prog 123 #[g.v, h.v] K F (fun v H' => ∃ A' c', v = .tuple #[.slice A' g.room.toNat c', .int .i64 0] ∧ H' = bC (.slice A' g.room.toNat c') 5 1 g.room.toNat (aB .u8 (iU g h)) :: F) := fun K F => (sj hg h Qw h0l h0k).mono (fun v H' hx => by
      rcases hx with ⟨_, h2⟩ | ⟨h1, _⟩
      · exact h2
      · rw [CX] at h1; cases h1)
    have hpf : gH g d = if iU g h = d then some h else none := by
      unfold gH
      rw [← hh, CX, Bool.true_and]
      by_cases he : iU g h = d
      · rw [decide_eq_true he, if_pos rfl, if_pos he]
      · rw [decide_eq_false he, if_neg Bool.false_ne_true, if_neg he]
    have hbl := jV hg h
    have Pq := oV g h
    obtain ⟨hB, Q6⟩ : ∃ hB, hB = iU g h := ⟨_, rfl⟩
    rw [← Q6] at hbl Pq hpf hby
    rw [hb] at hby
    refine Does.enter Tryz.func91 rfl Tryz.ntmps91 rfl ?_
    simp only [aJ, Nat.reduceAdd]
    refine WC.sr ?_
    refine WL.box (cs := [_, _, _, _, _]) (OV.p rfl) rfl rfl (fun b2 => ?_)
    refine WL.box (cs := [_]) (OV.p rfl) rfl rfl (fun b3 => ?_)
    refine WL.alloc (cs := [(.int .i64 0), (.int .i64 0), (.int .i64 0)]) Tryz.zeroValue157 rfl rfl (fun b4 => ?_)
    refine WL.sg rfl rfl (WL.nil (WC.sr ?_))
    refine WL.val (V.aU (vs := [_, _, _, _, _]) ⟨Tryz.isAgg23, Tryz.sizeOf23⟩ (OV.p rfl) rfl (fun _ => by repeat (first | exact aT.gets ⟨rfl, rfl, rfl, rfl, rfl, trivial⟩ | apply aT.up))) rfl ?_
    refine WL.call (vs := [_]) Tryz.call122 ⟨OV.p rfl, trivial⟩ (iH hg) rfl ?_
    rintro _ H0 ⟨rfl, h0⟩
    subst H0
    refine WL.mv rfl rfl (WL.xt rfl rfl rfl (WL.xt rfl rfl rfl (WL.sg rfl rfl (WL.sg rfl rfl (WL.nil (WC.seq (WC.sr (WL.mv rfl rfl (WL.val (V.neq (OV.p rfl) (OV.p rfl)) rfl (WL.mv rfl rfl ?_))))))))))
    refine WL.ah (oj := _) rfl rfl rfl GC.f (V.load Tryz.isAgg34 (OV.p rfl) (fun _ => by repeat (first | exact Rd.here rfl | apply Rd.up))) rfl ?_
    refine WL.ah (oj := _) rfl rfl rfl GC.f (V.len (t := 34) Tryz.runUnderlying34 (OV.g rfl id)) rfl (WL.ah (oj := _) rfl rfl rfl GC.f (V.move (OV.p rfl)) rfl (WL.ah (oj := _) rfl rfl rfl GC.f (V.neq (OV.g rfl id) (OV.g rfl id)) rfl (WL.val (V.aS (OV.p rfl) (OV.g rfl id)) rfl (WL.nil ?_))))
    refine WC.aM rfl ((by simp; omega)) ?_
    refine WC.skip (WC.sr (WL.val (V.makeFunc (us := []) (vs := [_]) trivial ⟨OV.p rfl, trivial⟩) rfl (WL.sg rfl rfl (WL.nil (WC.sr (WL.mv rfl rfl ?_))))))
    refine WL.kV (first := []) (vs := [_]) (captured := [ptr b3 0]) Tryz.call157 (OV.p rfl) ⟨OV.p rfl, trivial⟩ (iP (i := 4) (by repeat (first | exact hs | apply Seq.up)) h8 (by repeat (first | exact Rd.here rfl | apply Rd.up)) (by omega) hm) rfl ?_
    rintro _ _ ⟨rfl, rfl⟩
    refine WL.mv rfl rfl ?_
    refine WL.kV (first := []) (vs := [_]) (captured := [ptr b3 0]) Tryz.call157 (OV.p rfl) ⟨OV.p rfl, trivial⟩ (iP (i := 8) (by repeat (first | exact hs | apply Seq.up)) h8 (by repeat (first | exact Rd.here rfl | apply Rd.up)) (by omega) hm) rfl ?_
    rintro _ _ ⟨rfl, rfl⟩
    refine WL.mv rfl rfl ?_
    refine WL.kV (first := []) (vs := [_]) (captured := [ptr b3 0]) Tryz.call157 (OV.p rfl) ⟨OV.p rfl, trivial⟩ (iP (i := 12) (by repeat (first | exact hs | apply Seq.up)) h8 (by repeat (first | exact Rd.here rfl | apply Rd.up)) (by omega) hm) rfl ?_
    rintro _ _ ⟨rfl, rfl⟩
    refine WL.val (V.build (vs := [(0, _), (1, _), (2, _)]) ⟨OV.p rfl, OV.p rfl, OV.p rfl, trivial⟩ rfl (mX _ _ _)) rfl ?_
    refine WL.alloc (cs := [(.int .i64 0), (.int .i64 0), (.int .i64 0)]) Tryz.zeroValue157 rfl rfl (fun b9 => ?_)
    refine WL.store (cs := [_, _, _]) Tryz.sizeOf157 (OV.p rfl) (OV.p rfl) rfl rfl rfl (by repeat (first | exact aQ.here (cs' := [_, _, _]) rfl rfl | apply aQ.up)) ?_
    refine WL.nil (WC.seq (WC.sr ?_))
    refine WL.val (V.aU (vs := [_, _, _, _, _]) ⟨Tryz.isAgg23, Tryz.sizeOf23⟩ (OV.p rfl) rfl (fun _ => by repeat (first | exact aT.gets ⟨rfl, rfl, rfl, rfl, rfl, trivial⟩ | apply aT.up))) rfl ?_
    refine WL.val (V.aU (vs := [_, _, _]) ⟨Tryz.isAgg157, Tryz.sizeOf157⟩ (OV.p rfl) rfl (fun _ => by repeat (first | exact aT.gets ⟨rfl, rfl, rfl, trivial⟩ | apply aT.up))) rfl ?_
    refine WL.call (vs := [_, _]) Tryz.call123 ⟨OV.p rfl, OV.p rfl, trivial⟩ (hby _ _) rfl ?_
    rintro _ _ ⟨A6, c6, rfl, rfl⟩
    refine WL.mv rfl rfl (WL.xt rfl rfl rfl (WL.xt rfl rfl rfl (WL.sg rfl rfl (WL.sg rfl rfl (WL.nil (WC.sr (WL.mv rfl rfl (WL.val (V.neq (OV.p rfl) (OV.p rfl)) rfl (WL.mv rfl rfl (WL.known (oj := _) rfl rfl rfl rfl (WL.mv rfl rfl (WL.known (oj := _) rfl rfl rfl rfl (WL.ld Tryz.isAgg34 rfl rfl ?_)))))))))))))
    refine WL.known (oj := _) rfl rfl rfl rfl ?_
    refine WL.call (vs := [_, _]) Tryz.call158 ⟨OV.p rfl, OV.p rfl, trivial⟩ (bytes_Equal (d := hB) (e := d) (by repeat (first | exact bC.seq (by rw [aH, hbl, Nat.mul_one]) | apply Seq.up)) (by repeat (first | exact hs | apply Seq.up)) Pq h8) rfl ?_
    rintro _ H0 ⟨rfl, h0⟩
    subst H0
    refine WL.known (oj := _) rfl rfl rfl rfl (WL.val (V.not (OV.p rfl)) rfl (WL.val (V.aS (OV.p rfl) (OV.p rfl)) rfl (WL.nil ?_)))
    refine WC.cond rfl (fun hc1 => ?_) (fun hc1 => ?_)
    ·skip
     have h1 := hc1
     simp at h1
     have e1 : eZ g d = ⟨0, 0, 0⟩ := by unfold eZ; rw [hpf, if_neg h1]; rfl
     have e2 : gX g d = 4 := by unfold gX; rw [hpf, if_neg h1]; exact if_pos (by omega)
     refine WC.sr (WL.val (V.build (vs := []) trivial rfl (Gv )) rfl ?_)
     refine WL.store (cs := [_, _, _]) Tryz.sizeOf157 (OV.p rfl) (OV.p rfl) rfl rfl rfl (by repeat (first | exact aQ.here (cs' := [_, _, _]) rfl rfl | apply aQ.up)) ?_
     refine WL.sg rfl rfl (WL.nil (WC.ret ?_))
     rw [e1, e2]
     exact aj.ret (H' := F) (aL.two rfl (R1.gF (vs := [_, _, _]) rfl ⟨Tryz.isAgg157, Tryz.sizeOf157⟩ rfl (by repeat (first | exact aT.gets ⟨rfl, rfl, rfl, trivial⟩ | apply aT.up))) (R1.tmp rfl)) (fun w h => h.sel 5 [] rfl) ⟨rfl, rfl⟩
    ·skip
     have h1 := hc1
     simp at h1
     have e1 : eZ g d = h := by unfold eZ; rw [hpf, if_pos h1]; rfl
     have e2 : gX g d = 0 := by unfold gX; rw [hpf, if_pos h1]
     refine WC.skip (WC.sr ?_)
     refine WL.val (V.aU (vs := [_, _, _]) ⟨Tryz.isAgg157, Tryz.sizeOf157⟩ (OV.p rfl) rfl (fun _ => by repeat (first | exact aT.gets ⟨rfl, rfl, rfl, trivial⟩ | apply aT.up))) rfl ?_
     refine WL.store (cs := [_, _, _]) Tryz.sizeOf157 (OV.p rfl) (OV.p rfl) rfl rfl rfl (by repeat (first | exact aQ.here (cs' := [_, _, _]) rfl rfl | apply aQ.up)) ?_
     refine WL.sg rfl rfl (WL.nil (WC.ret ?_))
     rw [e1, e2, hb]
     exact aj.ret (H' := F) (aL.two rfl (R1.gF (vs := [_, _, _]) rfl ⟨Tryz.isAgg157, Tryz.sizeOf157⟩ rfl (by repeat (first | exact aT.gets ⟨rfl, rfl, rfl, trivial⟩ | apply aT.up))) (R1.tmp rfl)) (fun w h => h.sel 5 [] rfl) ⟨rfl, rfl⟩
end
end Go.Proofs.YtcedojacbhnbiaaGreat
