import Derived.Test.YtcmojpiokjhmhaaGreatP18
namespace Go.Proofs.YtcmojpiokjhmhaaGreat
open Go.Sl Go.RowKit
set_option linter.unusedVariables false
set_option linter.unusedSimpArgs false
set_option maxRecDepth 20000
def bq.sort (c : Fd → Fd → Int) (x : bq) : bq := { x with l := dz (ltOf c) x.l }
theorem bq.Py (c : Fd → Fd → Int) (x : bq) : (x.sort c).v = x.v := by
  show Value.slice x.A (dz (ltOf c) x.l).length x.c = _
  rw [fA]
def Pq : bq := ⟨none, 0, []⟩
def jP (c : Fd → Fd → Int) (rs : List bq) : Nat → List bq
  | 0 => rs
  | j + 1 => (jP c rs j).set j ((rs.getD j Pq).sort c)
theorem kL (c : Fd → Fd → Int) (rs : List bq) : ∀ j, (jP c rs j).length = rs.length
  | 0 => rfl
  | j + 1 => by rw [jP, List.length_set, kL]
theorem rA (c : Fd → Fd → Int) (rs : List bq) : ∀ j, j ≤ rs.length → ∀ i, (jP c rs j)[i]? = if i < j then (rs[i]?).map (bq.sort c) else rs[i]?
  | 0, _, i => by simp [jP]
  | j + 1, hj, i => by
    rw [jP, List.getElem?_set, kL, rA c rs j (by omega)]
    by_cases h : j = i
    · subst h
      rw [if_pos rfl, if_pos (by omega), if_pos (by omega)]
      simp [List.getD, show j < rs.length by omega]
    · rw [if_neg h]
      by_cases h2 : i < j
      · rw [if_pos h2, if_pos (by omega)]
      · rw [if_neg h2, if_neg (by omega)]
theorem Ob (c : Fd → Fd → Int) (rs : List bq) (j : Nat) (hj : j ≤ rs.length) : (jP c rs j).map bq.v = rs.map bq.v := by
  apply List.ext_getElem?
  intro i
  rw [List.getElem?_map, List.getElem?_map, rA c rs j hj]
  split
  · rw [Option.map_map]
    congr 1
    funext x
    exact bq.Py c x
  · rfl
theorem NK (c : Fd → Fd → Int) (rs : List bq) : (jP c rs rs.length).map bq.l = (rs.map bq.l).map (dz (ltOf c)) := by
  apply List.ext_getElem?
  intro i
  rw [List.getElem?_map, List.getElem?_map, List.getElem?_map, rA c rs _ (Nat.le_refl _)]
  by_cases h : i < rs.length
  · rw [if_pos h, Option.map_map, Option.map_map]; rfl
  · rw [if_neg h, List.getElem?_eq_none (by omega)]; rfl
theorem iX (l : List Fd) (x : Fd) : bP (l ++ [x]) = bP l ++ x.cells := by simp [bP]
theorem vM {K : World} {F : List ak} {A : Option Addr} {n : Nat} {fs : List Fd} (hs : Seq K F A n 5 (bP fs)) {k : Nat} {x : Fd} (hx : fs[k]? = some x) {j : Nat} {v : Value} (hj : x.cells[j]? = some v) : Rd K F (A.map (·.add (k * 5 + j))) v :=
  hs.rd _ _ (flat_get (s := 5) Fd.len fs k j x v hx hj)
section
variable {K : World} {F : List ak}
theorem vG {f : Nat} {c : Fd → Fd → Int} (hf : Bc f c) {aj n cap : Nat} {A : Option Addr} {fs : List Fd} (hl : 1 ≤ aj ∧ aj ≤ 64) (hs : Seq K F A n 5 (bP fs)) (hn : fs.length = n) (h20 : n < 20) :
    Does Tryz.prog 100 #[.int .i64 (aj : Int), .slice A n cap, .func (.func f) #[] #[]] K F
      (fun v H' => ∃ bo : Nat, ∃ rs : List bq, rs.length = aj ∧ rs.map bq.l = (gF aj fs).map (dz (ltOf c)) ∧ v = .tuple #[.slice (some ⟨bo, 0, none⟩) aj aj, .int .i64 0] ∧ H' = Cells bo 111 (rs.map bq.v) :: bG (rs.map bq.row) :: F) := by
  refine Does.enter Tryz.func100 rfl Tryz.ntmps100 rfl ?_
  simp only [aI, Nat.reduceAdd]
  refine WC.sr (WL.sg rfl rfl (WL.sg rfl rfl (WL.nil (WC.seq (WC.sr (WL.mv rfl rfl (WL.val (V.lss (OV.p rfl) (OV.p rfl)) rfl (WL.mv rfl rfl (WL.av (oj := _) rfl rfl rfl GC.f (V.move (OV.p rfl)) rfl (WL.av (oj := _) rfl rfl rfl GC.f (V.gtr (OV.g rfl id) (OV.p rfl)) rfl (WL.val (V.bH (OV.p rfl) (OV.g rfl id)) rfl (WL.nil ?_))))))))))))
  refine WC.aQ rfl ((by simp; omega)) ?_
  refine WC.skip (WC.sr (WL.mv rfl rfl ?_))
  refine WL.oW (m := aj) Tryz.underlying140 Qg (OV.p rfl) (OV.p rfl) rfl rfl (by omega) rfl rfl rfl (fun bo => ?_)
  refine WL.sg rfl rfl (WL.nil (WC.seq (WC.sr (WL.mv rfl rfl (WL.val (V.len (t := 111) Tryz.runUnderlying111 (OV.p rfl)) rfl (WL.mv rfl rfl (WL.nil (WC.block ?_))))))))
  refine WC.loop (σ := Nat × List bq) (fun s => [(0, .int .i64 (aj : Int)), (2, .func (.func f) #[] #[]), (8, .slice (some ⟨bo, 0, none⟩) aj aj), (22, .slice A n cap), (23, .int .i64 (n : Int)), (24, .int .i64 (s.1 : Int))]) (fun s => Cells bo 111 (s.2.map bq.v) :: bG (s.2.map bq.row) :: F) (fun s => s.1 ≤ n ∧ s.2.length = aj ∧ s.2.map bq.l = gF aj (fs.take s.1)) (fun s => n - s.1) (0, List.replicate aj Pq) ⟨Nat.zero_le _, List.length_replicate, by
    rw [List.map_replicate]
    apply List.ext_getElem
    · simp [gF]
    · intro i h1 h2; simp [gF, Pq]⟩ (.cons rfl (.cons rfl (.cons rfl (.cons rfl (.cons rfl (.cons rfl (.nil _))))))) (fun w h => by
    dsimp only
    rw [List.map_replicate, List.map_replicate]
    have key : ∀ m, ∀ H, Sat K w H → Sat K w (List.replicate m Pq.row ++ H) := fun m => by
      induction m with
      | zero => intro H h; exact h
      | succ m ih => intro H h; exact Sat.fO (ih H h) _ _
    have h1 : Sat K w (List.replicate aj Pq.row ++ (Cells bo 111 (List.replicate aj Pq.v) :: F)) := key aj _ h
    exact (Sat.all h1).p1) ?_
  rintro ⟨k, rs⟩ ⟨hk, hrl, hrs⟩
  dsimp only at hk hrl hrs ⊢
  refine WC.sr (WL.val (V.lss (OV.p rfl) (OV.p rfl)) rfl (WL.nil (WC.seq ?_)))
  refine WC.cond rfl (fun hc1 => ?_) (fun hc1 => ?_)
  ·simp only [decide_eq_true_eq, decide_eq_false_iff_not] at hc1
   obtain ⟨x, hx⟩ : ∃ x, fs[k]? = some x := ⟨_, List.getElem?_eq_getElem (by omega)⟩
   have hel : ∀ (j : Nat) v, x.cells[j]? = some v → Rd K F (A.map (·.add (k * 5 + j))) v := fun j v hj => vM hs hx hj
   have htk : fs.take (k + 1) = fs.take k ++ [x] := by rw [List.take_add_one, hx]; rfl
   have hti : (k : Int).toNat = k := by omega
   refine WC.skip (WC.seq (WC.block (WC.sr ?_)))
   refine WL.val (V.aC (v' := sp A (k * 5)) (V.dS lM (OV.p rfl) (OV.p rfl) (fun hc => by omega) (fun hc => by rw [hti]; repeat (first | exact hel 0 _ rfl | apply Rd.up))) (fun _ => by rw [hti])) rfl ?_
   refine WL.val (V.CQ (vs := x.cells) ⟨Tryz.isAgg139, Tryz.sizeOf139⟩ (OV.p rfl) rfl (by decide) (fun _ j v hj => by repeat (first | exact hel j v hj | apply Rd.up))) rfl ?_
   refine WL.alloc (cs := [(.int .i64 0), (.int .i64 0), (.int .i64 0), (.int .i64 0), (.bool false)]) Tryz.zeroValue139 rfl rfl (fun b10 => ?_)
   refine WL.store (cs := [_, _, _, _, _]) Tryz.sizeOf139 (OV.p rfl) (OV.p rfl) rfl rfl rfl (by repeat (first | exact bA.here (cs' := [_, _, _, _, _]) rfl rfl | apply bA.up)) ?_
   refine WL.nil (WC.sr (WL.val (V.fieldAddr mI (OV.p rfl)) rfl (WL.val (V.fieldAddr yR (OV.p rfl)) rfl (WL.ld Tryz.isAgg3 rfl rfl ?_))))
   refine WL.sg rfl rfl (WL.nil (WC.sr (WL.val (V.fieldAddr Nn (OV.p rfl)) rfl (WL.ld Tryz.isAgg4 rfl rfl ?_))))
   refine WL.mv rfl rfl (WL.av (oj := _) rfl rfl rfl GC.t (V.move (OV.p rfl)) rfl (WL.av (oj := _) rfl rfl rfl GC.t (V.geq (OV.g rfl id) (OV.p rfl)) rfl (WL.val (V.aJ (OV.p rfl) (OV.g rfl id)) rfl (WL.mv rfl rfl (WL.av (oj := _) rfl rfl rfl GC.t (V.move (OV.p rfl)) rfl (WL.av (oj := _) rfl rfl rfl GC.t (V.move (OV.p rfl)) rfl (WL.av (oj := _) rfl rfl rfl GC.t (V.lss (OV.g rfl id) (OV.g rfl id)) rfl (WL.val (V.aJ (OV.p rfl) (OV.g rfl id)) rfl (WL.nil ?_)))))))))
   refine WC.cond rfl (fun hc2 => ?_) (fun hc2 => ?_)
   ·simp only [Bool.and_eq_true, Bool.and_eq_false_iff, decide_eq_true_eq, decide_eq_false_iff_not] at hc2
    have h2 := hc2
    obtain ⟨lb, hlb⟩ : ∃ lb : Nat, x.hd.aB = (lb : Int) := ⟨x.hd.aB.toNat, by omega⟩
    have hll : lb < aj := by omega
    obtain ⟨r, hr⟩ : ∃ r, r = rs[lb]'(by omega) := ⟨_, rfl⟩
    have hrg : rs[lb]? = some r := by rw [hr]; exact List.getElem?_eq_getElem (by omega)
    have hrl2 : r.l = (fs.take k).filter (jW lb) := by
      have h3 : (rs.map bq.l)[lb]? = some r.l := by rw [List.getElem?_map, hrg]; rfl
      rw [hrs] at h3
      simp only [gF, List.getElem?_map, List.getElem?_range hll, Option.map_some] at h3
      injection h3 with h3
      exact h3.symm
    have hrb : r.l.length ≤ 20 := by rw [hrl2]; exact Nat.le_trans (List.length_filter_le _ _) (by rw [List.length_take]; omega)
    have hrow : (rs.map bq.row)[lb]'(by rw [List.length_map]; omega) = r.row := by rw [List.getElem_map, hr]
    have MO : (rs.map bq.v)[0 + x.hd.aB.toNat * 1]? = some r.v := by rw [hlb, show 0 + ((lb : Nat) : Int).toNat * 1 = lb by omega, List.getElem?_map, hrg]; rfl
    refine WC.sub (H' := aU (.slice r.A r.l.length r.c) 139 5 r.l.length (bP r.l) :: Cells bo 111 (rs.map bq.v) :: bG ((rs.map bq.row).eraseIdx lb) :: Cells b10 139 x.cells :: F) (Sub.refl _) (fun w h => by
      have h4 := Sat.takeA (k := lb) (by rw [List.length_map]; omega) (h.sel 3 [2, 1, 0] rfl)
      rw [hrow] at h4
      exact h4.sel 4 [0, 2, 1, 3] rfl) ?_
    refine WC.dR (bG ((rs.map bq.row).eraseIdx lb) :: Cells b10 139 x.cells :: F) (by kernel_rfl) ?_
    refine WA.t 0 rfl (V.move (OV.p rfl)) (WA.t 1 rfl (V.move (OV.p rfl)) (WA.t 2 rfl (V.move (OV.p rfl)) (WA.t 3 rfl (V.move (OV.p rfl)) ?_)))
    refine WA.t 4 rfl (V.bR Ci (OV.p rfl) (OV.p rfl) (fun hc => by omega)) ?_
    refine WA.t 6 rfl (V.bB (vs := [_, _, _, _, _]) ⟨Tryz.isAgg139, Tryz.sizeOf139⟩ (OV.p rfl) rfl (fun _ => by repeat (first | exact bD.gets ⟨rfl, rfl, rfl, rfl, rfl, trivial⟩ | apply bD.up))) ?_
    refine WA.two (i := 5) (j := 7) (fun w h => by repeat (first | exact h | replace h := h.tail)) (by kernel_rfl) rfl rfl ?_ ?_
    ·refine WL.val (V.load Tryz.isAgg111 (OV.p rfl) (fun _ => by repeat (first | exact Rd.here MO | apply Rd.up))) rfl ?_
     refine WL.nil (WA.o 7 rfl ?_)
     refine WL.buildSlice (E := 139) (cs := [_, _, _, _, _]) (vs := [(0, _)]) ⟨OV.p rfl, trivial⟩ rfl (tT _ _ _ _ _) rfl (fun UF => ?_)
     refine WL.nil (WA.o 8 rfl ?_)
     refine WL.sub (Sub.refl _) (fun w h => h.p1) ?_
     refine WL.append (m := r.l.length) (q := 1) (news := x.cells) Tryz.underlying111 Lb (OV.p rfl) (OV.p rfl) (Seq.all rfl) (fun u hu => by simpa using List.all_eq_true.1 (wE x) u hu) (by omega) rfl rfl (fun A5 c5 EJ ny => ?_)
     refine WL.nil ?_
     refine WA.t 9 rfl (V.bR Ci (OV.p rfl) (OV.p rfl) (fun hc => by omega)) ?_
     refine WA.o 10 rfl ?_
     refine WL.store (cs := [_]) Tryz.sizeOf111 (OV.p rfl) (OV.p rfl) rfl rfl rfl (bA.up (bA.up (bA.at_ (by rw [List.length_map]; omega)))) ?_
     refine WL.nil (WA.fin (WC.region (WL.ad rfl rfl rfl ?_)))
     refine WL.mv rfl rfl (WL.nil ?_)
     refine ⟨rfl, ?_⟩
     first
     | (refine ⟨(k + 1, rs.set lb ⟨A5, c5, r.l ++ [x]⟩), ⟨by show k + 1 ≤ n; omega, by show (rs.set _ _).length = aj; rw [List.length_set]; exact hrl, ?_⟩, (by show n - (k + 1) < n - k; omega), .cons rfl (.cons rfl (.cons rfl (.cons rfl (.cons rfl (.cons (look_eq rfl (by simp)) (.nil _)))))), fun w h => ?_⟩
        · show (rs.set lb _).map bq.l = _
          rw [htk, wW hll h2.1.1 hlb, List.map_set, hrs, ← hrl2]
        · have h5 := h.sel 5 [0, 3, 2] rfl
          have e1 : aU (.slice A5 (r.l.length + 1) c5) 139 5 (r.l.length + 1) (bP r.l ++ x.cells) = bq.row ⟨A5, c5, r.l ++ [x]⟩ := by
            unfold bq.row
            rw [iX, List.length_append]; rfl
          rw [e1] at h5
          have h6 := Sat.Bn (l := rs.map bq.row) (k := lb) (by rw [List.length_map]; omega) h5
          have e2 : (rs.map bq.v).set (0 + x.hd.aB.toNat * 1) (.slice A5 (r.l.length + 1) c5) = (rs.set lb ⟨A5, c5, r.l ++ [x]⟩).map bq.v := by
            rw [hlb, show 0 + ((lb : Nat) : Int).toNat * 1 = lb by omega, List.map_set]
            show _ = (rs.map bq.v).set lb (.slice A5 (r.l ++ [x]).length c5)
            rw [List.length_append]; rfl
          rw [e2, ← List.map_set] at h6
          exact h6.p1)
     | (refine ⟨(k + 1, rs), ⟨by show k + 1 ≤ n; omega, hrl, ?_⟩, (by show n - (k + 1) < n - k; omega), .cons rfl (.cons rfl (.cons rfl (.cons rfl (.cons rfl (.cons (look_eq rfl (by simp)) (.nil _)))))), fun w h => h.drop 1⟩
        show rs.map bq.l = _
        rw [htk, uf Gi, hrs])
    ·refine WL.buildSlice (E := 139) (cs := [_, _, _, _, _]) (vs := [(0, _)]) ⟨OV.p rfl, trivial⟩ rfl (tT _ _ _ _ _) rfl (fun UF => ?_)
     refine WL.nil (WA.o 5 rfl ?_)
     refine WL.val (V.load Tryz.isAgg111 (OV.p rfl) (fun _ => by repeat (first | exact Rd.here MO | apply Rd.up))) rfl ?_
     refine WL.nil (WA.o 8 rfl ?_)
     refine WL.sub (Sub.refl _) (fun w h => h.p1) ?_
     refine WL.append (m := r.l.length) (q := 1) (news := x.cells) Tryz.underlying111 Lb (OV.p rfl) (OV.p rfl) (Seq.all rfl) (fun u hu => by simpa using List.all_eq_true.1 (wE x) u hu) (by omega) rfl rfl (fun A5 c5 EJ ny => ?_)
     refine WL.nil ?_
     refine WA.t 9 rfl (V.bR Ci (OV.p rfl) (OV.p rfl) (fun hc => by omega)) ?_
     refine WA.o 10 rfl ?_
     refine WL.store (cs := [_]) Tryz.sizeOf111 (OV.p rfl) (OV.p rfl) rfl rfl rfl (bA.up (bA.up (bA.at_ (by rw [List.length_map]; omega)))) ?_
     refine WL.nil (WA.fin (WC.region (WL.ad rfl rfl rfl ?_)))
     refine WL.mv rfl rfl (WL.nil ?_)
     refine ⟨rfl, ?_⟩
     first
     | (refine ⟨(k + 1, rs.set lb ⟨A5, c5, r.l ++ [x]⟩), ⟨by show k + 1 ≤ n; omega, by show (rs.set _ _).length = aj; rw [List.length_set]; exact hrl, ?_⟩, (by show n - (k + 1) < n - k; omega), .cons rfl (.cons rfl (.cons rfl (.cons rfl (.cons rfl (.cons (look_eq rfl (by simp)) (.nil _)))))), fun w h => ?_⟩
        · show (rs.set lb _).map bq.l = _
          rw [htk, wW hll h2.1.1 hlb, List.map_set, hrs, ← hrl2]
        · have h5 := h.sel 5 [0, 3, 2] rfl
          have e1 : aU (.slice A5 (r.l.length + 1) c5) 139 5 (r.l.length + 1) (bP r.l ++ x.cells) = bq.row ⟨A5, c5, r.l ++ [x]⟩ := by
            unfold bq.row
            rw [iX, List.length_append]; rfl
          rw [e1] at h5
          have h6 := Sat.Bn (l := rs.map bq.row) (k := lb) (by rw [List.length_map]; omega) h5
          have e2 : (rs.map bq.v).set (0 + x.hd.aB.toNat * 1) (.slice A5 (r.l.length + 1) c5) = (rs.set lb ⟨A5, c5, r.l ++ [x]⟩).map bq.v := by
            rw [hlb, show 0 + ((lb : Nat) : Int).toNat * 1 = lb by omega, List.map_set]
            show _ = (rs.map bq.v).set lb (.slice A5 (r.l ++ [x]).length c5)
            rw [List.length_append]; rfl
          rw [e2, ← List.map_set] at h6
          exact h6.p1)
     | (refine ⟨(k + 1, rs), ⟨by show k + 1 ≤ n; omega, hrl, ?_⟩, (by show n - (k + 1) < n - k; omega), .cons rfl (.cons rfl (.cons rfl (.cons rfl (.cons rfl (.cons (look_eq rfl (by simp)) (.nil _)))))), fun w h => h.drop 1⟩
        show rs.map bq.l = _
        rw [htk, uf Gi, hrs])
   ·simp only [Bool.and_eq_true, Bool.and_eq_false_iff, decide_eq_true_eq, decide_eq_false_iff_not] at hc2
    have h2 := hc2
    have Gi : ∀ aB, aB < aj → jW aB x = false := fun aB hl2 => by
      unfold jW
      rcases h2 with (h | h) | h
      · rw [h]; rfl
      · rw [decide_eq_false (show ¬ x.hd.aB = (aB : Int) by omega), Bool.and_false]
      · rw [decide_eq_false (show ¬ x.hd.aB = (aB : Int) by omega), Bool.and_false]
    refine WC.skip (WC.region (WL.ad rfl rfl rfl ?_))
    refine WL.mv rfl rfl (WL.nil ?_)
    refine ⟨rfl, ?_⟩
    first
    | (refine ⟨(k + 1, rs.set lb ⟨A5, c5, r.l ++ [x]⟩), ⟨by show k + 1 ≤ n; omega, by show (rs.set _ _).length = aj; rw [List.length_set]; exact hrl, ?_⟩, (by show n - (k + 1) < n - k; omega), .cons rfl (.cons rfl (.cons rfl (.cons rfl (.cons rfl (.cons (look_eq rfl (by simp)) (.nil _)))))), fun w h => ?_⟩
       · show (rs.set lb _).map bq.l = _
         rw [htk, wW hll h2.1.1 hlb, List.map_set, hrs, ← hrl2]
       · have h5 := h.sel 5 [0, 3, 2] rfl
         have e1 : aU (.slice A5 (r.l.length + 1) c5) 139 5 (r.l.length + 1) (bP r.l ++ x.cells) = bq.row ⟨A5, c5, r.l ++ [x]⟩ := by
           unfold bq.row
           rw [iX, List.length_append]; rfl
         rw [e1] at h5
         have h6 := Sat.Bn (l := rs.map bq.row) (k := lb) (by rw [List.length_map]; omega) h5
         have e2 : (rs.map bq.v).set (0 + x.hd.aB.toNat * 1) (.slice A5 (r.l.length + 1) c5) = (rs.set lb ⟨A5, c5, r.l ++ [x]⟩).map bq.v := by
           rw [hlb, show 0 + ((lb : Nat) : Int).toNat * 1 = lb by omega, List.map_set]
           show _ = (rs.map bq.v).set lb (.slice A5 (r.l ++ [x]).length c5)
           rw [List.length_append]; rfl
         rw [e2, ← List.map_set] at h6
         exact h6.p1)
    | (refine ⟨(k + 1, rs), ⟨by show k + 1 ≤ n; omega, hrl, ?_⟩, (by show n - (k + 1) < n - k; omega), .cons rfl (.cons rfl (.cons rfl (.cons rfl (.cons rfl (.cons (look_eq rfl (by simp)) (.nil _)))))), fun w h => h.drop 1⟩
       show rs.map bq.l = _
       rw [htk, uf Gi, hrs])
  ·simp only [decide_eq_true_eq, decide_eq_false_iff_not] at hc1
   refine WC.exit (WC.seq (WC.seq ?_))
   obtain rfl : k = n := by omega
   rw [List.take_of_length_le (by omega)] at hrs
   refine WC.region (WL.mv rfl rfl (WL.val (V.len (t := 140) Tryz.runUnderlying140 (OV.p rfl)) rfl (WL.mv rfl rfl (WL.nil (WC.block ?_)))))
   refine WC.loop (σ := Nat) (fun j => [(2, .func (.func f) #[] #[]), (8, .slice (some ⟨bo, 0, none⟩) aj aj), (53, .slice (some ⟨bo, 0, none⟩) aj aj), (54, .int .i64 (aj : Int)), (55, .int .i64 (j : Int))]) (fun j => Cells bo 111 (rs.map bq.v) :: bG ((jP c rs j).map bq.row) :: F) (fun j => j ≤ aj) (fun j => aj - j) 0 (Nat.zero_le _) (.cons rfl (.cons rfl (.cons rfl (.cons rfl (.cons rfl (.nil _)))))) (fun w h => h) ?_
   rintro j hj
   refine WC.sr (WL.val (V.lss (OV.p rfl) (OV.p rfl)) rfl (WL.nil (WC.seq ?_)))
   refine WC.cond rfl (fun hc3 => ?_) (fun hc3 => ?_)
   ·simp only [decide_eq_true_eq, decide_eq_false_iff_not] at hc3
    have hjl : j < aj := by omega
    obtain ⟨r, hr⟩ : ∃ r, r = rs[j]'(by omega) := ⟨_, rfl⟩
    have hrg : rs[j]? = some r := by rw [hr]; exact List.getElem?_eq_getElem (by omega)
    have hsl := kL c rs j
    have PX : (jP c rs j)[j]? = some r := by rw [rA c rs j (by omega), if_neg (Nat.lt_irrefl _)]; exact hrg
    have hrow : ((jP c rs j).map bq.row)[j]'(by rw [List.length_map]; omega) = r.row := by
      rw [List.getElem_map]
      congr 1
      rw [List.getElem?_eq_getElem (by omega)] at PX
      injection PX
    have MO : (rs.map bq.v)[0 + ((j : Nat) : Int).toNat * 1]? = some r.v := by rw [show 0 + ((j : Nat) : Int).toNat * 1 = j by omega, List.getElem?_map, hrg]; rfl
    have hrb : r.l.length < 20 := by
      have h3 : (rs.map bq.l)[j]? = some r.l := by rw [List.getElem?_map, hrg]; rfl
      rw [hrs] at h3
      simp only [gF, List.getElem?_map, List.getElem?_range hjl, Option.map_some] at h3
      injection h3 with h3
      rw [← h3]
      exact Nat.lt_of_le_of_lt (List.length_filter_le _ _) (by omega)
    refine WC.skip (WC.seq (WC.block (WC.sr ?_)))
    refine WL.val (V.bR Ci (OV.p rfl) (OV.p rfl) (fun hc => by omega)) rfl ?_
    refine WL.val (V.load Tryz.isAgg111 (OV.p rfl) (fun _ => Rd.here MO)) rfl ?_
    refine WL.sg rfl rfl (WL.nil ?_)
    refine WC.sub (H' := aU (.slice r.A r.l.length r.c) 139 5 r.l.length (bP r.l) :: bG (((jP c rs j).map bq.row).eraseIdx j) :: Cells bo 111 (rs.map bq.v) :: F) (Sub.refl _) (fun w h => by
      have h4 := Sat.takeA (k := j) (by rw [List.length_map]; omega) h.p1
      rw [hrow] at h4
      exact h4) ?_
    refine WC.region (WL.mv rfl rfl (WL.mv rfl rfl (WL.call (vs := [_, _]) Tryz.call105 ⟨OV.p rfl, OV.p rfl, trivial⟩ (A8 hf rfl hrb) rfl ?_)))
    rintro v0 H0 h0
    refine WL.nil (WC.region (WL.ad rfl rfl rfl ?_))
    refine WL.mv rfl rfl (WL.nil ?_)
    refine ⟨rfl, ?_⟩
    refine ⟨j + 1, hjl, (by show aj - (j + 1) < aj - j; omega), .cons rfl (.cons rfl (.cons rfl (.cons rfl (.cons (look_eq rfl (by simp)) (.nil _))))), fun w h => ?_⟩
    have h5 := h0 w h
    have e1 : aU (.slice r.A r.l.length r.c) 139 5 r.l.length (bP (dz (ltOf c) r.l)) = (r.sort c).row := by
      unfold bq.row bq.sort
      rw [fA]
    rw [e1] at h5
    have h6 := Sat.Bn (l := (jP c rs j).map bq.row) (k := j) (by rw [List.length_map]; omega) h5
    have e3 : rs.getD j Pq = r := by simp [List.getD, hrg]
    rw [← List.map_set] at h6
    dsimp only
    rw [jP, e3]
    exact h6.p1
   ·simp only [decide_eq_true_eq, decide_eq_false_iff_not] at hc3
    refine WC.exit (WC.sr (WL.mv rfl rfl (WL.sg rfl rfl (WL.sg rfl rfl (WL.nil (WC.ret ?_))))))
    obtain rfl : j = aj := by omega
    refine au.ret (H' := Cells bo 111 ((jP c rs j).map bq.v) :: bG ((jP c rs j).map bq.row) :: F) (aO.fD rfl rfl rfl) (fun w h => by rw [Ob c rs j (by omega)]; exact h) ⟨bo, jP c rs j, by rw [kL, hrl], ?_, rfl, rfl⟩
    have h7 := NK c rs
    rw [hrl] at h7
    rw [h7, hrs]
end
theorem zM {a b n : Nat} (ha : a < 2 ^ n) (hb : b * 2 ^ n < 4611686018427387904) (ha2 : a < 4611686018427387904) : bitsOf .or .i64 (a : Int) ((b * 2 ^ n : Nat) : Int) = ((a + b * 2 ^ n : Nat) : Int) := by
  have h1 : a + b * 2 ^ n < 9223372036854775808 := by omega
  unfold bitsOf
  dsimp only
  rw [fq, fq, BitVec.toNat_or, BitVec.toNat_ofNat, BitVec.toNat_ofNat]
  have e1 : a % 2 ^ IntKind.i64.bits = a := Nat.mod_eq_of_lt (by show a < 2 ^ 64; omega)
  have e2 : b * 2 ^ n % 2 ^ IntKind.i64.bits = b * 2 ^ n := Nat.mod_eq_of_lt (by show b * 2 ^ n < 2 ^ 64; omega)
  rw [e1, e2]
  have e3 : a ||| b * 2 ^ n = a + b * 2 ^ n := by
    have := Nat.two_pow_add_eq_or_of_lt ha b
    rw [Nat.mul_comm b, Nat.or_comm, ← this, Nat.add_comm]
  rw [e3]
  exact wrap_i64 (by omega)
theorem Ef {x n : Nat} (hn : n ≤ 24) (hx : x < 256) : IntKind.i64.wrap ((x : Int) * 2 ^ (min (n : Int).toNat IntKind.i64.bits)) = ((x * 2 ^ n : Nat) : Int) := by
  have h1 : min (n : Int).toNat IntKind.i64.bits = n := by rw [Int.toNat_natCast]; exact Nat.min_eq_left (by show n ≤ 64; omega)
  have h2 : x * 2 ^ n ≤ 255 * 2 ^ 24 := Nat.mul_le_mul (by omega) (Nat.pow_le_pow_right (by decide) hn)
  rw [h1, show (x : Int) * 2 ^ n = ((x * 2 ^ n : Nat) : Int) by rw [Int.natCast_mul, Int.natCast_pow]; rfl]
  exact wrap_i64 (by omega)
theorem rC {g : Geo} {d : List Nat} {h : Hd} (hg : g.aD) (hp : gH g d = some h) : d.length = g.room.toNat ∧ h.may g = true ∧ d = gP g h := by
  unfold gH at hp
  split at hp
  · rename_i h1
    injection hp with hp
    subst hp
    simp only [Bool.and_eq_true, decide_eq_true_eq] at h1
    exact ⟨by rw [← h1.2, kP hg], h1.1, h1.2.symm⟩
  · cases hp
section
variable {g : Geo} {K : World} {F : List ak}
theorem tO (hg : g.aD) (h : Hd) (hn : h.len ≤ 1099511627776) (hl : 0 ≤ h.aB) (hk : 0 ≤ h.num) :
    Does Tryz.prog 85 #[g.v, h.v] K F (fun v H' => (h.may g = true ∧ ∃ A' c', v = .tuple #[.slice A' g.room.toNat c', .int .i64 0] ∧ H' = aU (.slice A' g.room.toNat c') 5 1 g.room.toNat (aA .u8 (gP g h)) :: F) ∨
      (h.may g = false ∧ v = .tuple #[.slice none 0 0, .int .i64 1] ∧ H' = F)) := by
  have hr := Geo.iQ hg
  refine Does.enter Tryz.func85 rfl Tryz.ntmps85 rfl ?_
  simp only [aI, Nat.reduceAdd]
  refine WC.sr ?_
  refine WL.box (cs := [_, _, _, _, _]) (OV.p rfl) rfl rfl (fun b2 => ?_)
  refine WL.box (cs := [_, _, _]) (OV.p rfl) rfl rfl (fun b3 => ?_)
  refine WL.sg rfl rfl (WL.sg rfl rfl (WL.nil (WC.seq (WC.sr ?_))))
  refine WL.val (V.bB (vs := [_, _, _, _, _]) ⟨Tryz.isAgg23, Tryz.sizeOf23⟩ (OV.p rfl) rfl (fun _ => by repeat (first | exact bD.gets ⟨rfl, rfl, rfl, rfl, rfl, trivial⟩ | apply bD.up))) rfl ?_
  refine WL.val (V.bB (vs := [_, _, _]) ⟨Tryz.isAgg107, Tryz.sizeOf107⟩ (OV.p rfl) rfl (fun _ => by repeat (first | exact bD.gets ⟨rfl, rfl, rfl, trivial⟩ | apply bD.up))) rfl ?_
  refine WL.call (vs := [_, _]) Tryz.call112 ⟨OV.p rfl, OV.p rfl, trivial⟩ (LK hg h hn) rfl ?_
  rintro _ H0 ⟨rfl, h0⟩
  subst H0
  refine WL.val (V.not (OV.p rfl)) rfl (WL.nil ?_)
  refine WC.cond rfl (fun hc0 => ?_) (fun hc0 => ?_)
  ·skip
   have h0 := hc0
   simp only [Bool.not_eq_true', Bool.not_eq_false'] at h0
   refine WC.sr (WL.sg rfl rfl (WL.sg rfl rfl (WL.nil (WC.ret ?_))))
   exact au.ret (H' := F) (aO.fD rfl rfl rfl) (fun w h => h.drop 2) (.inr ⟨h0, rfl, rfl⟩)
  ·skip
   have h0 := hc0
   simp only [Bool.not_eq_true', Bool.not_eq_false'] at h0
   have hmb := h0
   unfold Hd.may Geo.fits at hmb
   simp only [Bool.and_eq_true, decide_eq_true_eq] at hmb
   refine WC.skip (WC.sr ?_)
   refine WL.val (V.bB (vs := [_, _, _, _, _]) ⟨Tryz.isAgg23, Tryz.sizeOf23⟩ (OV.p rfl) rfl (fun _ => by repeat (first | exact bD.gets ⟨rfl, rfl, rfl, rfl, rfl, trivial⟩ | apply bD.up))) rfl ?_
   refine WL.call (vs := [_]) Tryz.call80 ⟨OV.p rfl, trivial⟩ (iZ hg) rfl ?_
   rintro _ H0 ⟨rfl, h0⟩
   subst H0
   refine WL.mv rfl rfl (WL.xt rfl rfl rfl (WL.xt rfl rfl rfl (WL.sg rfl rfl (WL.sg rfl rfl (WL.nil (WC.sr ?_))))))
   refine WL.buildSlice (E := 5) (cs := [_, _, _, _]) (vs := [(0, _), (1, _), (2, _), (3, _)]) ⟨OV.p rfl, OV.p rfl, OV.p rfl, OV.p rfl, trivial⟩ rfl (iP _ _ _ _) rfl (fun b18 => ?_)
   refine WL.zQ Tryz.underlying43 Tryz.underlying5 (OV.p rfl) rfl (WL.val (V.fieldAddr yR (OV.p rfl)) rfl (WL.ld Tryz.isAgg3 rfl rfl ?_))
   refine WL.val (V.fieldAddr vE (OV.p rfl)) rfl (WL.ld Tryz.isAgg3 rfl rfl ?_)
   refine WL.val (V.fieldAddr jK (OV.p rfl)) rfl (WL.ld Tryz.isAgg3 rfl rfl ?_)
   refine WL.buildSlice (E := 3) (cs := [_, _, _]) (vs := [(0, _), (1, _), (2, _)]) ⟨OV.p rfl, OV.p rfl, OV.p rfl, trivial⟩ rfl (BA _ _ _) rfl (fun Pm => ?_)
   refine WL.call (vs := [_, _]) Tryz.call113 ⟨OV.p rfl, OV.p rfl, trivial⟩ (Kw (cs := [.int .u8 99, .int .u8 97, .int .u8 115, .int .u8 101]) (by repeat (first | exact Seq.PW rfl | apply Seq.up)) (Seq.all rfl)) rfl ?_
   rintro _ _ ⟨A1, c1, rfl, rfl⟩
   refine WL.sg rfl rfl (WL.nil (WC.sr (WL.mv rfl rfl (WL.mv rfl rfl (WL.sb rfl rfl rfl ?_)))))
   refine WL.Dj (m := 16) (q := g.room.toNat - 16) Tryz.underlying43 Tryz.underlying3 yD rfl rfl (OV.p rfl) (OV.p rfl) (by omega) (by omega) (by omega) rfl (fun A2 c2 hA2 hc2 => ?_)
   refine WL.sg rfl rfl (WL.sg rfl rfl (WL.nil (WC.ret ?_)))
   have e1 : 16 + (g.room.toNat - 16) = g.room.toNat := by omega
   refine au.ret (H' := aU (.slice A2 g.room.toNat c2) 5 1 g.room.toNat (aA .u8 (gP g h)) :: F) (aO.fD rfl (look_eq rfl (by rw [e1])) rfl) (fun w hw => ?_) (.inl ⟨h0, A2, c2, rfl, rfl⟩)
   have h' := hw.sel 5 [0] rfl
   rw [e1, wU hl, wU hmb.1.1.1.1.1, wU hk] at h'
   unfold gP
   rw [dI, dI, dI, dI, dF]
   exact h'
theorem jg {A : Option Addr} {m cap b i : Nat} {d : List Nat} (hs : Seq K F A m 1 (aA .u8 d)) (h8 : Small 256 d) (hb : Rd K F (some ⟨b, 0, none⟩) (.slice A m cap)) (hi : i + 3 < m) (hm : m ≤ 1000000) :
    aL Tryz.prog 98 #[.int .i64 (i : Int), ptr b 0] K F (.int .i64 (tL d i)) := by
  have hl : d.length = m := by simpa [aA] using hs.len
  obtain ⟨x0, e0⟩ : ∃ x, x = d.getD i 0 := ⟨_, rfl⟩
  obtain ⟨x1, e1⟩ : ∃ x, x = d.getD (i + 1) 0 := ⟨_, rfl⟩
  obtain ⟨x2, e2⟩ : ∃ x, x = d.getD (i + 2) 0 := ⟨_, rfl⟩
  obtain ⟨x3, e3⟩ : ∃ x, x = d.getD (i + 3) 0 := ⟨_, rfl⟩
  have b0 : x0 < 256 := by rw [e0]; exact h8.at_ (by decide) _
  have b1 : x1 < 256 := by rw [e1]; exact h8.at_ (by decide) _
  have b2 : x2 < 256 := by rw [e2]; exact h8.at_ (by decide) _
  have b3 : x3 < 256 := by rw [e3]; exact h8.at_ (by decide) _
  have rd : ∀ (k : Nat) (j : Int) x, j = (i + k : Nat) → k ≤ 3 → x = d.getD (i + k) 0 → Rd K F (A.map (·.add (j.toNat * 1))) (.int .u8 (x : Int)) := fun k j x hj hk hx => by
    rw [hj, hx, Int.toNat_natCast]
    exact hs.gU (by omega)
  have r0 := rd 0 (i : Int) x0 (by omega) (by omega) e0
  have r1 := rd 1 ((i : Int) + 1) x1 (by omega) (by omega) e1
  have r2 := rd 2 ((i : Int) + 2) x2 (by omega) (by omega) e2
  have r3 := rd 3 ((i : Int) + 3) x3 (by omega) (by omega) e3
  have hres : tL d i = ((x0 + x1 * 2 ^ 8 + x2 * 2 ^ 16 + x3 * 2 ^ 24 : Nat) : Int) := by unfold tL; rw [← e0, ← e1, ← e2, ← e3]; omega
  rw [hres]
  refine Does.enter Tryz.func98 rfl Tryz.ntmps98 rfl ?_
  simp only [aI, Nat.reduceAdd]
  refine WC.sr (WL.sg rfl rfl (WL.nil (WC.seq ?_)))
  refine WC.eG (by kernel_rfl) (by kernel_rfl) ?_
  refine WQ.val (V.load Tryz.isAgg43 (OV.p rfl) (fun _ => hb)) rfl ?_
  refine WQ.val (V.move (OV.p rfl)) rfl ?_
  refine WQ.val (V.dS fE (OV.p rfl) (OV.p rfl) (fun hc => by omega) (fun hc => r0)) rfl ?_
  refine WQ.val (V.load Tryz.isAgg5 (OV.p rfl) (fun hc => r0)) rfl ?_
  refine WQ.val (V.u6 Tryz.runUnderlying5 Tryz.runUnderlying3 (OV.p rfl) (fun _ => wrap_i64 (by omega))) rfl ?_
  refine WQ.val (V.load Tryz.isAgg43 (OV.p rfl) (fun _ => hb)) rfl ?_
  refine WQ.val (V.move (OV.p rfl)) rfl ?_
  refine WQ.val (V.lI (OV.p rfl) (OV.p rfl) (fun hc => by first | omega | (simp at hc; omega))) rfl ?_
  refine WQ.val (V.dS fE (OV.p rfl) (OV.p rfl) (fun hc => by omega) (fun hc => r1)) rfl ?_
  refine WQ.val (V.load Tryz.isAgg5 (OV.p rfl) (fun hc => r1)) rfl ?_
  refine WQ.val (V.u6 Tryz.runUnderlying5 Tryz.runUnderlying3 (OV.p rfl) (fun _ => wrap_i64 (by omega))) rfl ?_
  refine WQ.val (V.aC (v' := .int .i64 ((x1 * 2 ^ 8 : Nat) : Int)) (V.shl (OV.p rfl) (OV.p rfl) (by omega)) (fun _ => congrArg _ (Ef (n := 8) (by decide) b1))) rfl ?_
  refine WQ.val (V.aC (v' := .int .i64 ((x0 + x1 * 2 ^ 8 : Nat) : Int)) (V.or (OV.p rfl) (OV.p rfl)) (fun _ => congrArg _ (zM (n := 8) (by omega) (by omega) (by omega)))) rfl ?_
  refine WQ.val (V.load Tryz.isAgg43 (OV.p rfl) (fun _ => hb)) rfl ?_
  refine WQ.val (V.move (OV.p rfl)) rfl ?_
  refine WQ.val (V.lI (OV.p rfl) (OV.p rfl) (fun hc => by first | omega | (simp at hc; omega))) rfl ?_
  refine WQ.val (V.dS fE (OV.p rfl) (OV.p rfl) (fun hc => by omega) (fun hc => r2)) rfl ?_
  refine WQ.val (V.load Tryz.isAgg5 (OV.p rfl) (fun hc => r2)) rfl ?_
  refine WQ.val (V.u6 Tryz.runUnderlying5 Tryz.runUnderlying3 (OV.p rfl) (fun _ => wrap_i64 (by omega))) rfl ?_
  refine WQ.val (V.aC (v' := .int .i64 ((x2 * 2 ^ 16 : Nat) : Int)) (V.shl (OV.p rfl) (OV.p rfl) (by omega)) (fun _ => congrArg _ (Ef (n := 16) (by decide) b2))) rfl ?_
  refine WQ.val (V.aC (v' := .int .i64 ((x0 + x1 * 2 ^ 8 + x2 * 2 ^ 16 : Nat) : Int)) (V.or (OV.p rfl) (OV.p rfl)) (fun _ => congrArg _ (zM (n := 16) (by omega) (by omega) (by omega)))) rfl ?_
  refine WQ.val (V.load Tryz.isAgg43 (OV.p rfl) (fun _ => hb)) rfl ?_
  refine WQ.val (V.move (OV.p rfl)) rfl ?_
  refine WQ.val (V.lI (OV.p rfl) (OV.p rfl) (fun hc => by first | omega | (simp at hc; omega))) rfl ?_
  refine WQ.val (V.dS fE (OV.p rfl) (OV.p rfl) (fun hc => by omega) (fun hc => r3)) rfl ?_
  refine WQ.val (V.load Tryz.isAgg5 (OV.p rfl) (fun hc => r3)) rfl ?_
  refine WQ.val (V.u6 Tryz.runUnderlying5 Tryz.runUnderlying3 (OV.p rfl) (fun _ => wrap_i64 (by omega))) rfl ?_
  refine WQ.val (V.aC (v' := .int .i64 ((x3 * 2 ^ 24 : Nat) : Int)) (V.shl (OV.p rfl) (OV.p rfl) (by omega)) (fun _ => congrArg _ (Ef (n := 24) (by decide) b3))) rfl ?_
  refine WQ.val (V.aC (v' := .int .i64 ((x0 + x1 * 2 ^ 8 + x2 * 2 ^ 16 + x3 * 2 ^ 24 : Nat) : Int)) (V.or (OV.p rfl) (OV.p rfl)) (fun _ => congrArg _ (zM (n := 24) (by omega) (by omega) (by omega)))) rfl ?_
  refine WQ.val (V.assign (OV.p rfl)) rfl (WQ.nil (WC.ret ?_))
  exact au.ret (H' := F) (aO.tmp rfl rfl) (fun w h => h) ⟨rfl, rfl⟩
theorem bytes_Equal {A B : Option Addr} {m q cap cap' : Nat} {d e : List Nat} (hs : Seq K F A m 1 (aA .u8 d)) (hq : Seq K F B q 1 (aA .u8 e)) (hd : Small 256 d) (he : Small 256 e) :
    aL Tryz.prog 99 #[.slice A m cap, .slice B q cap'] K F (.bool (decide (d = e))) := by
  refine Does.enter Tryz.func99 rfl Tryz.ntmps99 rfl ?_
  simp only [aI, Nat.reduceAdd]
  refine WC.sr (WL.sg rfl rfl (WL.nil (WC.sr (WL.mv rfl rfl ?_))))
  refine WL.val (V.Ac (xs := aZ d) Tryz.underlying43 Tryz.underlying5 Tryz.underlying9 (OV.p rfl) (fun _ => by rw [← l5]; exact hs)) rfl ?_
  refine WL.mv rfl rfl ?_
  refine WL.val (V.Ac (xs := aZ e) Tryz.underlying43 Tryz.underlying5 Tryz.underlying9 (OV.p rfl) (fun _ => by rw [← l5]; exact hq)) rfl ?_
  refine WL.val (V.Sn (OV.p rfl) (OV.p rfl)) rfl (WL.sg rfl rfl (WL.nil (WC.ret ?_)))
  refine au.ret (H' := F) (aO.tmp rfl rfl) (fun w h => h) ⟨?_, rfl⟩
  rw [str_eq (oI hd) (oI he)]
  congr 1
  apply decide_eq_decide.2
  exact ⟨fun h => by rw [← jN d, h, jN], fun h => by rw [h]⟩
def eP (g : Geo) (d : List Nat) : Hd := (gH g d).getD ⟨0, 0, 0⟩
def gq (g : Geo) (d : List Nat) : Int := match gH g d with | some _ => 0 | none => if d.length = g.room.toNat then 4 else 1
theorem Bo {A : Option Addr} {m cap : Nat} {d : List Nat} (hg : g.aD) (hs : Seq K F A m 1 (aA .u8 d)) (h8 : Small 256 d) (hm : m ≤ 1000000) :
    aL Tryz.prog 71 #[g.v, .slice A m cap] K F (.tuple #[(eP g d).v, .int .i64 (gq g d)]) := by
  have hl : d.length = m := by simpa [aA] using hs.len
  have hr := Geo.iQ hg
  by_cases hlen : (m : Int) = g.room
  rotate_left
  · have hn : gH g d = none := by
      cases hp : gH g d with
      | none => rfl
      | some h => have := (rC hg hp).1; omega
    have e1 : eP g d = ⟨0, 0, 0⟩ := by unfold eP; rw [hn]; rfl
    have e2 : gq g d = 1 := by unfold gq; rw [hn]; exact if_neg (by omega)
    rw [e1, e2]
    refine Does.enter Tryz.func71 rfl Tryz.ntmps71 rfl ?_
    simp only [aI, Nat.reduceAdd]
    refine WC.sr ?_
    refine WL.box (cs := [_, _, _, _, _]) (OV.p rfl) rfl rfl (fun b2 => ?_)
    refine WL.box (cs := [_]) (OV.p rfl) rfl rfl (fun b3 => ?_)
    refine WL.alloc (cs := [(.int .i64 0), (.int .i64 0), (.int .i64 0)]) Tryz.zeroValue107 rfl rfl (fun b4 => ?_)
    refine WL.sg rfl rfl (WL.nil (WC.sr ?_))
    refine WL.val (V.bB (vs := [_, _, _, _, _]) ⟨Tryz.isAgg23, Tryz.sizeOf23⟩ (OV.p rfl) rfl (fun _ => by repeat (first | exact bD.gets ⟨rfl, rfl, rfl, rfl, rfl, trivial⟩ | apply bD.up))) rfl ?_
    refine WL.call (vs := [_]) Tryz.call80 ⟨OV.p rfl, trivial⟩ (iZ hg) rfl ?_
    rintro _ H0 ⟨rfl, h0⟩
    subst H0
    refine WL.mv rfl rfl (WL.xt rfl rfl rfl (WL.xt rfl rfl rfl (WL.sg rfl rfl (WL.sg rfl rfl (WL.nil (WC.seq (WC.sr (WL.mv rfl rfl (WL.val (V.neq (OV.p rfl) (OV.p rfl)) rfl (WL.mv rfl rfl ?_))))))))))
    refine WL.av (oj := _) rfl rfl rfl GC.f (V.load Tryz.isAgg43 (OV.p rfl) (fun _ => by repeat (first | exact Rd.here rfl | apply Rd.up))) rfl ?_
    refine WL.av (oj := _) rfl rfl rfl GC.f (V.len (t := 43) Tryz.runUnderlying43 (OV.g rfl id)) rfl (WL.av (oj := _) rfl rfl rfl GC.f (V.move (OV.p rfl)) rfl (WL.av (oj := _) rfl rfl rfl GC.f (V.neq (OV.g rfl id) (OV.g rfl id)) rfl (WL.val (V.bH (OV.p rfl) (OV.g rfl id)) rfl (WL.nil ?_))))
    refine WC.dV rfl ((by simp; omega)) ?_
    refine WC.sr (WL.val (V.build (vs := []) trivial rfl (G9 )) rfl ?_)
    refine WL.store (cs := [_, _, _]) Tryz.sizeOf107 (OV.p rfl) (OV.p rfl) rfl rfl rfl (by repeat (first | exact bA.here (cs' := [_, _, _]) rfl rfl | apply bA.up)) ?_
    refine WL.sg rfl rfl (WL.nil (WC.ret ?_))
    exact au.ret (H' := F) (aO.two rfl (R1.xZ (vs := [_, _, _]) rfl ⟨Tryz.isAgg107, Tryz.sizeOf107⟩ rfl (by repeat (first | exact bD.gets ⟨rfl, rfl, rfl, trivial⟩ | apply bD.up))) (R1.tmp rfl)) (fun w h => h.drop 3) ⟨rfl, rfl⟩
  obtain ⟨h, hh⟩ : ∃ h, h = wL d := ⟨_, rfl⟩
  have db : ∀ i, 0 ≤ tL d i ∧ tL d i < 4294967296 := fun i => by
    have x0 := h8.at_ (by decide) i
    have x1 := h8.at_ (by decide) (i + 1)
    have x2 := h8.at_ (by decide) (i + 2)
    have x3 := h8.at_ (by decide) (i + 3)
    unfold tL
    omega
  have hb : h = ⟨tL d 4, tL d 8, tL d 12⟩ := hh
  have h0l : 0 ≤ h.aB := by rw [hb]; exact (db 4).1
  have h0k : 0 ≤ h.num := by rw [hb]; exact (db 12).1
  have SK : h.len ≤ 1099511627776 := by rw [hb]; have := (db 8).2; show tL d 8 ≤ _; omega
  cases Es : h.may g with
  | false =>
    have hn : gH g d = none := by unfold gH; rw [← hh, Es]; rfl
    have e1 : eP g d = ⟨0, 0, 0⟩ := by unfold eP; rw [hn]; rfl
    have e2 : gq g d = 4 := by unfold gq; rw [hn]; exact if_pos (by omega)
    rw [e1, e2]
    have hby : ∀ (K : World) (F : List ak), aL Tryz.prog 85 #[g.v, h.v] K F (.tuple #[.slice none 0 0, .int .i64 1]) := fun K F => (tO hg h SK h0l h0k).mono (fun v H' hx => by
      rcases hx with ⟨h1, _⟩ | ⟨_, h2, h3⟩
      · rw [Es] at h1; cases h1
      · exact ⟨h2, h3⟩)
    rw [hb] at hby
    refine Does.enter Tryz.func71 rfl Tryz.ntmps71 rfl ?_
    simp only [aI, Nat.reduceAdd]
    refine WC.sr ?_
    refine WL.box (cs := [_, _, _, _, _]) (OV.p rfl) rfl rfl (fun b2 => ?_)
    refine WL.box (cs := [_]) (OV.p rfl) rfl rfl (fun b3 => ?_)
    refine WL.alloc (cs := [(.int .i64 0), (.int .i64 0), (.int .i64 0)]) Tryz.zeroValue107 rfl rfl (fun b4 => ?_)
    refine WL.sg rfl rfl (WL.nil (WC.sr ?_))
    refine WL.val (V.bB (vs := [_, _, _, _, _]) ⟨Tryz.isAgg23, Tryz.sizeOf23⟩ (OV.p rfl) rfl (fun _ => by repeat (first | exact bD.gets ⟨rfl, rfl, rfl, rfl, rfl, trivial⟩ | apply bD.up))) rfl ?_
    refine WL.call (vs := [_]) Tryz.call80 ⟨OV.p rfl, trivial⟩ (iZ hg) rfl ?_
    rintro _ H0 ⟨rfl, h0⟩
    subst H0
    refine WL.mv rfl rfl (WL.xt rfl rfl rfl (WL.xt rfl rfl rfl (WL.sg rfl rfl (WL.sg rfl rfl (WL.nil (WC.seq (WC.sr (WL.mv rfl rfl (WL.val (V.neq (OV.p rfl) (OV.p rfl)) rfl (WL.mv rfl rfl ?_))))))))))
    refine WL.av (oj := _) rfl rfl rfl GC.f (V.load Tryz.isAgg43 (OV.p rfl) (fun _ => by repeat (first | exact Rd.here rfl | apply Rd.up))) rfl ?_
    refine WL.av (oj := _) rfl rfl rfl GC.f (V.len (t := 43) Tryz.runUnderlying43 (OV.g rfl id)) rfl (WL.av (oj := _) rfl rfl rfl GC.f (V.move (OV.p rfl)) rfl (WL.av (oj := _) rfl rfl rfl GC.f (V.neq (OV.g rfl id) (OV.g rfl id)) rfl (WL.val (V.bH (OV.p rfl) (OV.g rfl id)) rfl (WL.nil ?_))))
    refine WC.aQ rfl ((by simp; omega)) ?_
    refine WC.skip (WC.sr (WL.val (V.makeFunc (us := []) (vs := [_]) trivial ⟨OV.p rfl, trivial⟩) rfl (WL.sg rfl rfl (WL.nil (WC.sr (WL.mv rfl rfl ?_))))))
    refine WL.mg (first := []) (vs := [_]) (captured := [ptr b3 0]) Tryz.call98 (OV.p rfl) ⟨OV.p rfl, trivial⟩ (jg (i := 4) (by repeat (first | exact hs | apply Seq.up)) h8 (by repeat (first | exact Rd.here rfl | apply Rd.up)) (by omega) hm) rfl ?_
    rintro _ _ ⟨rfl, rfl⟩
    refine WL.mv rfl rfl ?_
    refine WL.mg (first := []) (vs := [_]) (captured := [ptr b3 0]) Tryz.call98 (OV.p rfl) ⟨OV.p rfl, trivial⟩ (jg (i := 8) (by repeat (first | exact hs | apply Seq.up)) h8 (by repeat (first | exact Rd.here rfl | apply Rd.up)) (by omega) hm) rfl ?_
    rintro _ _ ⟨rfl, rfl⟩
    refine WL.mv rfl rfl ?_
    refine WL.mg (first := []) (vs := [_]) (captured := [ptr b3 0]) Tryz.call98 (OV.p rfl) ⟨OV.p rfl, trivial⟩ (jg (i := 12) (by repeat (first | exact hs | apply Seq.up)) h8 (by repeat (first | exact Rd.here rfl | apply Rd.up)) (by omega) hm) rfl ?_
    rintro _ _ ⟨rfl, rfl⟩
    refine WL.val (V.build (vs := [(0, _), (1, _), (2, _)]) ⟨OV.p rfl, OV.p rfl, OV.p rfl, trivial⟩ rfl (nW _ _ _)) rfl ?_
    refine WL.alloc (cs := [(.int .i64 0), (.int .i64 0), (.int .i64 0)]) Tryz.zeroValue107 rfl rfl (fun b9 => ?_)
    refine WL.store (cs := [_, _, _]) Tryz.sizeOf107 (OV.p rfl) (OV.p rfl) rfl rfl rfl (by repeat (first | exact bA.here (cs' := [_, _, _]) rfl rfl | apply bA.up)) ?_
    refine WL.nil (WC.seq (WC.sr ?_))
    refine WL.val (V.bB (vs := [_, _, _, _, _]) ⟨Tryz.isAgg23, Tryz.sizeOf23⟩ (OV.p rfl) rfl (fun _ => by repeat (first | exact bD.gets ⟨rfl, rfl, rfl, rfl, rfl, trivial⟩ | apply bD.up))) rfl ?_
    refine WL.val (V.bB (vs := [_, _, _]) ⟨Tryz.isAgg107, Tryz.sizeOf107⟩ (OV.p rfl) rfl (fun _ => by repeat (first | exact bD.gets ⟨rfl, rfl, rfl, trivial⟩ | apply bD.up))) rfl ?_
    refine WL.call (vs := [_, _]) Tryz.call85 ⟨OV.p rfl, OV.p rfl, trivial⟩ (hby _ _) rfl ?_
    rintro _ H0 ⟨rfl, h0⟩
    subst H0
    refine WL.mv rfl rfl (WL.xt rfl rfl rfl (WL.xt rfl rfl rfl (WL.sg rfl rfl (WL.sg rfl rfl (WL.nil (WC.sr (WL.mv rfl rfl (WL.val (V.neq (OV.p rfl) (OV.p rfl)) rfl (WL.mv rfl rfl ?_)))))))))
    refine WL.uE (oj := _) rfl rfl rfl rfl rfl (fun d hd => by injection hd with hd; subst hd; rfl) ?_
    refine WL.uE (oj := _) rfl rfl rfl rfl rfl (fun d hd => by injection hd with hd; subst hd; rfl) ?_
    refine WL.uE (oj := _) rfl rfl rfl rfl rfl (fun d hd => by injection hd with hd; subst hd; rfl) ?_
    refine WL.uE (oj := _) rfl rfl rfl rfl rfl (fun d hd => by injection hd with hd; subst hd; rfl) ?_
    refine WL.val (V.OB (OV.p rfl) (OV.p rfl)) rfl (WL.nil ?_)
    refine WC.dV rfl (by first | rfl | (simp; done) | (simp; omega)) ?_
    refine WC.sr (WL.val (V.build (vs := []) trivial rfl (G9 )) rfl ?_)
    refine WL.store (cs := [_, _, _]) Tryz.sizeOf107 (OV.p rfl) (OV.p rfl) rfl rfl rfl (by repeat (first | exact bA.here (cs' := [_, _, _]) rfl rfl | apply bA.up)) ?_
    refine WL.sg rfl rfl (WL.nil (WC.ret ?_))
    exact au.ret (H' := F) (aO.two rfl (R1.xZ (vs := [_, _, _]) rfl ⟨Tryz.isAgg107, Tryz.sizeOf107⟩ rfl (by repeat (first | exact bD.gets ⟨rfl, rfl, rfl, trivial⟩ | apply bD.up))) (R1.tmp rfl)) (fun w h => h.drop 4) ⟨rfl, rfl⟩
  | true =>
    have hby : ∀ (K : World) (F : List ak), Does Tryz.prog 85 #[g.v, h.v] K F (fun v H' => ∃ A' c', v = .tuple #[.slice A' g.room.toNat c', .int .i64 0] ∧ H' = aU (.slice A' g.room.toNat c') 5 1 g.room.toNat (aA .u8 (gP g h)) :: F) := fun K F => (tO hg h SK h0l h0k).mono (fun v H' hx => by
      rcases hx with ⟨_, h2⟩ | ⟨h1, _⟩
      · exact h2
      · rw [Es] at h1; cases h1)
    have hpf : gH g d = if gP g h = d then some h else none := by
      unfold gH
      rw [← hh, Es, Bool.true_and]
      by_cases he : gP g h = d
      · rw [decide_eq_true he, if_pos rfl, if_pos he]
      · rw [decide_eq_false he, if_neg Bool.false_ne_true, if_neg he]
    have hbl := kP hg h
    have Rb := pK g h
    obtain ⟨hB, UN⟩ : ∃ hB, hB = gP g h := ⟨_, rfl⟩
    rw [← UN] at hbl Rb hpf hby
    rw [hb] at hby
    refine Does.enter Tryz.func71 rfl Tryz.ntmps71 rfl ?_
    simp only [aI, Nat.reduceAdd]
    refine WC.sr ?_
    refine WL.box (cs := [_, _, _, _, _]) (OV.p rfl) rfl rfl (fun b2 => ?_)
    refine WL.box (cs := [_]) (OV.p rfl) rfl rfl (fun b3 => ?_)
    refine WL.alloc (cs := [(.int .i64 0), (.int .i64 0), (.int .i64 0)]) Tryz.zeroValue107 rfl rfl (fun b4 => ?_)
    refine WL.sg rfl rfl (WL.nil (WC.sr ?_))
    refine WL.val (V.bB (vs := [_, _, _, _, _]) ⟨Tryz.isAgg23, Tryz.sizeOf23⟩ (OV.p rfl) rfl (fun _ => by repeat (first | exact bD.gets ⟨rfl, rfl, rfl, rfl, rfl, trivial⟩ | apply bD.up))) rfl ?_
    refine WL.call (vs := [_]) Tryz.call80 ⟨OV.p rfl, trivial⟩ (iZ hg) rfl ?_
    rintro _ H0 ⟨rfl, h0⟩
    subst H0
    refine WL.mv rfl rfl (WL.xt rfl rfl rfl (WL.xt rfl rfl rfl (WL.sg rfl rfl (WL.sg rfl rfl (WL.nil (WC.seq (WC.sr (WL.mv rfl rfl (WL.val (V.neq (OV.p rfl) (OV.p rfl)) rfl (WL.mv rfl rfl ?_))))))))))
    refine WL.av (oj := _) rfl rfl rfl GC.f (V.load Tryz.isAgg43 (OV.p rfl) (fun _ => by repeat (first | exact Rd.here rfl | apply Rd.up))) rfl ?_
    refine WL.av (oj := _) rfl rfl rfl GC.f (V.len (t := 43) Tryz.runUnderlying43 (OV.g rfl id)) rfl (WL.av (oj := _) rfl rfl rfl GC.f (V.move (OV.p rfl)) rfl (WL.av (oj := _) rfl rfl rfl GC.f (V.neq (OV.g rfl id) (OV.g rfl id)) rfl (WL.val (V.bH (OV.p rfl) (OV.g rfl id)) rfl (WL.nil ?_))))
    refine WC.aQ rfl ((by simp; omega)) ?_
    refine WC.skip (WC.sr (WL.val (V.makeFunc (us := []) (vs := [_]) trivial ⟨OV.p rfl, trivial⟩) rfl (WL.sg rfl rfl (WL.nil (WC.sr (WL.mv rfl rfl ?_))))))
    refine WL.mg (first := []) (vs := [_]) (captured := [ptr b3 0]) Tryz.call98 (OV.p rfl) ⟨OV.p rfl, trivial⟩ (jg (i := 4) (by repeat (first | exact hs | apply Seq.up)) h8 (by repeat (first | exact Rd.here rfl | apply Rd.up)) (by omega) hm) rfl ?_
    rintro _ _ ⟨rfl, rfl⟩
    refine WL.mv rfl rfl ?_
    refine WL.mg (first := []) (vs := [_]) (captured := [ptr b3 0]) Tryz.call98 (OV.p rfl) ⟨OV.p rfl, trivial⟩ (jg (i := 8) (by repeat (first | exact hs | apply Seq.up)) h8 (by repeat (first | exact Rd.here rfl | apply Rd.up)) (by omega) hm) rfl ?_
    rintro _ _ ⟨rfl, rfl⟩
    refine WL.mv rfl rfl ?_
    refine WL.mg (first := []) (vs := [_]) (captured := [ptr b3 0]) Tryz.call98 (OV.p rfl) ⟨OV.p rfl, trivial⟩ (jg (i := 12) (by repeat (first | exact hs | apply Seq.up)) h8 (by repeat (first | exact Rd.here rfl | apply Rd.up)) (by omega) hm) rfl ?_
    rintro _ _ ⟨rfl, rfl⟩
    refine WL.val (V.build (vs := [(0, _), (1, _), (2, _)]) ⟨OV.p rfl, OV.p rfl, OV.p rfl, trivial⟩ rfl (nW _ _ _)) rfl ?_
    refine WL.alloc (cs := [(.int .i64 0), (.int .i64 0), (.int .i64 0)]) Tryz.zeroValue107 rfl rfl (fun b9 => ?_)
    refine WL.store (cs := [_, _, _]) Tryz.sizeOf107 (OV.p rfl) (OV.p rfl) rfl rfl rfl (by repeat (first | exact bA.here (cs' := [_, _, _]) rfl rfl | apply bA.up)) ?_
    refine WL.nil (WC.seq (WC.sr ?_))
    refine WL.val (V.bB (vs := [_, _, _, _, _]) ⟨Tryz.isAgg23, Tryz.sizeOf23⟩ (OV.p rfl) rfl (fun _ => by repeat (first | exact bD.gets ⟨rfl, rfl, rfl, rfl, rfl, trivial⟩ | apply bD.up))) rfl ?_
    refine WL.val (V.bB (vs := [_, _, _]) ⟨Tryz.isAgg107, Tryz.sizeOf107⟩ (OV.p rfl) rfl (fun _ => by repeat (first | exact bD.gets ⟨rfl, rfl, rfl, trivial⟩ | apply bD.up))) rfl ?_
    refine WL.call (vs := [_, _]) Tryz.call85 ⟨OV.p rfl, OV.p rfl, trivial⟩ (hby _ _) rfl ?_
    rintro _ _ ⟨A6, c6, rfl, rfl⟩
    refine WL.mv rfl rfl (WL.xt rfl rfl rfl (WL.xt rfl rfl rfl (WL.sg rfl rfl (WL.sg rfl rfl (WL.nil (WC.sr (WL.mv rfl rfl (WL.val (V.neq (OV.p rfl) (OV.p rfl)) rfl (WL.mv rfl rfl (WL.known (oj := _) rfl rfl rfl rfl (WL.mv rfl rfl (WL.known (oj := _) rfl rfl rfl rfl (WL.ld Tryz.isAgg43 rfl rfl ?_)))))))))))))
    refine WL.known (oj := _) rfl rfl rfl rfl ?_
    refine WL.call (vs := [_, _]) Tryz.call99 ⟨OV.p rfl, OV.p rfl, trivial⟩ (bytes_Equal (d := hB) (e := d) (by repeat (first | exact aU.seq (by rw [aH, hbl, Nat.mul_one]) | apply Seq.up)) (by repeat (first | exact hs | apply Seq.up)) Rb h8) rfl ?_
    rintro _ H0 ⟨rfl, h0⟩
    subst H0
    refine WL.known (oj := _) rfl rfl rfl rfl (WL.val (V.not (OV.p rfl)) rfl (WL.val (V.bH (OV.p rfl) (OV.p rfl)) rfl (WL.nil ?_)))
    refine WC.cond rfl (fun hc1 => ?_) (fun hc1 => ?_)
    ·skip
     have h1 := hc1
     simp at h1
     have e1 : eP g d = ⟨0, 0, 0⟩ := by unfold eP; rw [hpf, if_neg h1]; rfl
     have e2 : gq g d = 4 := by unfold gq; rw [hpf, if_neg h1]; exact if_pos (by omega)
     refine WC.sr (WL.val (V.build (vs := []) trivial rfl (G9 )) rfl ?_)
     refine WL.store (cs := [_, _, _]) Tryz.sizeOf107 (OV.p rfl) (OV.p rfl) rfl rfl rfl (by repeat (first | exact bA.here (cs' := [_, _, _]) rfl rfl | apply bA.up)) ?_
     refine WL.sg rfl rfl (WL.nil (WC.ret ?_))
     rw [e1, e2]
     exact au.ret (H' := F) (aO.two rfl (R1.xZ (vs := [_, _, _]) rfl ⟨Tryz.isAgg107, Tryz.sizeOf107⟩ rfl (by repeat (first | exact bD.gets ⟨rfl, rfl, rfl, trivial⟩ | apply bD.up))) (R1.tmp rfl)) (fun w h => h.sel 5 [] rfl) ⟨rfl, rfl⟩
    ·skip
     have h1 := hc1
     simp at h1
     have e1 : eP g d = h := by unfold eP; rw [hpf, if_pos h1]; rfl
     have e2 : gq g d = 0 := by unfold gq; rw [hpf, if_pos h1]
     refine WC.skip (WC.sr ?_)
     refine WL.val (V.bB (vs := [_, _, _]) ⟨Tryz.isAgg107, Tryz.sizeOf107⟩ (OV.p rfl) rfl (fun _ => by repeat (first | exact bD.gets ⟨rfl, rfl, rfl, trivial⟩ | apply bD.up))) rfl ?_
     refine WL.store (cs := [_, _, _]) Tryz.sizeOf107 (OV.p rfl) (OV.p rfl) rfl rfl rfl (by repeat (first | exact bA.here (cs' := [_, _, _]) rfl rfl | apply bA.up)) ?_
     refine WL.sg rfl rfl (WL.nil (WC.ret ?_))
     rw [e1, e2, hb]
     exact au.ret (H' := F) (aO.two rfl (R1.xZ (vs := [_, _, _]) rfl ⟨Tryz.isAgg107, Tryz.sizeOf107⟩ rfl (by repeat (first | exact bD.gets ⟨rfl, rfl, rfl, trivial⟩ | apply bD.up))) (R1.tmp rfl)) (fun w h => h.sel 5 [] rfl) ⟨rfl, rfl⟩
end
end Go.Proofs.YtcmojpiokjhmhaaGreat
