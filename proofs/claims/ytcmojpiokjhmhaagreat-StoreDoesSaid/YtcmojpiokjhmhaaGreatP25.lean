import Derived.Test.YtcmojpiokjhmhaaGreatP24
import Derived.Test.YtcmojpiokjhmhaaGreatP16
import Derived.Test.YtcmojpiokjhmhaaGreatP17
namespace Go.Proofs.YtcmojpiokjhmhaaGreat
open Go.Sl Go.RowKit
set_option linter.unusedVariables false
set_option linter.unusedSimpArgs false
set_option maxRecDepth 20000
def bS : List Int → ah → ah × Int
  | [], S => (S, 0)
  | x :: xs, S => if (S.aM x).2 = 70 then S.aM x else bS xs (S.aM x).1
def St.drop (T : St) (aC : Int) : St := { T with stands := T.stands.set aC.toNat (-1), stale := T.stale.set aC.toNat [] }
def bV (S : ah) (T : St) (aC : Int) : ah × St × Int :=
  if T.ready aC ≠ 0 then (S, T, T.ready aC)
  else if T.at' aC < 0 then (S, T, 0)
  else if (bS (T.stale.getD aC.toNat [] ++ [T.at' aC]) S).2 = 70 then ((bS (T.stale.getD aC.toNat [] ++ [T.at' aC]) S).1, T.told 70, 70)
  else ((bS (T.stale.getD aC.toNat [] ++ [T.at' aC]) S).1, T.drop aC, 0)
section
variable {bs bd bc : Nat} {g : Geo} {T : bC} {C : Cw} {K : World} {F : List aj}
theorem bC.RN {q : aX} {i : Nat} (hq : T.bY[i]? = some q) : Seq K (T.A bs bd g :: F) q.A q.l.length 1 (ints .i64 q.l) :=
  Seq.rR (A := bF (T.bY.map aX.row)) (l := bC.parts bs bd g T) (.tail _ (.tail _ (.tail _ (.head _)))) (Seq.rR (A := q.row) (List.mem_map.2 ⟨q, List.mem_of_getElem? hq, rfl⟩) (aZ.seq (by rw [aK, Nat.mul_one])))
theorem bC.Ul {q : aX} {i : Nat} (hq : T.bY[i]? = some q) : Rd K (T.A bs bd g :: F) (some ⟨T.b8, 0 + i * 1, none⟩) q.v :=
  Rd.rR (A := Cells T.b8 24 (T.bY.map aX.v)) (l := bC.parts bs bd g T) (.tail _ (.tail _ (.head _))) (Rd.here (by rw [Nat.zero_add, Nat.mul_one, List.getElem?_map, hq]; rfl))
theorem w9 (hC : C.Ok) (hg : C.g = g) (hT : T.Ok g) (aC : Int) (hlong : ∀ l ∈ T.sem.stale, l.length ≤ 100000) :
    Does Tryz.prog 22 #[ptr bs 0, .int .i64 aC] K (C.A bc :: bO bd bc g :: T.A bs bd g :: F)
    (fun v H' => ∃ (C' : Cw) (T' : bC), C'.Ok ∧ C'.g = g ∧ T'.Ok g ∧ C'.sem = (bV C.sem T.sem aC).1 ∧ T'.sem = (bV C.sem T.sem aC).2.1 ∧ v = .int .i64 (bV C.sem T.sem aC).2.2 ∧ H' = C'.A bc :: bO bd bc g :: T'.A bs bd g :: F) := by
  obtain ⟨R, hR⟩ : ∃ R, R = bV C.sem T.sem aC := ⟨_, rfl⟩
  rw [← hR]
  unfold bV at hR
  have hgm : g.aD := by rw [← hg]; exact hC.aD
  have hgb := hgm
  unfold Geo.aD at hgb
  have hlb := hT.au
  have hin : T.sem.ready aC = 0 → 0 ≤ aC ∧ aC < T.stands.length := fun h => by
    unfold St.ready bC.sem at h
    dsimp only at h
    split at h
    · cases h
    · split at h
      · cases h
      · omega
  refine Does.enter Tryz.func22 rfl Tryz.ntmps22 rfl ?_
  simp only [aH, Nat.reduceAdd]
  refine WC.sr (WL.sg rfl rfl (WL.nil (WC.seq (WC.sr (WL.mv rfl rfl (WL.mv rfl rfl ?_))))))
  refine WL.sub (Sub.refl _) (fun w h => h.sel 3 [2, 0, 1] rfl) ?_
  refine WL.call (vs := [_, _]) Tryz.call51 ⟨OV.p rfl, OV.p rfl, trivial⟩ (lU aC) rfl ?_
  rintro _ _ ⟨rfl, rfl⟩
  refine WL.sub (Sub.refl _) (fun w h => h.sel 3 [1, 2, 0] rfl) ?_
  refine WL.sg rfl rfl (WL.nil (WC.sr (WL.mv rfl rfl (WL.val (V.neq (OV.p rfl) (OV.p rfl)) rfl (WL.nil ?_)))))
  refine WC.cond rfl (fun hc0 => ?_) (fun hc0 => ?_)
  ·simp only [Bool.not_eq_true', Bool.not_eq_false', decide_eq_true_eq, decide_eq_false_iff_not] at hc0
   have h0 := hc0
   rw [if_pos h0] at hR
   refine WC.sr (WL.mv rfl rfl (WL.sg rfl rfl (WL.nil (WC.ret ?_))))
   subst hR
   exact ak.ret (H' := C.A bc :: bO bd bc g :: T.A bs bd g :: F) (aQ.tmp rfl rfl) (fun w h => h) ⟨C, T, hC, hg, hT, rfl, rfl, rfl, rfl⟩
  ·simp only [Bool.not_eq_true', Bool.not_eq_false', decide_eq_true_eq, decide_eq_false_iff_not] at hc0
   have h0 := hc0
   have hr0 : T.sem.ready aC = 0 := by omega
   rw [if_neg (fun h => h hr0)] at hR
   have hinl := hin hr0
   obtain ⟨b, hb⟩ : ∃ b, b = T.sem.at' aC := ⟨_, rfl⟩
   rw [← hb] at hR
   have hrs : ∀ {X Y : aj}, Rd K (X :: Y :: T.A bs bd g :: F) (T.sA.map (·.add (aC.toNat * 1))) (.int .i64 b) := fun {X Y} => by rw [hb]; exact Rd.up (Rd.up (bC.Pw hinl))
   refine WC.skip (WC.sr (WL.mv rfl rfl (WL.nc rfl rfl (WL.val (V.fieldAddr ku (OV.p rfl)) rfl ?_))))
   refine WL.val (V.load Tryz.isAgg24 (OV.p rfl) (fun _ => Rd.up (Rd.up (bC.rF 6 _ rfl)))) rfl ?_
   refine WL.mv rfl rfl ?_
   refine WL.val (V.eP cO (OV.p rfl) (OV.p rfl) (fun _ => hinl) (fun _ => hrs)) rfl ?_
   refine WL.val (V.load Tryz.isAgg3 (OV.p rfl) (fun _ => hrs)) rfl ?_
   refine WL.sg rfl rfl (WL.nil (WC.seq (WC.sr (WL.mv rfl rfl (WL.val (V.lss (OV.p rfl) (OV.p rfl)) rfl (WL.nil ?_))))))
   refine WC.cond rfl (fun hc1 => ?_) (fun hc1 => ?_)
   ·simp only [decide_eq_true_eq, decide_eq_false_iff_not] at hc1
    have h1 := hc1
    rw [if_pos h1] at hR
    refine WC.sr (WL.sg rfl rfl (WL.nil (WC.ret ?_)))
    subst hR
    exact ak.ret (H' := C.A bc :: bO bd bc g :: T.A bs bd g :: F) (aQ.tmp rfl rfl) (fun w h => h) ⟨C, T, hC, hg, hT, rfl, rfl, rfl, rfl⟩
   ·simp only [decide_eq_true_eq, decide_eq_false_iff_not] at hc1
    have h1 := hc1
    rw [if_neg h1] at hR
    have hil := hT.len
    obtain ⟨q, hq⟩ : ∃ q, q = T.bY[aC.toNat]'(by omega) := ⟨_, rfl⟩
    have hqg : T.bY[aC.toNat]? = some q := by rw [hq]; exact List.getElem?_eq_getElem (by omega)
    have SA : q.l.length ≤ 100000 := hlong _ (List.mem_map.2 ⟨q, by rw [hq]; exact List.getElem_mem _, rfl⟩)
    have NA : T.sem.stale.getD aC.toNat [] = q.l := by
      unfold bC.sem
      simp only [List.getD, List.getElem?_map, hqg, Option.map_some, Option.getD_some]
    obtain ⟨xs, hxs⟩ : ∃ xs, xs = q.l ++ [b] := ⟨_, rfl⟩
    have hxl : xs.length = q.l.length + 1 := by rw [hxs, List.length_append]; rfl
    rw [NA, ← hxs] at hR
    refine WC.skip (WC.seq (WC.sr (WL.mv rfl rfl (WL.nc rfl rfl (WL.val (V.fieldAddr rX (OV.p rfl)) rfl ?_)))))
    refine WL.val (V.load Tryz.isAgg87 (OV.p rfl) (fun _ => Rd.up (Rd.up (bC.rF 7 _ rfl)))) rfl ?_
    refine WL.mv rfl rfl ?_
    refine WL.val (V.bM zl (OV.p rfl) (OV.p rfl) (fun hc => by omega)) rfl ?_
    refine WL.val (V.load Tryz.isAgg24 (OV.p rfl) (fun _ => Rd.up (Rd.up (bC.Ul hqg)))) rfl ?_
    refine WL.call (vs := [_]) Tryz.call57 ⟨OV.p rfl, trivial⟩ (sQ (Seq.up (Seq.up (bC.RN hqg))) (by omega)) rfl ?_
    rintro _ _ ⟨A1, c1, rfl, rfl⟩
    refine WL.mv rfl rfl ?_
    refine WL.buildSlice (E := 3) (cs := [_]) (vs := [(0, _)]) ⟨OV.p rfl, trivial⟩ rfl (dO _) rfl (fun U0 => ?_)
    refine WL.sub (Sub.refl _) (fun w h => h.p1) ?_
    refine WL.append (m := q.l.length) (q := 1) (news := [.int .i64 b]) Tryz.underlying24 el3 (OV.p rfl) (OV.p rfl) (Seq.all rfl) (by intro u hu; rw [List.mem_singleton.1 hu]; rfl) (by omega) rfl rfl (fun A5 c5 Hz mP => ?_)
    refine WL.val (V.len (t := 24) Tryz.runUnderlying24 (OV.p rfl)) rfl (WL.mv rfl rfl (WL.nil (WC.block ?_)))
    have hxe : ints .i64 q.l ++ [.int .i64 b] = ints .i64 xs := by rw [hxs, bL]; rfl
    rw [hxe, ← hxl]
    obtain ⟨n, hn⟩ : ∃ n, n = xs.length := ⟨_, rfl⟩
    rw [← hn] at hxl ⊢
    refine WC.loop (σ := Nat × Cw) (fun s => [(0, ptr bs 0), (1, .int .i64 aC), (35, .slice A5 n c5), (36, .int .i64 (n : Int)), (37, .int .i64 (s.1 : Int))]) (fun s => s.2.A bc :: bO bd bc g :: aZ (.slice A5 n c5) 3 1 n (ints .i64 xs) :: T.A bs bd g :: F) (fun s => s.1 ≤ n ∧ s.2.Ok ∧ s.2.g = g ∧ bS (xs.drop s.1) s.2.sem = bS xs C.sem) (fun s => n - s.1) (0, C) ⟨Nat.zero_le _, hC, hg, rfl⟩ (.cons rfl (.cons rfl (.cons (look_eq rfl (by rw [hxl])) (.cons (look_eq rfl (by rw [hxl])) (.cons rfl (.nil _)))))) (fun w h => h.sel 5 [2, 3, 0, 4] rfl) ?_
    rintro ⟨i, C'⟩ ⟨hi, hC', hg', hch⟩
    dsimp only at hi hC' hg' hch ⊢
    have F4 : ∀ {H : List aj}, Seq K (aZ (.slice A5 n c5) 3 1 n (ints .i64 xs) :: H) A5 n 1 (ints .i64 xs) := fun {H} => aZ.seq (by rw [aK, Nat.mul_one, hn])
    refine WC.sr (WL.val (V.lss (OV.p rfl) (OV.p rfl)) rfl (WL.nil (WC.seq ?_)))
    refine WC.cond rfl (fun hc2 => ?_) (fun hc2 => ?_)
    ·simp only [decide_eq_true_eq, decide_eq_false_iff_not] at hc2
     have hin2 : i < n := by omega
     have hti : (i : Int).toNat = i := by omega
     have hdr : xs.drop i = xs.getD i 0 :: xs.drop (i + 1) := by rw [List.drop_eq_getElem_cons (by omega)]; simp [List.getD, show i < xs.length by omega]
     have hrd : ∀ {H : List aj}, Rd K (aZ (.slice A5 n c5) 3 1 n (ints .i64 xs) :: H) (A5.map (·.add ((i : Int).toNat * 1))) (.int .i64 (xs.getD i 0)) := fun {H} => by
       have := Seq.lF (F4 (H := H)) (j := (i : Int)) (by omega)
       rwa [hti] at this ⊢
     obtain ⟨x, hx⟩ : ∃ x, x = xs.getD i 0 := ⟨_, rfl⟩
     rw [← hx] at hdr hrd
     rw [hdr, bS] at hch
     refine WC.skip (WC.seq (WC.block (WC.sr ?_)))
     refine WL.val (V.eP cO (OV.p rfl) (OV.p rfl) (fun _ => by omega) (fun _ => by repeat (first | exact hrd | apply Rd.up))) rfl ?_
     refine WL.val (V.load Tryz.isAgg3 (OV.p rfl) (fun _ => by repeat (first | exact hrd | apply Rd.up))) rfl ?_
     refine WL.sg rfl rfl (WL.nil (WC.sr (WL.mv rfl rfl (WL.nc rfl rfl (WL.val (V.fieldAddr tK (OV.p rfl)) rfl ?_)))))
     refine WL.val (V.load Tryz.isAgg58 (OV.p rfl) (fun _ => by repeat (first | exact bC.rF 0 _ rfl | apply Rd.up))) rfl ?_
     refine WL.mv rfl rfl (WL.call (vs := [_, _]) Tryz.call58 ⟨OV.p rfl, OV.p rfl, trivial⟩ (tT hC' hg' x) rfl ?_)
     rintro _ _ ⟨C2, hC2, hg2, rfl, hs2, rfl⟩
     refine WL.sg rfl rfl (WL.nil (WC.sr (WL.mv rfl rfl (WL.val (V.eql (OV.p rfl) (OV.p rfl)) rfl (WL.nil ?_)))))
     refine WC.cond rfl (fun hc3 => ?_) (fun hc3 => ?_)
     ·simp only [decide_eq_true_eq, decide_eq_false_iff_not] at hc3
      have h3 := hc3
      rw [if_pos h3] at hch
      rw [← hch, if_pos h3] at hR
      refine WC.sr (WL.mv rfl rfl (WL.mv rfl rfl ?_))
      refine WL.sub (Sub.refl _) (fun w h => h.sel 4 [3, 0, 1, 2] rfl) ?_
      refine WL.call (vs := [_, _]) Tryz.call55 ⟨OV.p rfl, OV.p rfl, trivial⟩ (kW (C'.sem.aM x).2) rfl ?_
      rintro _ _ ⟨rfl, rfl⟩
      refine WL.sg rfl rfl (WL.nil (WC.ret ?_))
      subst hR
      rw [h3]
      exact ak.ret (H' := C2.A bc :: bO bd bc g :: (T.told 70).A bs bd g :: F) (aQ.tmp rfl rfl) (fun w h => h.sel 4 [1, 2, 0] rfl) ⟨C2, T.told 70, hC2, hg2, hT.told _, hs2, rfl, rfl, rfl⟩
     ·simp only [decide_eq_true_eq, decide_eq_false_iff_not] at hc3
      have h3 := hc3
      rw [if_neg h3] at hch
      refine WC.skip (WC.region (WL.ad rfl rfl rfl ?_))
      refine WL.mv rfl rfl (WL.nil ?_)
      refine ⟨rfl, ?_⟩
      exact ⟨(i + 1, C2), ⟨hin2, hC2, hg2, by show bS (xs.drop (i + 1)) C2.sem = _; rw [hs2]; exact hch⟩, (by show n - (i + 1) < n - i; omega), .cons rfl (.cons rfl (.cons rfl (.cons rfl (.cons (look_eq rfl (by simp)) (.nil _))))), fun w h => h⟩
    ·simp only [decide_eq_true_eq, decide_eq_false_iff_not] at hc2
     refine WC.exit (WC.seq ?_)
     obtain rfl : i = n := by omega
     rw [List.drop_eq_nil_of_le (by omega), bS] at hch
     rw [← hch, if_neg (by show ¬ (0 : Int) = 70; decide)] at hR
     dsimp only at hR
     refine WC.have_ (p := ∃ g1, T.sA = some ⟨g1, 0, none⟩) (fun w h => bC.Ic (bs := bs) (bd := bd) (g := g) (by omega) (h.sel 4 [3] rfl)) (fun ⟨g1, hA1⟩ => ?_)
     refine WC.sub (H' := Cells T.b8 24 (T.bY.map aX.v) :: T.sl :: bF ((T.bY.map aX.row).set aC.toNat NI.row) :: Cells bs 89 (T.cells bd g) :: C'.A bc :: bO bd bc g :: F) (Sub.refl _) (fun w h => by
       have h9 : Sat K w (bC.parts bs bd g T ++ (C'.A bc :: bO bd bc g :: F)) := (h.sel 4 [3, 0, 1] rfl).p8
       have h10 := Sat.takeA (k := aC.toNat) (by rw [List.length_map]; omega) (h9.sel 4 [3, 2, 0, 1] rfl)
       have h11 : Sat K w (NI.row :: bF ((T.bY.map aX.row).eraseIdx aC.toNat) :: Cells T.b8 24 (T.bY.map aX.v) :: Cells bs 89 (T.cells bd g) :: T.sl :: C'.A bc :: bO bd bc g :: F) := Sat.iE h10.tail _ _
       exact (Sat.zM (by rw [List.length_map]; omega) h11).sel 4 [1, 3, 0, 2] rfl) ?_
     unfold bC.sl
     rw [hA1]
     refine WC.dK (bF ((T.bY.map aX.row).set aC.toNat NI.row) :: Cells bs 89 (T.cells bd g) :: C'.A bc :: bO bd bc g :: F) (by kernel_rfl) ?_
     refine WA.t 0 rfl (V.move (OV.p rfl)) (WA.t 1 rfl (V.nilCheck (OV.p rfl)) (WA.t 2 rfl (V.fieldAddr ku (OV.p rfl)) ?_))
     refine WA.t 3 rfl (V.aB (v' := .slice (some ⟨g1, 0, none⟩) T.stands.length T.sc) (V.load Tryz.isAgg24 (OV.p rfl) (fun _ => by repeat (first | exact Rd.here rfl | apply Rd.up))) (fun _ => by rw [hA1])) ?_
     refine WA.t 4 rfl (V.move (OV.p rfl)) (WA.t 5 rfl (V.move (OV.p rfl)) (WA.t 6 rfl (V.nilCheck (OV.p rfl)) (WA.t 7 rfl (V.fieldAddr rX (OV.p rfl)) ?_)))
     refine WA.t 8 rfl (V.load Tryz.isAgg87 (OV.p rfl) (fun _ => by repeat (first | exact Rd.here rfl | apply Rd.up))) ?_
     refine WA.t 9 rfl (V.move (OV.p rfl)) ?_
     refine WA.t 10 rfl (V.bM cO (OV.p rfl) (OV.p rfl) (fun hc => by omega)) ?_
     refine WA.o 11 rfl ?_
     refine WL.store (cs := [_]) Tryz.sizeOf3 (OV.p rfl) (OV.p rfl) rfl rfl rfl (bD.up (bD.QU (by omega))) ?_
     refine WL.nil ?_
     refine WA.t 12 rfl (V.bM zl (OV.p rfl) (OV.p rfl) (fun hc => by omega)) ?_
     refine WA.o 13 rfl ?_
     refine WL.store (cs := [_]) Tryz.sizeOf24 (OV.p rfl) (OV.p rfl) rfl rfl rfl (bD.at_ (by rw [List.length_map]; omega)) ?_
     refine WL.nil (WA.fin (WC.sr (WL.sg rfl rfl (WL.nil (WC.ret ?_)))))
     subst hR
     obtain ⟨T', hT'⟩ : ∃ T' : bC, T' = { T with stands := T.stands.set aC.toNat (-1), bY := T.bY.set aC.toNat NI } := ⟨_, rfl⟩
     refine ak.ret (H' := C'.A bc :: bO bd bc g :: T'.A bs bd g :: F) (aQ.tmp rfl rfl) (fun w h => ?_) ⟨C', T', hC', hg', ?_, rfl, ?_, rfl, rfl⟩
     · refine (Sat.all (l := bC.parts bs bd g T') (H := C'.A bc :: bO bd bc g :: F) (K := K) (w := w) ?_).sel 3 [1, 2, 0] rfl
       unfold bC.parts bC.cells bC.sl
       rw [hT']
       dsimp only
       rw [List.length_set, List.length_set, hA1, List.map_set, List.map_set]
       have e1 : (ints .i64 T.stands).set (0 + aC.toNat * 1) (.int .i64 (-1)) = ints .i64 (T.stands.set aC.toNat (-1)) := by unfold ints; rw [show 0 + aC.toNat * 1 = aC.toNat by omega, List.map_set]
       rw [← e1]
       have h2 := h.sel 6 [3, 1, 0, 2, 4, 5] rfl
       rw [show 0 + aC.toNat * 1 = aC.toNat by omega] at h2 ⊢
       unfold bC.cells at h2
       rw [hA1] at h2
       exact h2
     · rw [hT']
       refine ⟨by show (T.bY.set _ _).length = (T.stands.set _ _).length; rw [List.length_set, List.length_set]; exact hT.len, by show 1 ≤ (T.stands.set _ _).length ∧ _; rw [List.length_set]; exact hT.au, hT.next, hT.at_, fun x hx => ?_⟩
       rcases List.mem_or_eq_of_mem_set hx with hx | rfl
       · exact hT.std x hx
       · omega
     · rw [hT']
       unfold bC.sem St.drop
       dsimp only
       rw [List.map_set]; rfl
end
theorem DL {S : ah} (hg : S.g.aD) (hu : S.up = true) : S.jF = 0 := by
  unfold Geo.aD at hg
  have e1 : ¬ ((0 : Int) < 0 ∨ S.g.bl ≤ 0 ∨ (0 : Int) < 0 ∨ S.g.pg ≤ 0 ∨ (decide ((0 : Int) ≤ 0) && decide (0 ≤ S.g.pg)) = false) := by
    simp; omega
  have e2 : S.ahead 0 0 (decide ((0 : Int) ≤ 0) && decide (0 ≤ S.g.pg)) = if S.bad 0 = true then 73 else 0 := by
    unfold ah.ahead
    rw [if_neg (by rw [hu]; decide), if_neg e1]
  unfold ah.jF ah.jr
  rw [e2]
  cases S.bad 0 <;> rfl
def Geo.dI (g : Geo) : Nat := g.sb.toNat + ay g.fl.toNat
namespace ah
def IW (S : ah) (k : Int × Int) : Prop := ∀ w, S.wrong k = some w → (cu w).Nodup ∧ (∀ x ∈ w, 0 ≤ x ∧ x < (8 * S.g.dI : Nat)) ∧ w.length ≤ S.g.fl.toNat
theorem Eh {g : Geo} (hg : g.aD) : g.raw = ((g.se.toNat * g.dI + 1 : Nat) : Int) := Geo.nQ hg
theorem DV {S : ah} {b p : Int} (hw : S.IW (b, p)) : ∃ ks : List Nat, ks.Nodup ∧ (∀ k ∈ ks, k < 8 * S.g.dI) ∧ ks.length ≤ S.g.fl.toNat ∧ (S.wrong (b, p) = none → ks = []) ∧
    ∀ xs, S.pages (b, p) = some (aT xs) → S.fU b p = fE xs ks := by
  cases hwr : S.wrong (b, p) with
  | none => exact ⟨[], List.nodup_nil, fun k hk => (by cases hk), Nat.zero_le _, fun _ => rfl, fun xs hp => Cc hp hwr⟩
  | some w =>
    obtain ⟨h1, h2, h3⟩ := hw w hwr
    refine ⟨cu w, h1, fun k hk => ?_, by rw [iO]; exact h3, fun h => (by cases h), fun xs hp => ?_⟩
    · obtain ⟨x, hx, rfl⟩ := List.mem_map.1 hk
      have := h2 x hx
      omega
    · unfold fU reads
      rw [hp, hwr]
      show cu (turn (aT xs) w) = _
      rw [qc _ _ (fun i hi => (h2 i hi).1), gu]
theorem Bl {S : ah} {b p : Int} {d : List Nat} (hg : S.g.aD) (hu : S.up = true) (h : 0 ≤ b ∧ b < S.g.bl ∧ 0 ≤ p ∧ p < S.g.pg) (hm : S.marked b = false) (h8 : Small 256 d) (hl : d.length = S.room)
    (hp : S.pages (b, p) = some (aT (cZ S.g d))) (hw : S.IW (b, p)) : ∃ N : Nat, (S.wrong (b, p) = none → N = 0) ∧ S.bG b p = ⟨0, d, N⟩ ∧ S.kE b p = 0 := by
  have hN := o8.of (bl := S.g.bl) (pg := S.g.pg) (by rw [← iC hg]; exact hg)
  obtain ⟨hs1, hb1, ht1⟩ := hN
  obtain ⟨ks, k1, k2, k3, k4, k5⟩ := DV hw
  have hr := k5 _ hp
  have hse : 8 * S.g.dI ≤ 8 * (S.g.se.toNat * S.g.dI) := Nat.mul_le_mul_left _ (Nat.le_mul_of_pos_left _ (by omega))
  obtain ⟨N, hN1, TP⟩ := JN (t := S.g.fl.toNat) (B := S.g.sb.toNat) (S := S.g.se.toNat) (d := d) ht1 (by omega) h8 hl k1 (fun k hk => Nat.lt_of_lt_of_le (k2 k hk) hse) (fun j => by
    refine Nat.le_trans (List.length_filter_le _ _) k3)
  have hread : dB S.g.fl.toNat S.g.se.toNat S.g.sb.toNat (S.fU b p) = ⟨0, d, N⟩ := by rw [hr]; exact TP
  have RL : S.ahead b p true = 0 := qw hu h hm
  have hdr : S.bG b p = ⟨0, d, N⟩ := by
    unfold bG
    rw [if_neg (by rw [RL]; decide), hread]
    rfl
  refine ⟨N, fun hn => ?_, hdr, ?_⟩
  · have h1 := Gj hg hu h hm h8 hl hp hn
    rw [hdr] at h1
    injection h1
  · unfold kE
    rcases Nat.eq_zero_or_pos (dR S.g.fl.toNat S.g.se.toNat (S.g.sb.toNat + ay S.g.fl.toNat) (S.fU b p)) with h1 | h1
    · exact h1
    · unfold dB at hread
      rw [if_pos (by omega)] at hread
      injection hread
def rH (S : ah) (k : Int × Int) : Prop := ∀ xs, S.pages k = some xs → ∃ ys, xs = aT ys ∧ ys.getD (S.g.se.toNat * S.g.dI) 0 = 255
theorem Au {S : ah} {b p : Int} (hg : S.g.aD) (ht : S.rH (b, p)) (hw : S.IW (b, p)) : S.kE b p ≠ 0 := by
  have hN := o8.of (bl := S.g.bl) (pg := S.g.pg) (by rw [← iC hg]; exact hg)
  obtain ⟨hs1, hb1, ht1⟩ := hN
  have key : ∀ (ys ks : List Nat), ys.getD (S.g.se.toNat * S.g.dI) 0 = 255 → (∀ k ∈ ks, k < 8 * S.g.dI) → dR S.g.fl.toNat S.g.se.toNat (S.g.sb.toNat + ay S.g.fl.toNat) (fE ys ks) ≠ 0 := fun ys ks hy hk => by
    have h1 : (fE ys ks).getD (S.g.se.toNat * (S.g.sb.toNat + ay S.g.fl.toNat)) 0 = 255 := by
      rw [og ks ys _ (fun k hk' => ?_)]
      · exact hy
      · have h2 := hk k hk'
        have h3 : S.g.dI ≤ S.g.se.toNat * S.g.dI := Nat.le_mul_of_pos_left _ (by omega)
        have h4 : S.g.se.toNat * (S.g.sb.toNat + ay S.g.fl.toNat) = S.g.se.toNat * S.g.dI := rfl
        omega
    rcases JO (t := S.g.fl.toNat) h1 with h | h <;> rw [h] <;> decide
  cases hp : S.pages (b, p) with
  | some xs =>
    obtain ⟨ys, rfl, hy⟩ := ht xs hp
    obtain ⟨ks, k1, k2, k3, k4, k5⟩ := DV hw
    unfold kE
    rw [k5 ys hp]
    exact key ys ks hy k2
  | none =>
    have hb : S.reads b p = turn (List.replicate S.g.raw.toNat 255) ((S.wrong (b, p)).getD []) := by
      unfold reads
      rw [hp]
      rfl
    unfold kE fU
    have h0 : ∀ i ∈ (S.wrong (b, p)).getD [], 0 ≤ i ∧ i < (8 * S.g.dI : Nat) := fun i hi => by
      cases hwr : S.wrong (b, p) with
      | none => rw [hwr] at hi; cases hi
      | some w => rw [hwr] at hi; exact (hw w hwr).2.1 i hi
    rw [hb, qc _ _ (fun i hi => (h0 i hi).1)]
    refine key _ _ ?_ (fun k hk => ?_)
    · unfold cu
      rw [List.map_replicate, Eh hg, Int.toNat_natCast]
      simp [List.getD, List.getElem?_replicate]
    · obtain ⟨x, hx, rfl⟩ := List.mem_map.1 hk
      have := h0 x hx
      omega
theorem G9 {S : ah} {b p : Int} (hg : S.g.aD) (ht : S.rH (b, p)) (hw : S.IW (b, p)) : (S.bG b p).err ≠ 0 := by
  have h1 := Au hg ht hw
  unfold kE at h1
  unfold bG
  split
  · rename_i h; exact h
  · show ((dB _ _ _ _).err : Int) ≠ 0
    unfold dB
    rw [if_pos h1]
    show ((dR _ _ _ _ : Nat) : Int) ≠ 0
    omega
end ah
def tZ (g : Geo) (h : Hd) (d : List Nat) : Nat → List Nat
  | 0 => []
  | k + 1 => tZ g h d k ++ kQ g h d (k + 1)
theorem yV {g : Geo} {h : Hd} {d : List Nat} (hg : g.aD) : ∀ k, (tZ g h d k).length = k * g.room.toNat ∧ (tZ g h d k).take d.length = d.take (k * g.room.toNat)
  | 0 => ⟨by simp [tZ], by simp [tZ]⟩
  | k + 1 => by
    obtain ⟨h1, h2⟩ := yV (h := h) (d := d) hg k
    obtain ⟨R, hR⟩ : ∃ R, R = g.room.toNat := ⟨_, rfl⟩
    have hl := mD (h := h) (d := d) hg (k + 1)
    rw [← hR] at h1 h2 hl ⊢
    rw [tZ]
    refine ⟨by rw [List.length_append, h1, hl, Nat.succ_mul], ?_⟩
    by_cases hk : d.length ≤ k * R
    · rw [List.take_append_of_le_length (by omega), h2, List.take_of_length_le hk, List.take_of_length_le (by rw [Nat.succ_mul]; omega)]
    · have e1 : tZ g h d k = d.take (k * R) := by rw [← h2, List.take_of_length_le (by omega)]
      rw [List.take_append, h1, List.take_of_length_le (l := tZ g h d k) (by omega), e1, Nat.succ_mul]
      have e2 : (kQ g h d (k + 1)).take (d.length - k * R) = (d.drop (k * R)).take R := by
        show ((d.drop (k * g.room.toNat)).take g.room.toNat ++ List.replicate (g.room.toNat - ((d.drop (k * g.room.toNat)).take g.room.toNat).length) 0).take (d.length - k * R) = _
        rw [← hR]
        by_cases hr : R ≤ d.length - k * R
        · have e3 : ((d.drop (k * R)).take R).length = R := by rw [List.length_take, List.length_drop]; omega
          rw [e3, Nat.sub_self, List.replicate_zero, List.append_nil, List.take_of_length_le (by omega)]
        · have e3 : ((d.drop (k * R)).take R).length = d.length - k * R := by rw [List.length_take, List.length_drop]; omega
          rw [List.take_append_of_le_length (by omega), List.take_of_length_le (by omega)]
      rw [e2, ← List.take_add]
namespace ah
variable {S : ah} {b : Int} {h : Hd} {d : List Nat}
def oq (S : ah) (h : Hd) : Nat := (S.g.aW h.len).toNat
structure Holds (S : ah) (b : Int) (h : Hd) (d : List Nat) : Prop where
  may : h.may S.g = true
  len : h.len = (d.length : Nat)
  small : Small 256 d
  page : ∀ p, p ≤ S.oq h → S.pages (b, (p : Int)) = some (aT (cZ S.g (kQ S.g h d p)))
structure Part (S : ah) (b : Int) (h : Hd) : Prop where
  may : h.may S.g = true
  page : S.pages (b, 0) = some (aT (cZ S.g (gN S.g h)))
  RQ : ∃ p : Nat, p ≤ S.oq h ∧ S.rH (b, (p : Int))
theorem qj : ∀ k, S.iA b k = true ↔ ∀ j : Nat, j < k → S.kE b (j : Int) = 0
  | 0 => by simp [iA]
  | k + 1 => by
    rw [iA, Bool.and_eq_true, qj k, decide_eq_true_eq]
    constructor
    · rintro ⟨h1, h2⟩ j hj
      rcases Nat.lt_or_ge j k with h | h
      · exact h1 j h
      · rw [show j = k by omega]; exact h2
    · intro h
      exact ⟨fun j hj => h j (by omega), h k (by omega)⟩
theorem Dl (hg : S.g.aD) (hm : h.may S.g = true) : (S.oq h : Int) = S.g.aW h.len ∧ (S.oq h : Int) ≤ S.g.pg - 1 ∧ h.len ≤ (S.oq h : Int) * S.g.room ∧ 0 ≤ h.len := by
  have hmb := hm
  unfold Hd.may at hmb
  simp only [Bool.and_eq_true, decide_eq_true_eq] at hmb
  have hf := hmb.1.1.1.1
  have h1 := Geo.Bc hg hf
  unfold Geo.fits at hf
  simp only [Bool.and_eq_true, decide_eq_true_eq] at hf
  unfold oq
  rw [Int.toNat_of_nonneg h1.1]
  exact ⟨rfl, h1.2.1, h1.2.2.1, hf.1⟩
theorem Ch (hg : S.g.aD) : S.room = S.g.room.toNat := by
  unfold room
  rw [Geo.zS hg]; rfl
theorem Br (hg : S.g.aD) (hu : S.up = true) (hb : 0 ≤ b ∧ b < S.g.bl) (hm : S.marked b = false) (Dz : h.may S.g = true) : S.jr b (1 + S.g.aW h.len) = (S.iA b (1 + S.oq h), 0) := by
  have h1 := Dl hg Dz
  have hgb := hg
  unfold Geo.aD at hgb
  have e1 : (decide ((0 : Int) ≤ 1 + S.g.aW h.len) && decide (1 + S.g.aW h.len ≤ S.g.pg)) = true := by rw [decide_eq_true (by omega), decide_eq_true (by omega)]; rfl
  have e2 : S.ahead b 0 true = 0 := qw hu ⟨hb.1, hb.2, by omega, by omega⟩ hm
  unfold jr
  rw [e1, e2, if_neg (by decide), if_neg (fun h => h rfl)]
  rw [show (1 + S.g.aW h.len).toNat = 1 + S.oq h by omega]
theorem Iu (hg : S.g.aD) (hf : ∀ p : Nat, S.IW (b, (p : Int))) (ht : S.rH (b, 0)) : S.gZ b = none := by
  have h1 := G9 hg ht (hf 0)
  unfold gZ
  rw [if_pos h1]
section
variable (hg : S.g.aD) (hu : S.up = true) (hb : 0 ≤ b ∧ b < S.g.bl) (hm : S.marked b = false) (hf : ∀ p : Nat, S.IW (b, (p : Int)))
include hg hu hb hm hf
theorem xY (hH : S.Holds b h d) {p : Nat} (hp : p ≤ S.oq h) : ∃ N : Nat, (S.wrong (b, (p : Int)) = none → N = 0) ∧ S.bG b p = ⟨0, kQ S.g h d p, N⟩ ∧ S.kE b p = 0 := by
  have h1 := Dl hg hH.may
  exact Bl hg hu ⟨hb.1, hb.2, by omega, by omega⟩ hm (sJ hH.small p) (by rw [mD hg, Ch hg]) (hH.page p hp) (hf p)
theorem scan_holds (hH : S.Holds b h d) : S.gZ b = some ⟨b, h, true⟩ := by
  obtain ⟨N, _, h2, _⟩ := xY hg hu hb hm hf hH (p := 0) (Nat.zero_le _)
  have h2' : S.bG b 0 = ⟨0, gN S.g h, N⟩ := h2
  unfold gZ
  rw [h2', if_neg (fun h => h rfl)]
  dsimp only
  rw [pR hH.may hg]
  dsimp only
  rw [Br hg hu hb hm hH.may]
  have : S.iA b (1 + S.oq h) = true := (qj _).2 fun j hj => by
    obtain ⟨_, _, _, h3⟩ := xY hg hu hb hm hf hH (p := j) (by omega)
    exact h3
  rw [this]
theorem JR (hP : S.Part b h) : S.gZ b = some ⟨b, h, false⟩ := by
  have hgb := hg
  unfold Geo.aD at hgb
  obtain ⟨N, _, h2, _⟩ := Bl hg hu ⟨hb.1, hb.2, Int.le_refl _, by omega⟩ hm (qA S.g h) (by rw [kI hg, Ch hg]) hP.page (hf 0)
  unfold gZ
  rw [h2, if_neg (fun h => h rfl)]
  dsimp only
  rw [pR hP.may hg]
  dsimp only
  rw [Br hg hu hb hm hP.may]
  have : S.iA b (1 + S.oq h) = false := by
    rw [← Bool.not_eq_true]
    intro hw
    obtain ⟨p, hp, ht⟩ := hP.RQ
    exact Au hg ht (hf p) ((qj _).1 hw p (by omega))
  rw [this]
theorem rd_holds (hH : S.Holds b h d) (n0 : Nat) : ∀ k, k ≤ S.oq h → ∃ N : Nat, ((∀ p : Nat, S.wrong (b, (p : Int)) = none) → n0 = 0 → N = 0) ∧ fA S b n0 k = ⟨0, tZ S.g h d k, N⟩
  | 0, _ => ⟨n0, fun _ h => h, rfl⟩
  | k + 1, hk => by
    obtain ⟨N, h1, h2⟩ := rd_holds hH n0 k (by omega)
    obtain ⟨M, h3, h4, _⟩ := xY hg hu hb hm hf hH (p := k + 1) hk
    have h5 : S.bG b (1 + (k : Int)) = ⟨0, kQ S.g h d (k + 1), M⟩ := by rw [show 1 + (k : Int) = ((k + 1 : Nat) : Int) by omega]; exact h4
    refine ⟨max N M, fun hw hn => ?_, ?_⟩
    · have e1 := h1 hw hn
      have e2 := h3 (hw (k + 1))
      omega
    · rw [fA, h2, if_neg (fun h => h rfl), h5, if_neg (fun h => h rfl)]
      rfl
end
end ah
theorem read_holds {S : ah} {T : St} {aC b : Int} {h : Hd} {d : List Nat} (hg : S.g.aD) (hu : S.up = true) (hb : 0 ≤ b ∧ b < S.g.bl) (hm : S.marked b = false) (hf : ∀ p : Nat, S.IW (b, (p : Int)))
    (hr : T.ready aC = 0) (ha : T.at' aC = b) (hH : S.Holds b h d) : ∃ N : Nat, ((∀ p : Nat, S.wrong (b, (p : Int)) = none) → N = 0) ∧ jE S T aC = (⟨0, d, N⟩, T) := by
  obtain ⟨N0, h1, h2, _⟩ := ah.xY hg hu hb hm hf hH (p := 0) (Nat.zero_le _)
  have h2' : S.bG b 0 = ⟨0, gN S.g h, N0⟩ := h2
  obtain ⟨N, h3, h4⟩ := ah.rd_holds hg hu hb hm hf hH N0 (S.oq h) (Nat.le_refl _)
  have hpb := ah.Dl hg hH.may
  refine ⟨N, fun hw => h3 hw (h1 (hw 0)), ?_⟩
  have hpp : gF S.g (gN S.g h) = some h := pR hH.may hg
  have e1 : gG S.g (gN S.g h) = 0 := by unfold gG; rw [hpp]
  have e2 : eB S.g (gN S.g h) = h := by unfold eB; rw [hpp]; rfl
  unfold jE
  rw [hr, if_neg (fun h => h rfl), ha, if_neg (by omega), h2', if_neg (fun h => h rfl)]
  dsimp only
  rw [e1, if_neg (fun h => h rfl), e2]
  rw [show (S.g.aW h.len).toNat = S.oq h from rfl, h4, if_neg (fun h => h rfl)]
  dsimp only
  have h6 := (yV (h := h) (d := d) hg (S.oq h)).2
  rw [hH.len, Int.toNat_natCast, h6, List.take_of_length_le]
  have hr := Geo.iR hg
  have h7 : ((S.oq h * S.g.room.toNat : Nat) : Int) = (S.oq h : Int) * S.g.room := by rw [Int.natCast_mul]; congr 1; omega
  have h8 := hpb.2.2.1
  rw [hH.len, ← h7] at h8
  omega
theorem Lc : (72 : Int) ≠ 70 := by decide
theorem sK : (70 : Int) ≠ 72 := by decide
theorem wY : (0 : Int) ≠ 72 := by decide
theorem nG : (0 : Int) ≠ 70 := by decide
namespace ah
structure Rest (b : Int) (S S' : ah) : Prop where
  g : S'.g = S.g
  len : S'.next.length = S.next.length
  pages : ∀ k : Int × Int, k.1 ≠ b → S'.pages k = S.pages k
  wrong : ∀ k : Int × Int, k.1 ≠ b → S'.wrong k = S.wrong k
  marked : ∀ c, c ≠ b → S'.marked c = S.marked c
  weak : S'.weak = S.weak
theorem Rest.refl (b : Int) (S : ah) : Rest b S S := ⟨rfl, rfl, fun _ _ => rfl, fun _ _ => rfl, fun _ _ => rfl, rfl⟩
theorem Rest.trans {b : Int} {S T U : ah} (h : Rest b S T) (h' : Rest b T U) : Rest b S U :=
  ⟨h'.g.trans h.g, h'.len.trans h.len, fun k hk => (h'.pages k hk).trans (h.pages k hk), fun k hk => (h'.wrong k hk).trans (h.wrong k hk), fun c hc => (h'.marked c hc).trans (h.marked c hc), h'.weak.trans h.weak⟩
def mk1 (S : ah) (b : Int) : ah := { S with marked := fun k => if k = b then true else S.marked k }
theorem xS {S : ah} (hc : S.cut = false) : S.deed.up = S.up := by unfold deed; rw [hc]; cases S.up <;> rfl
theorem qX {S : ah} (hc : S.cut = true) : S.deed.up = false := by unfold deed; rw [hc]; cases S.up <;> rfl
theorem uo {S : ah} (h : S.left = 0) : S.cut = false := by unfold cut; rw [h]; rfl
theorem LK {S : ah} {b : Int} (hu : S.up = true) (hb : 0 ≤ b ∧ b < S.g.bl) :
    (S.cut = false ∧ done b (S, 72) = (S.deed.mk1 b, 72)) ∨ (S.cut = true ∧ (done b (S, 72) = (S.deed.mk1 b, 70) ∨ done b (S, 72) = (S.deed, 70))) := by
  have e1 : S.mark b = S.all fun T => { T with marked := fun k => if k = b then true else T.marked k } := by
    unfold mark
    rw [if_neg (by rw [hu]; decide), if_neg (by rw [uW hb]; decide)]
  have e2 : done b (S, 72) = if (S.mark b).2 ≠ 0 then S.mark b else ((S.mark b).1, 72) := by
    unfold done
    rw [if_neg (fun h => h rfl)]
  rw [e2, e1]
  unfold all after
  cases hc : S.cut with
  | false => exact .inl ⟨rfl, rfl⟩
  | true =>
    refine .inr ⟨rfl, ?_⟩
    by_cases hk : 0 < S.keep
    · rw [decide_eq_true hk]; exact .inl rfl
    · rw [decide_eq_false hk]; exact .inr rfl
section
variable {S : ah} {b : Int}
theorem Rest.deed (S : ah) (b : Int) : Rest b S S.deed := ⟨rfl, rfl, fun _ _ => rfl, fun _ _ => rfl, fun _ _ => rfl, rfl⟩
theorem Rest.mk1 (S : ah) (b : Int) : Rest b S (S.mk1 b) := ⟨rfl, rfl, fun _ _ => rfl, fun _ _ => rfl, fun c hc => if_neg hc, rfl⟩
theorem z8 : (S.mk1 b).marked b = true := if_pos rfl
def Fails (b : Int) (S : ah) (X : ah × Int) : Prop :=
  (X.2 = 72 ∧ X.1.up = true ∧ X.1.marked b = true) ∨ (X.2 = 70 ∧ X.1.up = false ∧ (X.1.marked b = true ∨ X.1.marked b = S.marked b ∧ X.1.pages = S.pages ∧ X.1.wrong = S.wrong))
theorem Fu (hu : S.up = true) (hc : S.cut = false) (hb : 0 ≤ b ∧ b < S.g.bl) : Rest b S (done b (S.deed, 72)).1 ∧ Fails b S (done b (S.deed, 72)) ∧ (S.left = 0 → (done b (S.deed, 72)).1.left = 0 ∧ (done b (S.deed, 72)).2 ≠ 70) := by
  have hu1 : S.deed.up = true := by rw [xS hc]; exact hu
  rcases LK (S := S.deed) hu1 hb with ⟨c1, e1⟩ | ⟨c1, e1 | e1⟩
  · rw [e1]
    refine ⟨(Rest.deed S b).trans ((Rest.deed _ b).trans (Rest.mk1 _ b)), .inl ⟨rfl, by show S.deed.deed.up = true; rw [xS c1]; exact hu1, z8⟩, fun h0 => ⟨?_, Lc⟩⟩
    show S.deed.deed.left = 0
    rw [kT h0, kT h0]; exact h0
  · rw [e1]
    refine ⟨(Rest.deed S b).trans ((Rest.deed _ b).trans (Rest.mk1 _ b)), .inr ⟨rfl, by show S.deed.deed.up = false; exact qX c1, .inl z8⟩, fun h0 => ?_⟩
    rw [kT h0, uo h0] at c1; cases c1
  · rw [e1]
    refine ⟨(Rest.deed S b).trans (Rest.deed _ b), .inr ⟨rfl, by show S.deed.deed.up = false; exact qX c1, .inr ⟨rfl, rfl, rfl⟩⟩, fun h0 => ?_⟩
    rw [kT h0, uo h0] at c1; cases c1
theorem yH (hu : S.up = true) (hb : 0 ≤ b ∧ b < S.g.bl) (hpg : 0 < S.g.pg) (hm : S.marked b = false) (hn : (S.next.length : Int) = S.g.bl) : Rest b S (S.aM b).1 ∧ (S.left = 0 → (S.aM b).1.left = 0 ∧ (S.aM b).2 ≠ 70) ∧ (S.weak b = false → (S.aM b).2 ≠ 72) ∧
    (((S.aM b).2 = 0 ∧ (S.aM b).1.up = true ∧ (S.aM b).1.marked b = false ∧ (S.aM b).1.jm b = 0 ∧ ∀ p, 0 ≤ p → p < S.g.pg → (S.aM b).1.pages (b, p) = none ∧ (S.aM b).1.wrong (b, p) = none) ∨
     Fails b S (S.aM b) ∨
     ((S.aM b).2 = 70 ∧ (S.aM b).1.up = false ∧ (S.aM b).1.marked b = false ∧ (∃ n, (S.aM b).1.pages = aN S.pages b n ∧ (S.aM b).1.wrong = aN S.wrong b n))) := by
  have e0 : S.aM b = done b (S.erase b) := by
    unfold aM
    rw [if_neg (by rw [qw hu ⟨hb.1, hb.2, Int.le_refl _, hpg⟩ hm]; decide)]
  have hdr : ∀ {α : Type} (f : Int × Int → Option α) (n : Int) (k : Int × Int), k.1 ≠ b → aN f b n k = f k := fun f n k hk => if_neg fun h => hk h.1
  cases hc : S.cut with
  | true =>
    have e1 : S.erase b = ({ S.deed with pages := aN S.pages b (S.kept S.g.pg), wrong := aN S.wrong b (S.kept S.g.pg) }, 70) := by
      unfold erase
      rw [if_neg (by rw [hu]; decide), if_neg (by rw [uW hb]; decide), hc]; rfl
    have e2 : S.aM b = S.erase b := by
      rw [e0]; unfold done; rw [if_pos (by rw [e1]; first | exact sK | exact wY)]
    rw [e2, e1]
    refine ⟨⟨rfl, rfl, fun k hk => hdr _ _ k hk, fun k hk => hdr _ _ k hk, fun _ _ => rfl, rfl⟩, fun h0 => ?_, fun _ => sK, .inr (.inr ⟨rfl, qX hc, hm, _, rfl, rfl⟩)⟩
    rw [uo h0] at hc; cases hc
  | false =>
    cases hw : S.weak b with
    | true =>
      have e1 : S.erase b = (S.deed, 72) := by
        unfold erase
        rw [if_neg (by rw [hu]; decide), if_neg (by rw [uW hb]; decide), hc, if_neg Bool.false_ne_true, hw, if_pos rfl]
      rw [e0, e1]
      obtain ⟨h1, h2, h3⟩ := Fu hu hc hb
      exact ⟨h1, h3, fun h => (by cases h), .inr (.inl h2)⟩
    | false =>
      have e1 : S.erase b = ({ S.deed with pages := aN S.pages b S.g.pg, wrong := aN S.wrong b S.g.pg, next := S.iB b 0 }, 0) := by
        unfold erase
        rw [if_neg (by rw [hu]; decide), if_neg (by rw [uW hb]; decide), hc, if_neg Bool.false_ne_true, hw, if_neg Bool.false_ne_true]; rfl
      have e2 : S.aM b = S.erase b := by
        rw [e0]; unfold done; rw [if_pos (by rw [e1]; first | exact sK | exact wY)]
      rw [e2, e1]
      refine ⟨⟨rfl, by show (S.next.set _ _).length = _; rw [List.length_set], fun k hk => hdr _ _ k hk, fun k hk => hdr _ _ k hk, fun _ _ => rfl, rfl⟩, fun h0 => ⟨?_, nG⟩, fun _ => wY, .inl ⟨rfl, by show S.deed.up = true; rw [xS hc]; exact hu, hm, ?_, fun p h1 h2 => ⟨if_pos ⟨rfl, h1, h2⟩, if_pos ⟨rfl, h1, h2⟩⟩⟩⟩
      · show S.deed.left = 0
        rw [kT h0]; exact h0
      · show (S.next.set b.toNat 0).getD b.toNat 0 = 0
        simp only [List.getD, List.getElem?_set_self (show b.toNat < S.next.length by omega), Option.getD_some]
theorem Hf {p : Int} {d : List Nat} (hg : S.g.aD) (hu : S.up = true) (h : 0 ≤ b ∧ b < S.g.bl ∧ 0 ≤ p ∧ p < S.g.pg) (hm : S.marked b = false) (h8 : Small 256 d) (hl : d.length = S.room) (hn : S.jm b = p) (hln : (S.next.length : Int) = S.g.bl) :
    Rest b S (S.bQ b p d).1 ∧ (S.left = 0 → (S.bQ b p d).1.left = 0 ∧ (S.bQ b p d).2 ≠ 70) ∧ (S.weak b = false → (S.bQ b p d).2 ≠ 72) ∧
    (((S.bQ b p d).2 = 0 ∧ (S.bQ b p d).1.up = true ∧ (S.bQ b p d).1.marked b = false ∧ (S.bQ b p d).1.jm b = p + 1 ∧ (S.bQ b p d).1.wrong = S.wrong ∧ (S.bQ b p d).1.pages = nU S.pages (b, p) (some (aT (cZ S.g d)))) ∨
     Fails b S (S.bQ b p d) ∨
     ((S.bQ b p d).2 = 70 ∧ (S.bQ b p d).1.up = false ∧ (S.bQ b p d).1.marked b = false ∧ (S.bQ b p d).1.wrong = S.wrong ∧ ∃ xs, (S.bQ b p d).1.pages = nU S.pages (b, p) (some xs) ∧
       (xs = aT (cZ S.g d) ∨ ∃ ys, xs = aT ys ∧ ys.getD (S.g.se.toNat * S.g.dI) 0 = 255))) := by
  have e0 : S.bQ b p d = done b (S.program b p (aT (cZ S.g d))) := Fy hu h hm hl
  have hpl := KA hg h8 hl
  have hup : ∀ {α : Type} (f : Int × Int → Option α) (v : Option α) (k : Int × Int), k.1 ≠ b → nU f (b, p) v k = f k := fun f v k hk => if_neg fun e => hk (by rw [e])
  cases hc : S.cut with
  | true =>
    have e1 : S.program b p (aT (cZ S.g d)) = ({ S.deed with pages := nU S.pages (b, p) (some ((aT (cZ S.g d)).take (S.kept (aT (cZ S.g d)).length).toNat ++ S.blank.drop (S.kept (aT (cZ S.g d)).length).toNat)), next := S.iB b (p + 1) }, 70) := by
      unfold program
      rw [if_neg (by rw [hu]; decide), if_neg (by rw [Dv h]; rintro (h | h); cases h; exact h hpl), if_neg (fun h => h hn.symm), hc]; rfl
    have e2 : S.bQ b p d = S.program b p (aT (cZ S.g d)) := by
      rw [e0]; unfold done; rw [if_pos (by rw [e1]; first | exact sK | exact wY)]
    rw [e2, e1]
    refine ⟨⟨rfl, by show (S.next.set _ _).length = _; rw [List.length_set], fun k hk => hup _ _ k hk, fun k hk => rfl, fun _ _ => rfl, rfl⟩, fun h0 => ?_, fun _ => sK, .inr (.inr ⟨rfl, qX hc, hm, rfl, _, rfl, ?_⟩)⟩
    · rw [uo h0] at hc; cases hc
    · obtain ⟨k, hk⟩ : ∃ k, k = (S.kept (aT (cZ S.g d)).length).toNat := ⟨_, rfl⟩
      rw [← hk]
      have hkl : k ≤ (aT (cZ S.g d)).length := by rw [hk]; unfold kept; omega
      have hbl : S.blank = aT (List.replicate S.g.raw.toNat 255) := by unfold blank aT raw; rw [List.map_replicate]; rfl
      have hrw := Eh hg
      have hraw : (aT (cZ S.g d)).length = S.g.se.toNat * S.g.dI + 1 := by
        have h1 : ((aT (cZ S.g d)).length : Int) = S.g.raw := hpl
        omega
      by_cases hke : k = (aT (cZ S.g d)).length
      · refine .inl ?_
        rw [hke, List.take_of_length_le (Nat.le_refl _), hbl, List.drop_eq_nil_of_le, List.append_nil]
        unfold aT
        rw [List.length_map, List.length_replicate]
        unfold aT at hraw
        rw [hraw, hrw, Int.toNat_natCast]; exact Nat.le_refl _
      · refine .inr ⟨(cZ S.g d).take k ++ (List.replicate S.g.raw.toNat 255).drop k, ?_, ?_⟩
        · rw [hbl]
          unfold aT
          rw [List.map_append, List.map_take, List.map_drop]
        · have hpk : (cZ S.g d).length = S.g.se.toNat * S.g.dI + 1 := by unfold aT at hraw; rw [List.length_map] at hraw; exact hraw
          have TJ : k < S.g.se.toNat * S.g.dI + 1 := by
            unfold aT at hkl hke
            rw [List.length_map] at hkl hke
            omega
          simp only [List.getD]
          rw [List.getElem?_append_right (by rw [List.length_take]; omega), List.length_take, List.getElem?_drop, hrw, Int.toNat_natCast, List.getElem?_replicate, if_pos (by omega)]
          rfl
  | false =>
    cases hw : S.weak b with
    | true =>
      have e1 : S.program b p (aT (cZ S.g d)) = (S.deed, 72) := by
        unfold program
        rw [if_neg (by rw [hu]; decide), if_neg (by rw [Dv h]; rintro (h | h); cases h; exact h hpl), if_neg (fun h => h hn.symm), hc, if_neg Bool.false_ne_true, hw, if_pos rfl]
      rw [e0, e1]
      obtain ⟨h1, h2, h3⟩ := Fu hu hc ⟨h.1, h.2.1⟩
      exact ⟨h1, h3, fun h => (by cases h), .inr (.inl h2)⟩
    | false =>
      have e1 : S.program b p (aT (cZ S.g d)) = ({ S.deed with pages := nU S.pages (b, p) (some (aT (cZ S.g d))), next := S.iB b (p + 1) }, 0) := by
        unfold program
        rw [if_neg (by rw [hu]; decide), if_neg (by rw [Dv h]; rintro (h | h); cases h; exact h hpl), if_neg (fun h => h hn.symm), hc, if_neg Bool.false_ne_true, hw, if_neg Bool.false_ne_true]; rfl
      have e2 : S.bQ b p d = S.program b p (aT (cZ S.g d)) := by
        rw [e0]; unfold done; rw [if_pos (by rw [e1]; first | exact sK | exact wY)]
      rw [e2, e1]
      refine ⟨⟨rfl, by show (S.next.set _ _).length = _; rw [List.length_set], fun k hk => hup _ _ k hk, fun k hk => rfl, fun _ _ => rfl, rfl⟩, fun h0 => ⟨?_, nG⟩, fun _ => wY, .inl ⟨rfl, by show S.deed.up = true; rw [xS hc]; exact hu, hm, ?_, rfl, rfl⟩⟩
      · show S.deed.left = 0
        rw [kT h0]; exact h0
      · show (S.next.set b.toNat (p + 1)).getD b.toNat 0 = p + 1
        simp only [List.getD, List.getElem?_set_self (show b.toNat < S.next.length by omega), Option.getD_some]
end
end ah
namespace ah
def Wr (S S' : ah) : Prop := ∀ k, S'.wrong k = none ∨ S'.wrong k = S.wrong k
theorem Wr.refl (S : ah) : Wr S S := fun _ => .inr rfl
theorem Wr.of {S S' : ah} (h : S'.wrong = S.wrong) : Wr S S' := fun k => .inr (by rw [h])
theorem Wr.trans {S T U : ah} (h : Wr S T) (h' : Wr T U) : Wr S U := fun k => by
  rcases h' k with e | e
  · exact .inl e
  · rw [e]; exact h k
theorem Wr.few {S S' : ah} (h : Wr S S') (hg : S'.g = S.g) (hf : ∀ k, S.IW k) : ∀ k, S'.IW k := fun k w hw => by
  rcases h k with e | e
  · rw [e] at hw; cases hw
  · rw [e] at hw
    have := hf k w hw
    rw [hg]; exact this
theorem Wr.none {S S' : ah} (h : Wr S S') (hf : ∀ k, S.wrong k = none) : ∀ k, S'.wrong k = none := fun k => by
  rcases h k with e | e
  · exact e
  · rw [e]; exact hf k
theorem Wr.drop {S S' : ah} {b n : Int} (h : S'.wrong = aN S.wrong b n) : Wr S S' := fun k => by
  rw [h]; unfold aN
  split
  · exact .inl rfl
  · exact .inr rfl
def Same (b : Int) (S S' : ah) : Prop := S'.pages = S.pages ∧ S'.wrong = S.wrong
def Po (S : ah) (b : Int) (pg : Nat → List Nat) (N j : Nat) : Prop := j ≤ N + 1 ∧ (∀ p : Nat, p < j → S.pages (b, (p : Int)) = some (aT (cZ S.g (pg p)))) ∧ (j ≤ N → S.rH (b, (j : Int)))
theorem mV {S : ah} {k : Int × Int} (h : S.pages k = none) : S.rH k := fun xs hx => by rw [h] at hx; cases hx
theorem zi {S : ah} {b : Int} : Wr S (S.aM b).1 := by
  have e1 : ∀ x : ah × Int, Wr S x.1 → Wr S (done b x).1 := fun x hx => by
    have hm : (x.1.mark b).1.wrong = x.1.wrong := by
      unfold mark
      split
      · rfl
      · split
        · rfl
        · unfold all
          dsimp only
          split <;> rfl
    unfold done
    split
    · exact hx
    · split
      · exact hx.trans (Wr.of hm)
      · exact hx.trans (Wr.of hm)
  unfold aM
  split
  · exact Wr.refl S
  · refine e1 _ ?_
    unfold erase
    split
    · exact Wr.refl S
    · split
      · exact Wr.refl S
      · dsimp only
        split
        · exact Wr.drop rfl
        · split
          · exact Wr.refl S
          · exact Wr.drop rfl
theorem J6 {S : ah} {b p : Int} {d : List Nat} : Wr S (S.bQ b p d).1 := by
  have hm : ∀ T : ah, (T.mark b).1.wrong = T.wrong := fun T => by
    unfold mark
    split
    · rfl
    · split
      · rfl
      · unfold all
        dsimp only
        split <;> rfl
  have e1 : ∀ x : ah × Int, Wr S x.1 → Wr S (done b x).1 := fun x hx => by
    unfold done
    split
    · exact hx
    · split
      · exact hx.trans (Wr.of (hm _))
      · exact hx.trans (Wr.of (hm _))
  unfold bQ
  split
  · exact Wr.refl S
  · refine e1 _ (Wr.of ?_)
    unfold program
    split
    · rfl
    · split
      · rfl
      · split
        · rfl
        · dsimp only
          split
          · rfl
          · split <;> rfl
section
variable {S : ah} {b : Int}
theorem Ma {pg : Nat → List Nat} (hg : S.g.aD) (hu : S.up = true) (hb : 0 ≤ b ∧ b < S.g.bl) (hm : S.marked b = false) (h8 : ∀ p, Small 256 (pg p)) (hl : ∀ p, (pg p).length = S.room) (hn : S.jm b = 0) (hln : (S.next.length : Int) = S.g.bl)
    {N : Nat} (hN : (N : Int) < S.g.pg) (h0 : ∀ p, 0 ≤ p → p < S.g.pg → S.pages (b, p) = none) : ∀ k, k ≤ N + 1 → Rest b S (dN S b pg k).1 ∧ Wr S (dN S b pg k).1 ∧ (S.left = 0 → (dN S b pg k).1.left = 0 ∧ (dN S b pg k).2 ≠ 70) ∧ (S.weak b = false → (dN S b pg k).2 ≠ 72) ∧
    (((dN S b pg k).2 = 0 ∧ (dN S b pg k).1.up = true ∧ (dN S b pg k).1.marked b = false ∧ (dN S b pg k).1.jm b = (k : Int) ∧ (∀ p : Nat, p < k → (dN S b pg k).1.pages (b, (p : Int)) = some (aT (cZ S.g (pg p)))) ∧ (∀ p : Int, (k : Int) ≤ p → p < S.g.pg → (dN S b pg k).1.pages (b, p) = none)) ∨
     ((dN S b pg k).2 = 72 ∧ (dN S b pg k).1.up = true ∧ (dN S b pg k).1.marked b = true) ∨
     ((dN S b pg k).2 = 70 ∧ (dN S b pg k).1.up = false ∧ ((dN S b pg k).1.marked b = true ∨ (dN S b pg k).1.marked b = false ∧ ∃ j, (dN S b pg k).1.Po b pg N j)))
  | 0, _ => ⟨Rest.refl b S, Wr.refl S, fun h => ⟨h, nG⟩, fun _ => wY, .inl ⟨rfl, hu, hm, hn, fun p hp => absurd hp (Nat.not_lt_zero _), fun p h1 h2 => h0 p h1 h2⟩⟩
  | k + 1, hk => by
    obtain ⟨r1, r2, r3, r4, r5⟩ := Ma hg hu hb hm h8 hl hn hln hN h0 k (by omega)
    by_cases he : (dN S b pg k).2 = 0
    · obtain ⟨Y, hY⟩ : ∃ Y, Y = (dN S b pg k).1 := ⟨_, rfl⟩
      have est : dN S b pg (k + 1) = Y.bQ b k (pg k) := by rw [dN, if_neg (fun h => h he), ← hY]
      rw [← hY] at r1 r2 r3 r5
      have q5 : Y.up = true ∧ Y.marked b = false ∧ Y.jm b = (k : Int) ∧ (∀ p : Nat, p < k → Y.pages (b, (p : Int)) = some (aT (cZ S.g (pg p)))) ∧ (∀ p : Int, (k : Int) ≤ p → p < S.g.pg → Y.pages (b, p) = none) := by
        rcases r5 with h | h | h
        · exact h.2
        · rw [he] at h; exact absurd h.1.symm (by decide)
        · rw [he] at h; exact absurd h.1.symm (by decide)
      obtain ⟨u1, u2, u3, u4, u5⟩ := q5
      have hroom : (pg k).length = Y.room := by rw [hl]; unfold room; rw [r1.g]
      obtain ⟨w1, w2, w3, w4⟩ := Hf (S := Y) (b := b) (p := (k : Int)) (d := pg k) (by rw [r1.g]; exact hg) u1 (by rw [r1.g]; omega) u2 (h8 k) hroom u3 (by rw [r1.len, r1.g]; exact hln)
      rw [est]
      have hpk : cZ Y.g (pg k) = cZ S.g (pg k) := by rw [r1.g]
      have ho : ∀ (f : Int × Int → Option (List Int)) (v : Option (List Int)) (p : Int), p ≠ k → nU f (b, (k : Int)) v (b, p) = f (b, p) := fun f v p hp => if_neg fun e => hp (by injection e)
      have hh : ∀ (f : Int × Int → Option (List Int)) (v : Option (List Int)), nU f (b, (k : Int)) v (b, (k : Int)) = v := fun f v => if_pos rfl
      refine ⟨r1.trans w1, r2.trans J6, fun h => w2 (r3 h).1, fun h => w3 (by rw [r1.weak]; exact h), ?_⟩
      rcases w4 with ⟨a1, a2, a3, a4, _, a6⟩ | (⟨a1, a2, a3⟩ | ⟨a1, a2, a3⟩) | ⟨a1, a2, a3, _, xs, a5, a6⟩
      · refine .inl ⟨a1, a2, a3, by rw [a4]; omega, fun p hp => ?_, fun p h1 h2 => ?_⟩
        · rw [a6]
          by_cases Og : p = k
          · subst Og; first | rw [hh, hpk] | rw [hh]
          · rw [ho _ _ _ (by omega)]; exact u4 p (by omega)
        · rw [a6, ho _ _ _ (by omega)]; exact u5 p (by omega) h2
      · exact .inr (.inl ⟨a1, a2, a3⟩)
      · refine .inr (.inr ⟨a1, a2, ?_⟩)
        rcases a3 with a3 | ⟨a3, a4, _⟩
        · exact .inl a3
        · refine .inr ⟨by rw [a3]; exact u2, k, by omega, fun p hp => ?_, fun _ => mV ?_⟩
          · rw [a4, w1.g, r1.g]; exact u4 p hp
          · rw [a4]; exact u5 _ (Int.le_refl _) (by omega)
      · refine .inr (.inr ⟨a1, a2, .inr ⟨a3, ?_⟩⟩)
        rcases a6 with rfl | ⟨ys, rfl, hy⟩
        · refine ⟨k + 1, by omega, fun p hp => ?_, fun hkN => mV ?_⟩
          · rw [a5, w1.g, r1.g]
            by_cases Og : p = k
            · subst Og; first | rw [hh, hpk] | rw [hh]
            · rw [ho _ _ _ (by omega)]; exact u4 p (by omega)
          · rw [a5, ho _ _ _ (by omega)]; exact u5 _ (by omega) (by omega)
        · refine ⟨k, by omega, fun p hp => ?_, fun _ xs hx => ?_⟩
          · rw [a5, w1.g, r1.g, ho _ _ _ (by omega)]; exact u4 p hp
          · rw [a5, hh] at hx
            injection hx with hx
            exact ⟨ys, hx.symm, by rw [w1.g]; exact hy⟩
    · have est : dN S b pg (k + 1) = dN S b pg k := by rw [dN, if_pos he]
      rw [est]
      refine ⟨r1, r2, r3, r4, ?_⟩
      rcases r5 with h | h | h
      · exact absurd h.1 he
      · exact .inr (.inl h)
      · exact .inr (.inr h)
theorem Jy {h : Hd} {d : List Nat} (Dz : h.may S.g = true) (hl : h.len = (d.length : Nat)) (h8 : Small 256 d) {j : Nat} (hj : S.Po b (kQ S.g h d) (S.oq h) j) : S.rH (b, 0) ∨ S.Part b h ∨ S.Holds b h d := by
  obtain ⟨h1, h2, h3⟩ := hj
  rcases Nat.eq_zero_or_pos j with rfl | h0
  · exact .inl (h3 (Nat.zero_le _))
  · by_cases hN : j ≤ S.oq h
    · exact .inr (.inl ⟨Dz, h2 0 h0, j, hN, h3 hN⟩)
    · exact .inr (.inr ⟨Dz, hl, h8, fun p hp => h2 p (by omega)⟩)
theorem GX {num aC : Int} {d : List Nat} (hg : S.g.aD) (hu : S.up = true) (hb : 0 ≤ b ∧ b < S.g.bl) (hm : S.marked b = false) (hln : (S.next.length : Int) = S.g.bl) (h8 : Small 256 d) (Dz : Hd.may S.g ⟨aC, (d.length : Nat), num⟩ = true) :
    Rest b S (bP S num b aC d).1 ∧ Wr S (bP S num b aC d).1 ∧ (S.left = 0 → (bP S num b aC d).1.left = 0 ∧ (bP S num b aC d).2 ≠ 70) ∧ (S.weak b = false → (bP S num b aC d).2 ≠ 72) ∧
    (((bP S num b aC d).2 = 0 ∧ (bP S num b aC d).1.up = true ∧ (bP S num b aC d).1.marked b = false ∧ (bP S num b aC d).1.Holds b ⟨aC, (d.length : Nat), num⟩ d) ∨
     ((bP S num b aC d).2 = 72 ∧ (bP S num b aC d).1.up = true ∧ (bP S num b aC d).1.marked b = true) ∨
     ((bP S num b aC d).2 = 70 ∧ (bP S num b aC d).1.up = false ∧ ((bP S num b aC d).1.marked b = true ∨ (bP S num b aC d).1.marked b = false ∧
       (Same b S (bP S num b aC d).1 ∨ (bP S num b aC d).1.rH (b, 0) ∨ (bP S num b aC d).1.Part b ⟨aC, (d.length : Nat), num⟩ ∨ (bP S num b aC d).1.Holds b ⟨aC, (d.length : Nat), num⟩ d)))) := by
  have hgb := hg
  unfold Geo.aD at hgb
  obtain ⟨e1, e2, e3, e4⟩ := yH hu hb (by omega) hm hln
  obtain ⟨h, hh⟩ : ∃ h : Hd, h = ⟨aC, (d.length : Nat), num⟩ := ⟨_, rfl⟩
  rw [← hh] at Dz ⊢
  have hpb := Dl hg Dz
  by_cases he : (S.aM b).2 = 0
  · obtain ⟨T, hT⟩ : ∃ T, T = (S.aM b).1 := ⟨_, rfl⟩
    have est : bP S num b aC d = dN T b (kQ S.g h d) (S.oq h + 1) := by
      unfold bP
      rw [if_neg (fun h => h he), ← hT, ← hh]
      unfold oq
      rw [hh]
    have hwr := zi (S := S) (b := b)
    rw [← hT] at e1 e2 e4 hwr
    have q4 : T.up = true ∧ T.marked b = false ∧ T.jm b = 0 ∧ ∀ p, 0 ≤ p → p < S.g.pg → T.pages (b, p) = none ∧ T.wrong (b, p) = none := by
      rcases e4 with h | (h | h) | h
      · exact h.2
      · rw [he] at h; exact absurd h.1.symm (by decide)
      · rw [he] at h; exact absurd h.1.symm (by decide)
      · rw [he] at h; exact absurd h.1.symm (by decide)
    obtain ⟨u1, u2, u3, u4⟩ := q4
    obtain ⟨w1, w2, w3, w4, w5⟩ := Ma (S := T) (b := b) (pg := kQ S.g h d) (by rw [e1.g]; exact hg) u1 (by rw [e1.g]; exact hb) u2 (fun p => sJ h8 p) (fun p => by rw [mD hg]; unfold room; rw [e1.g]; exact (Ch hg).symm) u3 (by rw [e1.len, e1.g]; exact hln)
      (N := S.oq h) (by rw [e1.g]; omega) (fun p h1 h2 => (u4 p h1 (by rw [← e1.g]; exact h2)).1) (S.oq h + 1) (Nat.le_refl _)
    rw [est]
    have hgg : (dN T b (kQ S.g h d) (S.oq h + 1)).1.g = S.g := (w1.g).trans e1.g
    have hst : ∀ j, (dN T b (kQ S.g h d) (S.oq h + 1)).1.Po b (kQ S.g h d) (S.oq h) j → (dN T b (kQ S.g h d) (S.oq h + 1)).1.rH (b, 0) ∨ (dN T b (kQ S.g h d) (S.oq h + 1)).1.Part b h ∨ (dN T b (kQ S.g h d) (S.oq h + 1)).1.Holds b h d := fun j hj => by
      refine Jy (by rw [hgg]; exact Dz) (by rw [hh]) h8 (j := j) ?_
      have hp2 : (dN T b (kQ S.g h d) (S.oq h + 1)).1.oq h = S.oq h := by
        show ((dN T b (kQ S.g h d) (S.oq h + 1)).1.g.aW h.len).toNat = (S.g.aW h.len).toNat
        rw [hgg]
      rw [hp2, hgg]
      exact hj
    refine ⟨e1.trans w1, hwr.trans w2, fun h0 => w3 (e2 h0).1, fun hw => w4 (by rw [e1.weak]; exact hw), ?_⟩
    rcases w5 with ⟨a1, a2, a3, a4, a5, a6⟩ | a | ⟨a1, a2, a3⟩
    · refine .inl ⟨a1, a2, a3, ⟨by rw [hgg]; exact Dz, by rw [hh], h8, fun p hp => ?_⟩⟩
      have hp2 : (dN T b (kQ S.g h d) (S.oq h + 1)).1.oq h = S.oq h := by
        show ((dN T b (kQ S.g h d) (S.oq h + 1)).1.g.aW h.len).toNat = (S.g.aW h.len).toNat
        rw [hgg]
      rw [hp2] at hp
      rw [a5 p (by omega), hgg, e1.g]
    · exact .inr (.inl a)
    · refine .inr (.inr ⟨a1, a2, ?_⟩)
      rcases a3 with a3 | ⟨a3, j, hj⟩
      · exact .inl a3
      · exact .inr ⟨a3, .inr (hst j hj)⟩
  · have est : bP S num b aC d = S.aM b := by unfold bP; rw [if_pos he]
    rw [est]
    refine ⟨e1, zi, e2, e3, ?_⟩
    rcases e4 with h | (h | ⟨a1, a2, a3⟩) | ⟨a1, a2, a3, n, a4, a5⟩
    · exact absurd h.1 he
    · exact .inr (.inl h)
    · refine .inr (.inr ⟨a1, a2, ?_⟩)
      rcases a3 with a3 | ⟨a3, a4, a5⟩
      · exact .inl a3
      · exact .inr ⟨by rw [a3]; exact hm, .inl ⟨a4, a5⟩⟩
    · refine .inr (.inr ⟨a1, a2, .inr ⟨a3, ?_⟩⟩)
      by_cases hn : 0 < n
      · exact .inr (.inl (mV (by rw [a4]; exact if_pos ⟨rfl, Int.le_refl _, hn⟩)))
      · have hd : ∀ (f : Int × Int → Option (List Int)), aN f b n = f := fun f => by
          funext k
          unfold aN
          rw [if_neg (fun h => by omega)]
        exact .inl ⟨by rw [a4, hd], by rw [a5, hd]⟩
end
end ah
end Go.Proofs.YtcmojpiokjhmhaaGreat
