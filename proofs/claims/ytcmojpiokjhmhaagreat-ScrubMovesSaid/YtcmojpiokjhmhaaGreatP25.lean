import Derived.Test.YtcmojpiokjhmhaaGreatP24
import Derived.Test.YtcmojpiokjhmhaaGreatP16
import Derived.Test.YtcmojpiokjhmhaaGreatP17
namespace Go.Proofs.YtcmojpiokjhmhaaGreat
open Go.Sl Go.RowKit
set_option linter.unusedVariables false
set_option linter.unusedSimpArgs false
set_option maxRecDepth 20000
def bU : List Int → ah → ah × Int
  | [], S => (S, 0)
  | x :: xs, S => if (S.aM x).2 = 70 then S.aM x else bU xs (S.aM x).1
def St.drop (T : St) (aB : Int) : St := { T with stands := T.stands.set aB.toNat (-1), stale := T.stale.set aB.toNat [] }
def dh (S : ah) (T : St) (aB : Int) : ah × St × Int :=
  if T.ready aB ≠ 0 then (S, T, T.ready aB)
  else if T.at' aB < 0 then (S, T, 0)
  else if (bU (T.stale.getD aB.toNat [] ++ [T.at' aB]) S).2 = 70 then ((bU (T.stale.getD aB.toNat [] ++ [T.at' aB]) S).1, T.told 70, 70)
  else ((bU (T.stale.getD aB.toNat [] ++ [T.at' aB]) S).1, T.drop aB, 0)
section
variable {bs bd bc : Nat} {g : Geo} {T : bC} {C : Cw} {K : World} {F : List ak}
theorem bC.R6 {q : aX} {i : Nat} (hq : T.cB[i]? = some q) : Seq K (T.A bs bd g :: F) q.A q.l.length 1 (ints .i64 q.l) :=
  Seq.xK (A := bG (T.cB.map aX.row)) (l := bC.parts bs bd g T) (.tail _ (.tail _ (.tail _ (.head _)))) (Seq.xK (A := q.row) (List.mem_map.2 ⟨q, List.mem_of_getElem? hq, rfl⟩) (aU.seq (by rw [aG, Nat.mul_one])))
theorem bC.U2 {q : aX} {i : Nat} (hq : T.cB[i]? = some q) : Rd K (T.A bs bd g :: F) (some ⟨T.b8, 0 + i * 1, none⟩) q.v :=
  Rd.xK (A := Cells T.b8 24 (T.cB.map aX.v)) (l := bC.parts bs bd g T) (.tail _ (.tail _ (.head _))) (Rd.here (by rw [Nat.zero_add, Nat.mul_one, List.getElem?_map, hq]; rfl))
theorem EH (hC : C.Ok) (hg : C.g = g) (hT : T.Ok g) (aB : Int) (hlong : ∀ l ∈ T.sem.stale, l.length ≤ 100000) :
    Does Tryz.prog 22 #[ptr bs 0, .int .i64 aB] K (C.A bc :: bK bd bc g :: T.A bs bd g :: F)
    (fun v H' => ∃ (C' : Cw) (T' : bC), C'.Ok ∧ C'.g = g ∧ T'.Ok g ∧ C'.sem = (dh C.sem T.sem aB).1 ∧ T'.sem = (dh C.sem T.sem aB).2.1 ∧ v = .int .i64 (dh C.sem T.sem aB).2.2 ∧ H' = C'.A bc :: bK bd bc g :: T'.A bs bd g :: F) := by
  obtain ⟨R, hR⟩ : ∃ R, R = dh C.sem T.sem aB := ⟨_, rfl⟩
  rw [← hR]
  unfold dh at hR
  have hgm : g.aD := by rw [← hg]; exact hC.aD
  have hgb := hgm
  unfold Geo.aD at hgb
  have hlb := hT.aj
  have hin : T.sem.ready aB = 0 → 0 ≤ aB ∧ aB < T.stands.length := fun h => by
    unfold St.ready bC.sem at h
    dsimp only at h
    split at h
    · cases h
    · split at h
      · cases h
      · omega
  refine Does.enter Tryz.func22 rfl Tryz.ntmps22 rfl ?_
  simp only [aI, Nat.reduceAdd]
  refine WC.sr (WL.sg rfl rfl (WL.nil (WC.seq (WC.sr (WL.mv rfl rfl (WL.mv rfl rfl ?_))))))
  refine WL.sub (Sub.refl _) (fun w h => h.sel 3 [2, 0, 1] rfl) ?_
  refine WL.call (vs := [_, _]) Tryz.call51 ⟨OV.p rfl, OV.p rfl, trivial⟩ (qC aB) rfl ?_
  rintro _ _ ⟨rfl, rfl⟩
  refine WL.sub (Sub.refl _) (fun w h => h.sel 3 [1, 2, 0] rfl) ?_
  refine WL.sg rfl rfl (WL.nil (WC.sr (WL.mv rfl rfl (WL.val (V.neq (OV.p rfl) (OV.p rfl)) rfl (WL.nil ?_)))))
  refine WC.cond rfl (fun hc0 => ?_) (fun hc0 => ?_)
  ·simp only [Bool.not_eq_true', Bool.not_eq_false', decide_eq_true_eq, decide_eq_false_iff_not] at hc0
   have h0 := hc0
   rw [if_pos h0] at hR
   refine WC.sr (WL.mv rfl rfl (WL.sg rfl rfl (WL.nil (WC.ret ?_))))
   subst hR
   exact au.ret (H' := C.A bc :: bK bd bc g :: T.A bs bd g :: F) (aO.tmp rfl rfl) (fun w h => h) ⟨C, T, hC, hg, hT, rfl, rfl, rfl, rfl⟩
  ·simp only [Bool.not_eq_true', Bool.not_eq_false', decide_eq_true_eq, decide_eq_false_iff_not] at hc0
   have h0 := hc0
   have hr0 : T.sem.ready aB = 0 := by omega
   rw [if_neg (fun h => h hr0)] at hR
   have hinl := hin hr0
   obtain ⟨b, hb⟩ : ∃ b, b = T.sem.at' aB := ⟨_, rfl⟩
   rw [← hb] at hR
   have hrs : ∀ {X Y : ak}, Rd K (X :: Y :: T.A bs bd g :: F) (T.sA.map (·.add (aB.toNat * 1))) (.int .i64 b) := fun {X Y} => by rw [hb]; exact Rd.up (Rd.up (bC.Ro hinl))
   refine WC.skip (WC.sr (WL.mv rfl rfl (WL.nc rfl rfl (WL.val (V.fieldAddr lJ (OV.p rfl)) rfl ?_))))
   refine WL.val (V.load Tryz.isAgg24 (OV.p rfl) (fun _ => Rd.up (Rd.up (bC.sK 6 _ rfl)))) rfl ?_
   refine WL.mv rfl rfl ?_
   refine WL.val (V.dS bZ (OV.p rfl) (OV.p rfl) (fun _ => hinl) (fun _ => hrs)) rfl ?_
   refine WL.val (V.load Tryz.isAgg3 (OV.p rfl) (fun _ => hrs)) rfl ?_
   refine WL.sg rfl rfl (WL.nil (WC.seq (WC.sr (WL.mv rfl rfl (WL.val (V.lss (OV.p rfl) (OV.p rfl)) rfl (WL.nil ?_))))))
   refine WC.cond rfl (fun hc1 => ?_) (fun hc1 => ?_)
   ·simp only [decide_eq_true_eq, decide_eq_false_iff_not] at hc1
    have h1 := hc1
    rw [if_pos h1] at hR
    refine WC.sr (WL.sg rfl rfl (WL.nil (WC.ret ?_)))
    subst hR
    exact au.ret (H' := C.A bc :: bK bd bc g :: T.A bs bd g :: F) (aO.tmp rfl rfl) (fun w h => h) ⟨C, T, hC, hg, hT, rfl, rfl, rfl, rfl⟩
   ·simp only [decide_eq_true_eq, decide_eq_false_iff_not] at hc1
    have h1 := hc1
    rw [if_neg h1] at hR
    have hil := hT.len
    obtain ⟨q, hq⟩ : ∃ q, q = T.cB[aB.toNat]'(by omega) := ⟨_, rfl⟩
    have hqg : T.cB[aB.toNat]? = some q := by rw [hq]; exact List.getElem?_eq_getElem (by omega)
    have Tk : q.l.length ≤ 100000 := hlong _ (List.mem_map.2 ⟨q, by rw [hq]; exact List.getElem_mem _, rfl⟩)
    have OC : T.sem.stale.getD aB.toNat [] = q.l := by
      unfold bC.sem
      simp only [List.getD, List.getElem?_map, hqg, Option.map_some, Option.getD_some]
    obtain ⟨xs, hxs⟩ : ∃ xs, xs = q.l ++ [b] := ⟨_, rfl⟩
    have hxl : xs.length = q.l.length + 1 := by rw [hxs, List.length_append]; rfl
    rw [OC, ← hxs] at hR
    refine WC.skip (WC.seq (WC.sr (WL.mv rfl rfl (WL.nc rfl rfl (WL.val (V.fieldAddr tQ (OV.p rfl)) rfl ?_)))))
    refine WL.val (V.load Tryz.isAgg87 (OV.p rfl) (fun _ => Rd.up (Rd.up (bC.sK 7 _ rfl)))) rfl ?_
    refine WL.mv rfl rfl ?_
    refine WL.val (V.bR AU (OV.p rfl) (OV.p rfl) (fun hc => by omega)) rfl ?_
    refine WL.val (V.load Tryz.isAgg24 (OV.p rfl) (fun _ => Rd.up (Rd.up (bC.U2 hqg)))) rfl ?_
    refine WL.call (vs := [_]) Tryz.call57 ⟨OV.p rfl, trivial⟩ (tF (Seq.up (Seq.up (bC.R6 hqg))) (by omega)) rfl ?_
    rintro _ _ ⟨A1, c1, rfl, rfl⟩
    refine WL.mv rfl rfl ?_
    refine WL.buildSlice (E := 3) (cs := [_]) (vs := [(0, _)]) ⟨OV.p rfl, trivial⟩ rfl (bT _) rfl (fun Vx => ?_)
    refine WL.sub (Sub.refl _) (fun w h => h.p1) ?_
    refine WL.append (m := q.l.length) (q := 1) (news := [.int .i64 b]) Tryz.underlying24 el3 (OV.p rfl) (OV.p rfl) (Seq.all rfl) (by intro u hu; rw [List.mem_singleton.1 hu]; rfl) (by omega) rfl rfl (fun A5 c5 EJ ny => ?_)
    refine WL.val (V.len (t := 24) Tryz.runUnderlying24 (OV.p rfl)) rfl (WL.mv rfl rfl (WL.nil (WC.block ?_)))
    have hxe : ints .i64 q.l ++ [.int .i64 b] = ints .i64 xs := by rw [hxs, bf]; rfl
    rw [hxe, ← hxl]
    obtain ⟨n, hn⟩ : ∃ n, n = xs.length := ⟨_, rfl⟩
    rw [← hn] at hxl ⊢
    refine WC.loop (σ := Nat × Cw) (fun s => [(0, ptr bs 0), (1, .int .i64 aB), (35, .slice A5 n c5), (36, .int .i64 (n : Int)), (37, .int .i64 (s.1 : Int))]) (fun s => s.2.A bc :: bK bd bc g :: aU (.slice A5 n c5) 3 1 n (ints .i64 xs) :: T.A bs bd g :: F) (fun s => s.1 ≤ n ∧ s.2.Ok ∧ s.2.g = g ∧ bU (xs.drop s.1) s.2.sem = bU xs C.sem) (fun s => n - s.1) (0, C) ⟨Nat.zero_le _, hC, hg, rfl⟩ (.cons rfl (.cons rfl (.cons (look_eq rfl (by rw [hxl])) (.cons (look_eq rfl (by rw [hxl])) (.cons rfl (.nil _)))))) (fun w h => h.sel 5 [2, 3, 0, 4] rfl) ?_
    rintro ⟨i, C'⟩ ⟨hi, hC', hg', hch⟩
    dsimp only at hi hC' hg' hch ⊢
    have Ja : ∀ {H : List ak}, Seq K (aU (.slice A5 n c5) 3 1 n (ints .i64 xs) :: H) A5 n 1 (ints .i64 xs) := fun {H} => aU.seq (by rw [aG, Nat.mul_one, hn])
    refine WC.sr (WL.val (V.lss (OV.p rfl) (OV.p rfl)) rfl (WL.nil (WC.seq ?_)))
    refine WC.cond rfl (fun hc2 => ?_) (fun hc2 => ?_)
    ·simp only [decide_eq_true_eq, decide_eq_false_iff_not] at hc2
     have hin2 : i < n := by omega
     have hti : (i : Int).toNat = i := by omega
     have hdr : xs.drop i = xs.getD i 0 :: xs.drop (i + 1) := by rw [List.drop_eq_getElem_cons (by omega)]; simp [List.getD, show i < xs.length by omega]
     have hrd : ∀ {H : List ak}, Rd K (aU (.slice A5 n c5) 3 1 n (ints .i64 xs) :: H) (A5.map (·.add ((i : Int).toNat * 1))) (.int .i64 (xs.getD i 0)) := fun {H} => by
       have := Seq.iY (Ja (H := H)) (j := (i : Int)) (by omega)
       rwa [hti] at this ⊢
     obtain ⟨x, hx⟩ : ∃ x, x = xs.getD i 0 := ⟨_, rfl⟩
     rw [← hx] at hdr hrd
     rw [hdr, bU] at hch
     refine WC.skip (WC.seq (WC.block (WC.sr ?_)))
     refine WL.val (V.dS bZ (OV.p rfl) (OV.p rfl) (fun _ => by omega) (fun _ => by repeat (first | exact hrd | apply Rd.up))) rfl ?_
     refine WL.val (V.load Tryz.isAgg3 (OV.p rfl) (fun _ => by repeat (first | exact hrd | apply Rd.up))) rfl ?_
     refine WL.sg rfl rfl (WL.nil (WC.sr (WL.mv rfl rfl (WL.nc rfl rfl (WL.val (V.fieldAddr sU (OV.p rfl)) rfl ?_)))))
     refine WL.val (V.load Tryz.isAgg58 (OV.p rfl) (fun _ => by repeat (first | exact bC.sK 0 _ rfl | apply Rd.up))) rfl ?_
     refine WL.mv rfl rfl (WL.call (vs := [_, _]) Tryz.call58 ⟨OV.p rfl, OV.p rfl, trivial⟩ (uY hC' hg' x) rfl ?_)
     rintro _ _ ⟨C2, hC2, hg2, rfl, hs2, rfl⟩
     refine WL.sg rfl rfl (WL.nil (WC.sr (WL.mv rfl rfl (WL.val (V.eql (OV.p rfl) (OV.p rfl)) rfl (WL.nil ?_)))))
     refine WC.cond rfl (fun hc3 => ?_) (fun hc3 => ?_)
     ·simp only [decide_eq_true_eq, decide_eq_false_iff_not] at hc3
      have h3 := hc3
      rw [if_pos h3] at hch
      rw [← hch, if_pos h3] at hR
      refine WC.sr (WL.mv rfl rfl (WL.mv rfl rfl ?_))
      refine WL.sub (Sub.refl _) (fun w h => h.sel 4 [3, 0, 1, 2] rfl) ?_
      refine WL.call (vs := [_, _]) Tryz.call55 ⟨OV.p rfl, OV.p rfl, trivial⟩ (lF (C'.sem.aM x).2) rfl ?_
      rintro _ _ ⟨rfl, rfl⟩
      refine WL.sg rfl rfl (WL.nil (WC.ret ?_))
      subst hR
      rw [h3]
      exact au.ret (H' := C2.A bc :: bK bd bc g :: (T.told 70).A bs bd g :: F) (aO.tmp rfl rfl) (fun w h => h.sel 4 [1, 2, 0] rfl) ⟨C2, T.told 70, hC2, hg2, hT.told _, hs2, rfl, rfl, rfl⟩
     ·simp only [decide_eq_true_eq, decide_eq_false_iff_not] at hc3
      have h3 := hc3
      rw [if_neg h3] at hch
      refine WC.skip (WC.region (WL.ad rfl rfl rfl ?_))
      refine WL.mv rfl rfl (WL.nil ?_)
      refine ⟨rfl, ?_⟩
      exact ⟨(i + 1, C2), ⟨hin2, hC2, hg2, by show bU (xs.drop (i + 1)) C2.sem = _; rw [hs2]; exact hch⟩, (by show n - (i + 1) < n - i; omega), .cons rfl (.cons rfl (.cons rfl (.cons rfl (.cons (look_eq rfl (by simp)) (.nil _))))), fun w h => h⟩
    ·simp only [decide_eq_true_eq, decide_eq_false_iff_not] at hc2
     refine WC.exit (WC.seq ?_)
     obtain rfl : i = n := by omega
     rw [List.drop_eq_nil_of_le (by omega), bU] at hch
     rw [← hch, if_neg (by show ¬ (0 : Int) = 70; decide)] at hR
     dsimp only at hR
     refine WC.have_ (p := ∃ g1, T.sA = some ⟨g1, 0, none⟩) (fun w h => bC.I8 (bs := bs) (bd := bd) (g := g) (by omega) (h.sel 4 [3] rfl)) (fun ⟨g1, hA1⟩ => ?_)
     refine WC.sub (H' := Cells T.b8 24 (T.cB.map aX.v) :: T.sl :: bG ((T.cB.map aX.row).set aB.toNat Og.row) :: Cells bs 89 (T.cells bd g) :: C'.A bc :: bK bd bc g :: F) (Sub.refl _) (fun w h => by
       have h9 : Sat K w (bC.parts bs bd g T ++ (C'.A bc :: bK bd bc g :: F)) := (h.sel 4 [3, 0, 1] rfl).uF
       have h10 := Sat.takeA (k := aB.toNat) (by rw [List.length_map]; omega) (h9.sel 4 [3, 2, 0, 1] rfl)
       have h11 : Sat K w (Og.row :: bG ((T.cB.map aX.row).eraseIdx aB.toNat) :: Cells T.b8 24 (T.cB.map aX.v) :: Cells bs 89 (T.cells bd g) :: T.sl :: C'.A bc :: bK bd bc g :: F) := Sat.fO h10.tail _ _
       exact (Sat.Bn (by rw [List.length_map]; omega) h11).sel 4 [1, 3, 0, 2] rfl) ?_
     unfold bC.sl
     rw [hA1]
     refine WC.dR (bG ((T.cB.map aX.row).set aB.toNat Og.row) :: Cells bs 89 (T.cells bd g) :: C'.A bc :: bK bd bc g :: F) (by kernel_rfl) ?_
     refine WA.t 0 rfl (V.move (OV.p rfl)) (WA.t 1 rfl (V.nilCheck (OV.p rfl)) (WA.t 2 rfl (V.fieldAddr lJ (OV.p rfl)) ?_))
     refine WA.t 3 rfl (V.aC (v' := .slice (some ⟨g1, 0, none⟩) T.stands.length T.sc) (V.load Tryz.isAgg24 (OV.p rfl) (fun _ => by repeat (first | exact Rd.here rfl | apply Rd.up))) (fun _ => by rw [hA1])) ?_
     refine WA.t 4 rfl (V.move (OV.p rfl)) (WA.t 5 rfl (V.move (OV.p rfl)) (WA.t 6 rfl (V.nilCheck (OV.p rfl)) (WA.t 7 rfl (V.fieldAddr tQ (OV.p rfl)) ?_)))
     refine WA.t 8 rfl (V.load Tryz.isAgg87 (OV.p rfl) (fun _ => by repeat (first | exact Rd.here rfl | apply Rd.up))) ?_
     refine WA.t 9 rfl (V.move (OV.p rfl)) ?_
     refine WA.t 10 rfl (V.bR bZ (OV.p rfl) (OV.p rfl) (fun hc => by omega)) ?_
     refine WA.o 11 rfl ?_
     refine WL.store (cs := [_]) Tryz.sizeOf3 (OV.p rfl) (OV.p rfl) rfl rfl rfl (bA.up (bA.TG (by omega))) ?_
     refine WL.nil ?_
     refine WA.t 12 rfl (V.bR AU (OV.p rfl) (OV.p rfl) (fun hc => by omega)) ?_
     refine WA.o 13 rfl ?_
     refine WL.store (cs := [_]) Tryz.sizeOf24 (OV.p rfl) (OV.p rfl) rfl rfl rfl (bA.at_ (by rw [List.length_map]; omega)) ?_
     refine WL.nil (WA.fin (WC.sr (WL.sg rfl rfl (WL.nil (WC.ret ?_)))))
     subst hR
     obtain ⟨T', hT'⟩ : ∃ T' : bC, T' = { T with stands := T.stands.set aB.toNat (-1), cB := T.cB.set aB.toNat Og } := ⟨_, rfl⟩
     refine au.ret (H' := C'.A bc :: bK bd bc g :: T'.A bs bd g :: F) (aO.tmp rfl rfl) (fun w h => ?_) ⟨C', T', hC', hg', ?_, rfl, ?_, rfl, rfl⟩
     · refine (Sat.all (l := bC.parts bs bd g T') (H := C'.A bc :: bK bd bc g :: F) (K := K) (w := w) ?_).sel 3 [1, 2, 0] rfl
       unfold bC.parts bC.cells bC.sl
       rw [hT']
       dsimp only
       rw [List.length_set, List.length_set, hA1, List.map_set, List.map_set]
       have e1 : (ints .i64 T.stands).set (0 + aB.toNat * 1) (.int .i64 (-1)) = ints .i64 (T.stands.set aB.toNat (-1)) := by unfold ints; rw [show 0 + aB.toNat * 1 = aB.toNat by omega, List.map_set]
       rw [← e1]
       have h2 := h.sel 6 [3, 1, 0, 2, 4, 5] rfl
       rw [show 0 + aB.toNat * 1 = aB.toNat by omega] at h2 ⊢
       unfold bC.cells at h2
       rw [hA1] at h2
       exact h2
     · rw [hT']
       refine ⟨by show (T.cB.set _ _).length = (T.stands.set _ _).length; rw [List.length_set, List.length_set]; exact hT.len, by show 1 ≤ (T.stands.set _ _).length ∧ _; rw [List.length_set]; exact hT.aj, hT.next, hT.at_, fun x hx => ?_⟩
       rcases List.mem_or_eq_of_mem_set hx with hx | rfl
       · exact hT.std x hx
       · omega
     · rw [hT']
       unfold bC.sem St.drop
       dsimp only
       rw [List.map_set]; rfl
end
theorem vT {S : ah} (hg : S.g.aD) (hu : S.up = true) : S.gV = 0 := by
  unfold Geo.aD at hg
  have e1 : ¬ ((0 : Int) < 0 ∨ S.g.bl ≤ 0 ∨ (0 : Int) < 0 ∨ S.g.pg ≤ 0 ∨ (decide ((0 : Int) ≤ 0) && decide (0 ≤ S.g.pg)) = false) := by
    simp; omega
  have e2 : S.ahead 0 0 (decide ((0 : Int) ≤ 0) && decide (0 ≤ S.g.pg)) = if S.bad 0 = true then 73 else 0 := by
    unfold ah.ahead
    rw [if_neg (by rw [hu]; decide), if_neg e1]
  unfold ah.gV ah.jC
  rw [e2]
  cases S.bad 0 <;> rfl
def Geo.dG (g : Geo) : Nat := g.sb.toNat + ay g.fl.toNat
namespace ah
def IQ (S : ah) (k : Int × Int) : Prop := ∀ w, S.wrong k = some w → (dU w).Nodup ∧ (∀ x ∈ w, 0 ≤ x ∧ x < (8 * S.g.dG : Nat)) ∧ w.length ≤ S.g.fl.toNat
theorem EA {g : Geo} (hg : g.aD) : g.raw = ((g.se.toNat * g.dG + 1 : Nat) : Int) := Geo.nP hg
theorem EC {S : ah} {b p : Int} (hw : S.IQ (b, p)) : ∃ ks : List Nat, ks.Nodup ∧ (∀ k ∈ ks, k < 8 * S.g.dG) ∧ ks.length ≤ S.g.fl.toNat ∧ (S.wrong (b, p) = none → ks = []) ∧
    ∀ xs, S.pages (b, p) = some (aZ xs) → S.fJ b p = fu xs ks := by
  cases hwr : S.wrong (b, p) with
  | none => exact ⟨[], List.nodup_nil, fun k hk => (by cases hk), Nat.zero_le _, fun _ => rfl, fun xs hp => BR hp hwr⟩
  | some w =>
    obtain ⟨h1, h2, h3⟩ := hw w hwr
    refine ⟨dU w, h1, fun k hk => ?_, by rw [mX]; exact h3, fun h => (by cases h), fun xs hp => ?_⟩
    · obtain ⟨x, hx, rfl⟩ := List.mem_map.1 hk
      have := h2 x hx
      omega
    · unfold fJ reads
      rw [hp, hwr]
      show dU (turn (aZ xs) w) = _
      rw [pG _ _ (fun i hi => (h2 i hi).1), jN]
theorem Cq {S : ah} {b p : Int} {d : List Nat} (hg : S.g.aD) (hu : S.up = true) (h : 0 ≤ b ∧ b < S.g.bl ∧ 0 ≤ p ∧ p < S.g.pg) (hm : S.marked b = false) (h8 : Small 256 d) (hl : d.length = S.room)
    (hp : S.pages (b, p) = some (aZ (dw S.g d))) (hw : S.IQ (b, p)) : ∃ N : Nat, (S.wrong (b, p) = none → N = 0) ∧ S.aY b p = ⟨0, d, N⟩ ∧ S.ku b p = 0 := by
  have hN := qM.of (bl := S.g.bl) (pg := S.g.pg) (by rw [← iG hg]; exact hg)
  obtain ⟨hs1, hb1, ht1⟩ := hN
  obtain ⟨ks, k1, k2, k3, k4, k5⟩ := EC hw
  have hr := k5 _ hp
  have hse : 8 * S.g.dG ≤ 8 * (S.g.se.toNat * S.g.dG) := Nat.mul_le_mul_left _ (Nat.le_mul_of_pos_left _ (by omega))
  obtain ⟨N, hN1, QC⟩ := JA (t := S.g.fl.toNat) (B := S.g.sb.toNat) (S := S.g.se.toNat) (d := d) ht1 (by omega) h8 hl k1 (fun k hk => Nat.lt_of_lt_of_le (k2 k hk) hse) (fun j => by
    refine Nat.le_trans (List.length_filter_le _ _) k3)
  have hread : dD S.g.fl.toNat S.g.se.toNat S.g.sb.toNat (S.fJ b p) = ⟨0, d, N⟩ := by rw [hr]; exact QC
  have RB : S.ahead b p true = 0 := qP hu h hm
  have hdr : S.aY b p = ⟨0, d, N⟩ := by
    unfold aY
    rw [if_neg (by rw [RB]; decide), hread]
    rfl
  refine ⟨N, fun hn => ?_, hdr, ?_⟩
  · have h1 := G6 hg hu h hm h8 hl hp hn
    rw [hdr] at h1
    injection h1
  · unfold ku
    rcases Nat.eq_zero_or_pos (dW S.g.fl.toNat S.g.se.toNat (S.g.sb.toNat + ay S.g.fl.toNat) (S.fJ b p)) with h1 | h1
    · exact h1
    · unfold dD at hread
      rw [if_pos (by omega)] at hread
      injection hread
def rZ (S : ah) (k : Int × Int) : Prop := ∀ xs, S.pages k = some xs → ∃ ys, xs = aZ ys ∧ ys.getD (S.g.se.toNat * S.g.dG) 0 = 255
theorem zy {S : ah} {b p : Int} (hg : S.g.aD) (ht : S.rZ (b, p)) (hw : S.IQ (b, p)) : S.ku b p ≠ 0 := by
  have hN := qM.of (bl := S.g.bl) (pg := S.g.pg) (by rw [← iG hg]; exact hg)
  obtain ⟨hs1, hb1, ht1⟩ := hN
  have key : ∀ (ys ks : List Nat), ys.getD (S.g.se.toNat * S.g.dG) 0 = 255 → (∀ k ∈ ks, k < 8 * S.g.dG) → dW S.g.fl.toNat S.g.se.toNat (S.g.sb.toNat + ay S.g.fl.toNat) (fu ys ks) ≠ 0 := fun ys ks hy hk => by
    have h1 : (fu ys ks).getD (S.g.se.toNat * (S.g.sb.toNat + ay S.g.fl.toNat)) 0 = 255 := by
      rw [nS ks ys _ (fun k hk' => ?_)]
      · exact hy
      · have h2 := hk k hk'
        have h3 : S.g.dG ≤ S.g.se.toNat * S.g.dG := Nat.le_mul_of_pos_left _ (by omega)
        have h4 : S.g.se.toNat * (S.g.sb.toNat + ay S.g.fl.toNat) = S.g.se.toNat * S.g.dG := rfl
        omega
    rcases JB (t := S.g.fl.toNat) h1 with h | h <;> rw [h] <;> decide
  cases hp : S.pages (b, p) with
  | some xs =>
    obtain ⟨ys, rfl, hy⟩ := ht xs hp
    obtain ⟨ks, k1, k2, k3, k4, k5⟩ := EC hw
    unfold ku
    rw [k5 ys hp]
    exact key ys ks hy k2
  | none =>
    have hb : S.reads b p = turn (List.replicate S.g.raw.toNat 255) ((S.wrong (b, p)).getD []) := by
      unfold reads
      rw [hp]
      rfl
    unfold ku fJ
    have h0 : ∀ i ∈ (S.wrong (b, p)).getD [], 0 ≤ i ∧ i < (8 * S.g.dG : Nat) := fun i hi => by
      cases hwr : S.wrong (b, p) with
      | none => rw [hwr] at hi; cases hi
      | some w => rw [hwr] at hi; exact (hw w hwr).2.1 i hi
    rw [hb, pG _ _ (fun i hi => (h0 i hi).1)]
    refine key _ _ ?_ (fun k hk => ?_)
    · unfold dU
      rw [List.map_replicate, EA hg, Int.toNat_natCast]
      simp [List.getD, List.getElem?_replicate]
    · obtain ⟨x, hx, rfl⟩ := List.mem_map.1 hk
      have := h0 x hx
      omega
theorem Gu {S : ah} {b p : Int} (hg : S.g.aD) (ht : S.rZ (b, p)) (hw : S.IQ (b, p)) : (S.aY b p).err ≠ 0 := by
  have h1 := zy hg ht hw
  unfold ku at h1
  unfold aY
  split
  · rename_i h; exact h
  · show ((dD _ _ _ _).err : Int) ≠ 0
    unfold dD
    rw [if_pos h1]
    show ((dW _ _ _ _ : Nat) : Int) ≠ 0
    omega
end ah
def vR (g : Geo) (h : Hd) (d : List Nat) : Nat → List Nat
  | 0 => []
  | k + 1 => vR g h d k ++ kK g h d (k + 1)
theorem zY {g : Geo} {h : Hd} {d : List Nat} (hg : g.aD) : ∀ k, (vR g h d k).length = k * g.room.toNat ∧ (vR g h d k).take d.length = d.take (k * g.room.toNat)
  | 0 => ⟨by simp [vR], by simp [vR]⟩
  | k + 1 => by
    obtain ⟨h1, h2⟩ := zY (h := h) (d := d) hg k
    obtain ⟨R, hR⟩ : ∃ R, R = g.room.toNat := ⟨_, rfl⟩
    have hl := mD (h := h) (d := d) hg (k + 1)
    rw [← hR] at h1 h2 hl ⊢
    rw [vR]
    refine ⟨by rw [List.length_append, h1, hl, Nat.succ_mul], ?_⟩
    by_cases hk : d.length ≤ k * R
    · rw [List.take_append_of_le_length (by omega), h2, List.take_of_length_le hk, List.take_of_length_le (by rw [Nat.succ_mul]; omega)]
    · have e1 : vR g h d k = d.take (k * R) := by rw [← h2, List.take_of_length_le (by omega)]
      rw [List.take_append, h1, List.take_of_length_le (l := vR g h d k) (by omega), e1, Nat.succ_mul]
      have e2 : (kK g h d (k + 1)).take (d.length - k * R) = (d.drop (k * R)).take R := by
        show ((d.drop (k * g.room.toNat)).take g.room.toNat ++ List.replicate (g.room.toNat - ((d.drop (k * g.room.toNat)).take g.room.toNat).length) 0).take (d.length - k * R) = _
        rw [← hR]
        by_cases hr : R ≤ d.length - k * R
        · have e3 : ((d.drop (k * R)).take R).length = R := by rw [List.length_take, List.length_drop]; omega
          rw [e3, Nat.sub_self, List.replicate_zero, List.append_nil, List.take_of_length_le (by omega)]
        · have e3 : ((d.drop (k * R)).take R).length = d.length - k * R := by rw [List.length_take, List.length_drop]; omega
          rw [List.take_append_of_le_length (by omega), List.take_of_length_le (by omega)]
      rw [e2, ← List.take_add]
namespace ah
variable {S : ah} {b : Int} {h : Hd} {d : List Nat}
def oO (S : ah) (h : Hd) : Nat := (S.g.aW h.len).toNat
structure Holds (S : ah) (b : Int) (h : Hd) (d : List Nat) : Prop where
  may : h.may S.g = true
  len : h.len = (d.length : Nat)
  small : Small 256 d
  page : ∀ p, p ≤ S.oO h → S.pages (b, (p : Int)) = some (aZ (dw S.g (kK S.g h d p)))
structure Part (S : ah) (b : Int) (h : Hd) : Prop where
  may : h.may S.g = true
  page : S.pages (b, 0) = some (aZ (dw S.g (gP S.g h)))
  Sk : ∃ p : Nat, p ≤ S.oO h ∧ S.rZ (b, (p : Int))
theorem qI : ∀ k, S.iB b k = true ↔ ∀ j : Nat, j < k → S.ku b (j : Int) = 0
  | 0 => by simp [iB]
  | k + 1 => by
    rw [iB, Bool.and_eq_true, qI k, decide_eq_true_eq]
    constructor
    · rintro ⟨h1, h2⟩ j hj
      rcases Nat.lt_or_ge j k with h | h
      · exact h1 j h
      · rw [show j = k by omega]; exact h2
    · intro h
      exact ⟨fun j hj => h j (by omega), h k (by omega)⟩
theorem Eb (hg : S.g.aD) (hm : h.may S.g = true) : (S.oO h : Int) = S.g.aW h.len ∧ (S.oO h : Int) ≤ S.g.pg - 1 ∧ h.len ≤ (S.oO h : Int) * S.g.room ∧ 0 ≤ h.len := by
  have hmb := hm
  unfold Hd.may at hmb
  simp only [Bool.and_eq_true, decide_eq_true_eq] at hmb
  have hf := hmb.1.1.1.1
  have h1 := Geo.Cx hg hf
  unfold Geo.fits at hf
  simp only [Bool.and_eq_true, decide_eq_true_eq] at hf
  unfold oO
  rw [Int.toNat_of_nonneg h1.1]
  exact ⟨rfl, h1.2.1, h1.2.2.1, hf.1⟩
theorem DK (hg : S.g.aD) : S.room = S.g.room.toNat := by
  unfold room
  rw [Geo.zk hg]; rfl
theorem C8 (hg : S.g.aD) (hu : S.up = true) (hb : 0 ≤ b ∧ b < S.g.bl) (hm : S.marked b = false) (Es : h.may S.g = true) : S.jC b (1 + S.g.aW h.len) = (S.iB b (1 + S.oO h), 0) := by
  have h1 := Eb hg Es
  have hgb := hg
  unfold Geo.aD at hgb
  have e1 : (decide ((0 : Int) ≤ 1 + S.g.aW h.len) && decide (1 + S.g.aW h.len ≤ S.g.pg)) = true := by rw [decide_eq_true (by omega), decide_eq_true (by omega)]; rfl
  have e2 : S.ahead b 0 true = 0 := qP hu ⟨hb.1, hb.2, by omega, by omega⟩ hm
  unfold jC
  rw [e1, e2, if_neg (by decide), if_neg (fun h => h rfl)]
  rw [show (1 + S.g.aW h.len).toNat = 1 + S.oO h by omega]
theorem J8 (hg : S.g.aD) (hf : ∀ p : Nat, S.IQ (b, (p : Int))) (ht : S.rZ (b, 0)) : S.iA b = none := by
  have h1 := Gu hg ht (hf 0)
  unfold iA
  rw [if_pos h1]
section
variable (hg : S.g.aD) (hu : S.up = true) (hb : 0 ≤ b ∧ b < S.g.bl) (hm : S.marked b = false) (hf : ∀ p : Nat, S.IQ (b, (p : Int)))
include hg hu hb hm hf
theorem yX (hH : S.Holds b h d) {p : Nat} (hp : p ≤ S.oO h) : ∃ N : Nat, (S.wrong (b, (p : Int)) = none → N = 0) ∧ S.aY b p = ⟨0, kK S.g h d p, N⟩ ∧ S.ku b p = 0 := by
  have h1 := Eb hg hH.may
  exact Cq hg hu ⟨hb.1, hb.2, by omega, by omega⟩ hm (tY hH.small p) (by rw [mD hg, DK hg]) (hH.page p hp) (hf p)
theorem scan_holds (hH : S.Holds b h d) : S.iA b = some ⟨b, h, true⟩ := by
  obtain ⟨N, _, h2, _⟩ := yX hg hu hb hm hf hH (p := 0) (Nat.zero_le _)
  have h2' : S.aY b 0 = ⟨0, gP S.g h, N⟩ := h2
  unfold iA
  rw [h2', if_neg (fun h => h rfl)]
  dsimp only
  rw [qc hH.may hg]
  dsimp only
  rw [C8 hg hu hb hm hH.may]
  have : S.iB b (1 + S.oO h) = true := (qI _).2 fun j hj => by
    obtain ⟨_, _, _, h3⟩ := yX hg hu hb hm hf hH (p := j) (by omega)
    exact h3
  rw [this]
theorem Js (hP : S.Part b h) : S.iA b = some ⟨b, h, false⟩ := by
  have hgb := hg
  unfold Geo.aD at hgb
  obtain ⟨N, _, h2, _⟩ := Cq hg hu ⟨hb.1, hb.2, Int.le_refl _, by omega⟩ hm (pK S.g h) (by rw [kP hg, DK hg]) hP.page (hf 0)
  unfold iA
  rw [h2, if_neg (fun h => h rfl)]
  dsimp only
  rw [qc hP.may hg]
  dsimp only
  rw [C8 hg hu hb hm hP.may]
  have : S.iB b (1 + S.oO h) = false := by
    rw [← Bool.not_eq_true]
    intro hw
    obtain ⟨p, hp, ht⟩ := hP.Sk
    exact zy hg ht (hf p) ((qI _).1 hw p (by omega))
  rw [this]
theorem rd_holds (hH : S.Holds b h d) (n0 : Nat) : ∀ k, k ≤ S.oO h → ∃ N : Nat, ((∀ p : Nat, S.wrong (b, (p : Int)) = none) → n0 = 0 → N = 0) ∧ dZ S b n0 k = ⟨0, vR S.g h d k, N⟩
  | 0, _ => ⟨n0, fun _ h => h, rfl⟩
  | k + 1, hk => by
    obtain ⟨N, h1, h2⟩ := rd_holds hH n0 k (by omega)
    obtain ⟨M, h3, h4, _⟩ := yX hg hu hb hm hf hH (p := k + 1) hk
    have h5 : S.aY b (1 + (k : Int)) = ⟨0, kK S.g h d (k + 1), M⟩ := by rw [show 1 + (k : Int) = ((k + 1 : Nat) : Int) by omega]; exact h4
    refine ⟨max N M, fun hw hn => ?_, ?_⟩
    · have e1 := h1 hw hn
      have e2 := h3 (hw (k + 1))
      omega
    · rw [dZ, h2, if_neg (fun h => h rfl), h5, if_neg (fun h => h rfl)]
      rfl
end
end ah
theorem read_holds {S : ah} {T : St} {aB b : Int} {h : Hd} {d : List Nat} (hg : S.g.aD) (hu : S.up = true) (hb : 0 ≤ b ∧ b < S.g.bl) (hm : S.marked b = false) (hf : ∀ p : Nat, S.IQ (b, (p : Int)))
    (hr : T.ready aB = 0) (ha : T.at' aB = b) (hH : S.Holds b h d) : ∃ N : Nat, ((∀ p : Nat, S.wrong (b, (p : Int)) = none) → N = 0) ∧ bN S T aB = (⟨0, d, N⟩, T) := by
  obtain ⟨N0, h1, h2, _⟩ := ah.yX hg hu hb hm hf hH (p := 0) (Nat.zero_le _)
  have h2' : S.aY b 0 = ⟨0, gP S.g h, N0⟩ := h2
  obtain ⟨N, h3, h4⟩ := ah.rd_holds hg hu hb hm hf hH N0 (S.oO h) (Nat.le_refl _)
  have hpb := ah.Eb hg hH.may
  refine ⟨N, fun hw => h3 hw (h1 (hw 0)), ?_⟩
  have hpp : gH S.g (gP S.g h) = some h := qc hH.may hg
  have e1 : gq S.g (gP S.g h) = 0 := by unfold gq; rw [hpp]
  have e2 : eP S.g (gP S.g h) = h := by unfold eP; rw [hpp]; rfl
  unfold bN
  rw [hr, if_neg (fun h => h rfl), ha, if_neg (by omega), h2', if_neg (fun h => h rfl)]
  dsimp only
  rw [e1, if_neg (fun h => h rfl), e2]
  rw [show (S.g.aW h.len).toNat = S.oO h from rfl, h4, if_neg (fun h => h rfl)]
  dsimp only
  have h6 := (zY (h := h) (d := d) hg (S.oO h)).2
  rw [hH.len, Int.toNat_natCast, h6, List.take_of_length_le]
  have hr := Geo.iQ hg
  have h7 : ((S.oO h * S.g.room.toNat : Nat) : Int) = (S.oO h : Int) * S.g.room := by rw [Int.natCast_mul]; congr 1; omega
  have h8 := hpb.2.2.1
  rw [hH.len, ← h7] at h8
  omega
theorem Ma : (72 : Int) ≠ 70 := by decide
theorem oG : (70 : Int) ≠ 72 := by decide
theorem sw : (0 : Int) ≠ 72 := by decide
theorem oU : (0 : Int) ≠ 70 := by decide
namespace ah
structure Rest (b : Int) (S S' : ah) : Prop where
  g : S'.g = S.g
  len : S'.next.length = S.next.length
  pages : ∀ k : Int × Int, k.1 ≠ b → S'.pages k = S.pages k
  wrong : ∀ k : Int × Int, k.1 ≠ b → S'.wrong k = S.wrong k
  marked : ∀ c, c ≠ b → S'.marked c = S.marked c
  weak : S'.weak = S.weak
theorem Rest.refl (b : Int) (S : ah) : Rest b S S := ⟨rfl, rfl, fun _ _ => rfl, fun _ _ => rfl, fun _ _ => rfl, rfl⟩
theorem Rest.trans {b : Int} {S T U : ah} (h : Rest b S T) (h' : Rest b T U) : Rest b S U :=
  ⟨h'.g.trans h.g, h'.len.trans h.len, fun k hk => (h'.pages k hk).trans (h.pages k hk), fun k hk => (h'.wrong k hk).trans (h.wrong k hk), fun c hc => (h'.marked c hc).trans (h.marked c hc), h'.weak.trans h.weak⟩
def mk1 (S : ah) (b : Int) : ah := { S with marked := fun k => if k = b then true else S.marked k }
theorem yS {S : ah} (hc : S.cut = false) : S.deed.up = S.up := by unfold deed; rw [hc]; cases S.up <;> rfl
theorem rD {S : ah} (hc : S.cut = true) : S.deed.up = false := by unfold deed; rw [hc]; cases S.up <;> rfl
theorem vB {S : ah} (h : S.left = 0) : S.cut = false := by unfold cut; rw [h]; rfl
theorem La {S : ah} {b : Int} (hu : S.up = true) (hb : 0 ≤ b ∧ b < S.g.bl) :
    (S.cut = false ∧ done b (S, 72) = (S.deed.mk1 b, 72)) ∨ (S.cut = true ∧ (done b (S, 72) = (S.deed.mk1 b, 70) ∨ done b (S, 72) = (S.deed, 70))) := by
  have e1 : S.mark b = S.all fun T => { T with marked := fun k => if k = b then true else T.marked k } := by
    unfold mark
    rw [if_neg (by rw [hu]; decide), if_neg (by rw [vg hb]; decide)]
  have e2 : done b (S, 72) = if (S.mark b).2 ≠ 0 then S.mark b else ((S.mark b).1, 72) := by
    unfold done
    rw [if_neg (fun h => h rfl)]
  rw [e2, e1]
  unfold all after
  cases hc : S.cut with
  | false => exact .inl ⟨rfl, rfl⟩
  | true =>
    refine .inr ⟨rfl, ?_⟩
    by_cases hk : 0 < S.keep
    · rw [decide_eq_true hk]; exact .inl rfl
    · rw [decide_eq_false hk]; exact .inr rfl
section
variable {S : ah} {b : Int}
theorem Rest.deed (S : ah) (b : Int) : Rest b S S.deed := ⟨rfl, rfl, fun _ _ => rfl, fun _ _ => rfl, fun _ _ => rfl, rfl⟩
theorem Rest.mk1 (S : ah) (b : Int) : Rest b S (S.mk1 b) := ⟨rfl, rfl, fun _ _ => rfl, fun _ _ => rfl, fun c hc => if_neg hc, rfl⟩
theorem zn : (S.mk1 b).marked b = true := if_pos rfl
def Fails (b : Int) (S : ah) (X : ah × Int) : Prop :=
  (X.2 = 72 ∧ X.1.up = true ∧ X.1.marked b = true) ∨ (X.2 = 70 ∧ X.1.up = false ∧ (X.1.marked b = true ∨ X.1.marked b = S.marked b ∧ X.1.pages = S.pages ∧ X.1.wrong = S.wrong))
theorem Ew (hu : S.up = true) (hc : S.cut = false) (hb : 0 ≤ b ∧ b < S.g.bl) : Rest b S (done b (S.deed, 72)).1 ∧ Fails b S (done b (S.deed, 72)) ∧ (S.left = 0 → (done b (S.deed, 72)).1.left = 0 ∧ (done b (S.deed, 72)).2 ≠ 70) := by
  have hu1 : S.deed.up = true := by rw [yS hc]; exact hu
  rcases La (S := S.deed) hu1 hb with ⟨c1, e1⟩ | ⟨c1, e1 | e1⟩
  · rw [e1]
    refine ⟨(Rest.deed S b).trans ((Rest.deed _ b).trans (Rest.mk1 _ b)), .inl ⟨rfl, by show S.deed.deed.up = true; rw [yS c1]; exact hu1, zn⟩, fun h0 => ⟨?_, Ma⟩⟩
    show S.deed.deed.left = 0
    rw [kU h0, kU h0]; exact h0
  · rw [e1]
    refine ⟨(Rest.deed S b).trans ((Rest.deed _ b).trans (Rest.mk1 _ b)), .inr ⟨rfl, by show S.deed.deed.up = false; exact rD c1, .inl zn⟩, fun h0 => ?_⟩
    rw [kU h0, vB h0] at c1; cases c1
  · rw [e1]
    refine ⟨(Rest.deed S b).trans (Rest.deed _ b), .inr ⟨rfl, by show S.deed.deed.up = false; exact rD c1, .inr ⟨rfl, rfl, rfl⟩⟩, fun h0 => ?_⟩
    rw [kU h0, vB h0] at c1; cases c1
theorem uq (hu : S.up = true) (hb : 0 ≤ b ∧ b < S.g.bl) (hpg : 0 < S.g.pg) (hm : S.marked b = false) (hn : (S.next.length : Int) = S.g.bl) : Rest b S (S.aM b).1 ∧ (S.left = 0 → (S.aM b).1.left = 0 ∧ (S.aM b).2 ≠ 70) ∧ (S.weak b = false → (S.aM b).2 ≠ 72) ∧
    (((S.aM b).2 = 0 ∧ (S.aM b).1.up = true ∧ (S.aM b).1.marked b = false ∧ (S.aM b).1.jw b = 0 ∧ ∀ p, 0 ≤ p → p < S.g.pg → (S.aM b).1.pages (b, p) = none ∧ (S.aM b).1.wrong (b, p) = none) ∨
     Fails b S (S.aM b) ∨
     ((S.aM b).2 = 70 ∧ (S.aM b).1.up = false ∧ (S.aM b).1.marked b = false ∧ (∃ n, (S.aM b).1.pages = aP S.pages b n ∧ (S.aM b).1.wrong = aP S.wrong b n))) := by
  have e0 : S.aM b = done b (S.erase b) := by
    unfold aM
    rw [if_neg (by rw [qP hu ⟨hb.1, hb.2, Int.le_refl _, hpg⟩ hm]; decide)]
  have hdr : ∀ {α : Type} (f : Int × Int → Option α) (n : Int) (k : Int × Int), k.1 ≠ b → aP f b n k = f k := fun f n k hk => if_neg fun h => hk h.1
  cases hc : S.cut with
  | true =>
    have e1 : S.erase b = ({ S.deed with pages := aP S.pages b (S.kept S.g.pg), wrong := aP S.wrong b (S.kept S.g.pg) }, 70) := by
      unfold erase
      rw [if_neg (by rw [hu]; decide), if_neg (by rw [vg hb]; decide), hc]; rfl
    have e2 : S.aM b = S.erase b := by
      rw [e0]; unfold done; rw [if_pos (by rw [e1]; first | exact oG | exact sw)]
    rw [e2, e1]
    refine ⟨⟨rfl, rfl, fun k hk => hdr _ _ k hk, fun k hk => hdr _ _ k hk, fun _ _ => rfl, rfl⟩, fun h0 => ?_, fun _ => oG, .inr (.inr ⟨rfl, rD hc, hm, _, rfl, rfl⟩)⟩
    rw [vB h0] at hc; cases hc
  | false =>
    cases hw : S.weak b with
    | true =>
      have e1 : S.erase b = (S.deed, 72) := by
        unfold erase
        rw [if_neg (by rw [hu]; decide), if_neg (by rw [vg hb]; decide), hc, if_neg Bool.false_ne_true, hw, if_pos rfl]
      rw [e0, e1]
      obtain ⟨h1, h2, h3⟩ := Ew hu hc hb
      exact ⟨h1, h3, fun h => (by cases h), .inr (.inl h2)⟩
    | false =>
      have e1 : S.erase b = ({ S.deed with pages := aP S.pages b S.g.pg, wrong := aP S.wrong b S.g.pg, next := S.iC b 0 }, 0) := by
        unfold erase
        rw [if_neg (by rw [hu]; decide), if_neg (by rw [vg hb]; decide), hc, if_neg Bool.false_ne_true, hw, if_neg Bool.false_ne_true]; rfl
      have e2 : S.aM b = S.erase b := by
        rw [e0]; unfold done; rw [if_pos (by rw [e1]; first | exact oG | exact sw)]
      rw [e2, e1]
      refine ⟨⟨rfl, by show (S.next.set _ _).length = _; rw [List.length_set], fun k hk => hdr _ _ k hk, fun k hk => hdr _ _ k hk, fun _ _ => rfl, rfl⟩, fun h0 => ⟨?_, oU⟩, fun _ => sw, .inl ⟨rfl, by show S.deed.up = true; rw [yS hc]; exact hu, hm, ?_, fun p h1 h2 => ⟨if_pos ⟨rfl, h1, h2⟩, if_pos ⟨rfl, h1, h2⟩⟩⟩⟩
      · show S.deed.left = 0
        rw [kU h0]; exact h0
      · show (S.next.set b.toNat 0).getD b.toNat 0 = 0
        simp only [List.getD, List.getElem?_set_self (show b.toNat < S.next.length by omega), Option.getD_some]
theorem GQ {p : Int} {d : List Nat} (hg : S.g.aD) (hu : S.up = true) (h : 0 ≤ b ∧ b < S.g.bl ∧ 0 ≤ p ∧ p < S.g.pg) (hm : S.marked b = false) (h8 : Small 256 d) (hl : d.length = S.room) (hn : S.jw b = p) (hln : (S.next.length : Int) = S.g.bl) :
    Rest b S (S.bO b p d).1 ∧ (S.left = 0 → (S.bO b p d).1.left = 0 ∧ (S.bO b p d).2 ≠ 70) ∧ (S.weak b = false → (S.bO b p d).2 ≠ 72) ∧
    (((S.bO b p d).2 = 0 ∧ (S.bO b p d).1.up = true ∧ (S.bO b p d).1.marked b = false ∧ (S.bO b p d).1.jw b = p + 1 ∧ (S.bO b p d).1.wrong = S.wrong ∧ (S.bO b p d).1.pages = mR S.pages (b, p) (some (aZ (dw S.g d)))) ∨
     Fails b S (S.bO b p d) ∨
     ((S.bO b p d).2 = 70 ∧ (S.bO b p d).1.up = false ∧ (S.bO b p d).1.marked b = false ∧ (S.bO b p d).1.wrong = S.wrong ∧ ∃ xs, (S.bO b p d).1.pages = mR S.pages (b, p) (some xs) ∧
       (xs = aZ (dw S.g d) ∨ ∃ ys, xs = aZ ys ∧ ys.getD (S.g.se.toNat * S.g.dG) 0 = 255))) := by
  have e0 : S.bO b p d = done b (S.program b p (aZ (dw S.g d))) := FK hu h hm hl
  have hpl := LV hg h8 hl
  have hup : ∀ {α : Type} (f : Int × Int → Option α) (v : Option α) (k : Int × Int), k.1 ≠ b → mR f (b, p) v k = f k := fun f v k hk => if_neg fun e => hk (by rw [e])
  cases hc : S.cut with
  | true =>
    have e1 : S.program b p (aZ (dw S.g d)) = ({ S.deed with pages := mR S.pages (b, p) (some ((aZ (dw S.g d)).take (S.kept (aZ (dw S.g d)).length).toNat ++ S.blank.drop (S.kept (aZ (dw S.g d)).length).toNat)), next := S.iC b (p + 1) }, 70) := by
      unfold program
      rw [if_neg (by rw [hu]; decide), if_neg (by rw [Di h]; rintro (h | h); cases h; exact h hpl), if_neg (fun h => h hn.symm), hc]; rfl
    have e2 : S.bO b p d = S.program b p (aZ (dw S.g d)) := by
      rw [e0]; unfold done; rw [if_pos (by rw [e1]; first | exact oG | exact sw)]
    rw [e2, e1]
    refine ⟨⟨rfl, by show (S.next.set _ _).length = _; rw [List.length_set], fun k hk => hup _ _ k hk, fun k hk => rfl, fun _ _ => rfl, rfl⟩, fun h0 => ?_, fun _ => oG, .inr (.inr ⟨rfl, rD hc, hm, rfl, _, rfl, ?_⟩)⟩
    · rw [vB h0] at hc; cases hc
    · obtain ⟨k, hk⟩ : ∃ k, k = (S.kept (aZ (dw S.g d)).length).toNat := ⟨_, rfl⟩
      rw [← hk]
      have hkl : k ≤ (aZ (dw S.g d)).length := by rw [hk]; unfold kept; omega
      have hbl : S.blank = aZ (List.replicate S.g.raw.toNat 255) := by unfold blank aZ raw; rw [List.map_replicate]; rfl
      have hrw := EA hg
      have hraw : (aZ (dw S.g d)).length = S.g.se.toNat * S.g.dG + 1 := by
        have h1 : ((aZ (dw S.g d)).length : Int) = S.g.raw := hpl
        omega
      by_cases hke : k = (aZ (dw S.g d)).length
      · refine .inl ?_
        rw [hke, List.take_of_length_le (Nat.le_refl _), hbl, List.drop_eq_nil_of_le, List.append_nil]
        unfold aZ
        rw [List.length_map, List.length_replicate]
        unfold aZ at hraw
        rw [hraw, hrw, Int.toNat_natCast]; exact Nat.le_refl _
      · refine .inr ⟨(dw S.g d).take k ++ (List.replicate S.g.raw.toNat 255).drop k, ?_, ?_⟩
        · rw [hbl]
          unfold aZ
          rw [List.map_append, List.map_take, List.map_drop]
        · have hpk : (dw S.g d).length = S.g.se.toNat * S.g.dG + 1 := by unfold aZ at hraw; rw [List.length_map] at hraw; exact hraw
          have UZ : k < S.g.se.toNat * S.g.dG + 1 := by
            unfold aZ at hkl hke
            rw [List.length_map] at hkl hke
            omega
          simp only [List.getD]
          rw [List.getElem?_append_right (by rw [List.length_take]; omega), List.length_take, List.getElem?_drop, hrw, Int.toNat_natCast, List.getElem?_replicate, if_pos (by omega)]
          rfl
  | false =>
    cases hw : S.weak b with
    | true =>
      have e1 : S.program b p (aZ (dw S.g d)) = (S.deed, 72) := by
        unfold program
        rw [if_neg (by rw [hu]; decide), if_neg (by rw [Di h]; rintro (h | h); cases h; exact h hpl), if_neg (fun h => h hn.symm), hc, if_neg Bool.false_ne_true, hw, if_pos rfl]
      rw [e0, e1]
      obtain ⟨h1, h2, h3⟩ := Ew hu hc ⟨h.1, h.2.1⟩
      exact ⟨h1, h3, fun h => (by cases h), .inr (.inl h2)⟩
    | false =>
      have e1 : S.program b p (aZ (dw S.g d)) = ({ S.deed with pages := mR S.pages (b, p) (some (aZ (dw S.g d))), next := S.iC b (p + 1) }, 0) := by
        unfold program
        rw [if_neg (by rw [hu]; decide), if_neg (by rw [Di h]; rintro (h | h); cases h; exact h hpl), if_neg (fun h => h hn.symm), hc, if_neg Bool.false_ne_true, hw, if_neg Bool.false_ne_true]; rfl
      have e2 : S.bO b p d = S.program b p (aZ (dw S.g d)) := by
        rw [e0]; unfold done; rw [if_pos (by rw [e1]; first | exact oG | exact sw)]
      rw [e2, e1]
      refine ⟨⟨rfl, by show (S.next.set _ _).length = _; rw [List.length_set], fun k hk => hup _ _ k hk, fun k hk => rfl, fun _ _ => rfl, rfl⟩, fun h0 => ⟨?_, oU⟩, fun _ => sw, .inl ⟨rfl, by show S.deed.up = true; rw [yS hc]; exact hu, hm, ?_, rfl, rfl⟩⟩
      · show S.deed.left = 0
        rw [kU h0]; exact h0
      · show (S.next.set b.toNat (p + 1)).getD b.toNat 0 = p + 1
        simp only [List.getD, List.getElem?_set_self (show b.toNat < S.next.length by omega), Option.getD_some]
end
end ah
namespace ah
def Wr (S S' : ah) : Prop := ∀ k, S'.wrong k = none ∨ S'.wrong k = S.wrong k
theorem Wr.refl (S : ah) : Wr S S := fun _ => .inr rfl
theorem Wr.of {S S' : ah} (h : S'.wrong = S.wrong) : Wr S S' := fun k => .inr (by rw [h])
theorem Wr.trans {S T U : ah} (h : Wr S T) (h' : Wr T U) : Wr S U := fun k => by
  rcases h' k with e | e
  · exact .inl e
  · rw [e]; exact h k
theorem Wr.few {S S' : ah} (h : Wr S S') (hg : S'.g = S.g) (hf : ∀ k, S.IQ k) : ∀ k, S'.IQ k := fun k w hw => by
  rcases h k with e | e
  · rw [e] at hw; cases hw
  · rw [e] at hw
    have := hf k w hw
    rw [hg]; exact this
theorem Wr.none {S S' : ah} (h : Wr S S') (hf : ∀ k, S.wrong k = none) : ∀ k, S'.wrong k = none := fun k => by
  rcases h k with e | e
  · exact e
  · rw [e]; exact hf k
theorem Wr.drop {S S' : ah} {b n : Int} (h : S'.wrong = aP S.wrong b n) : Wr S S' := fun k => by
  rw [h]; unfold aP
  split
  · exact .inl rfl
  · exact .inr rfl
def Same (b : Int) (S S' : ah) : Prop := S'.pages = S.pages ∧ S'.wrong = S.wrong
def PO (S : ah) (b : Int) (pg : Nat → List Nat) (N j : Nat) : Prop := j ≤ N + 1 ∧ (∀ p : Nat, p < j → S.pages (b, (p : Int)) = some (aZ (dw S.g (pg p)))) ∧ (j ≤ N → S.rZ (b, (j : Int)))
theorem mY {S : ah} {k : Int × Int} (h : S.pages k = none) : S.rZ k := fun xs hx => by rw [h] at hx; cases hx
theorem zK {S : ah} {b : Int} : Wr S (S.aM b).1 := by
  have e1 : ∀ x : ah × Int, Wr S x.1 → Wr S (done b x).1 := fun x hx => by
    have hm : (x.1.mark b).1.wrong = x.1.wrong := by
      unfold mark
      split
      · rfl
      · split
        · rfl
        · unfold all
          dsimp only
          split <;> rfl
    unfold done
    split
    · exact hx
    · split
      · exact hx.trans (Wr.of hm)
      · exact hx.trans (Wr.of hm)
  unfold aM
  split
  · exact Wr.refl S
  · refine e1 _ ?_
    unfold erase
    split
    · exact Wr.refl S
    · split
      · exact Wr.refl S
      · dsimp only
        split
        · exact Wr.drop rfl
        · split
          · exact Wr.refl S
          · exact Wr.drop rfl
theorem Ll {S : ah} {b p : Int} {d : List Nat} : Wr S (S.bO b p d).1 := by
  have hm : ∀ T : ah, (T.mark b).1.wrong = T.wrong := fun T => by
    unfold mark
    split
    · rfl
    · split
      · rfl
      · unfold all
        dsimp only
        split <;> rfl
  have e1 : ∀ x : ah × Int, Wr S x.1 → Wr S (done b x).1 := fun x hx => by
    unfold done
    split
    · exact hx
    · split
      · exact hx.trans (Wr.of (hm _))
      · exact hx.trans (Wr.of (hm _))
  unfold bO
  split
  · exact Wr.refl S
  · refine e1 _ (Wr.of ?_)
    unfold program
    split
    · rfl
    · split
      · rfl
      · split
        · rfl
        · dsimp only
          split
          · rfl
          · split <;> rfl
section
variable {S : ah} {b : Int}
theorem Mh {pg : Nat → List Nat} (hg : S.g.aD) (hu : S.up = true) (hb : 0 ≤ b ∧ b < S.g.bl) (hm : S.marked b = false) (h8 : ∀ p, Small 256 (pg p)) (hl : ∀ p, (pg p).length = S.room) (hn : S.jw b = 0) (hln : (S.next.length : Int) = S.g.bl)
    {N : Nat} (hN : (N : Int) < S.g.pg) (h0 : ∀ p, 0 ≤ p → p < S.g.pg → S.pages (b, p) = none) : ∀ k, k ≤ N + 1 → Rest b S (dL S b pg k).1 ∧ Wr S (dL S b pg k).1 ∧ (S.left = 0 → (dL S b pg k).1.left = 0 ∧ (dL S b pg k).2 ≠ 70) ∧ (S.weak b = false → (dL S b pg k).2 ≠ 72) ∧
    (((dL S b pg k).2 = 0 ∧ (dL S b pg k).1.up = true ∧ (dL S b pg k).1.marked b = false ∧ (dL S b pg k).1.jw b = (k : Int) ∧ (∀ p : Nat, p < k → (dL S b pg k).1.pages (b, (p : Int)) = some (aZ (dw S.g (pg p)))) ∧ (∀ p : Int, (k : Int) ≤ p → p < S.g.pg → (dL S b pg k).1.pages (b, p) = none)) ∨
     ((dL S b pg k).2 = 72 ∧ (dL S b pg k).1.up = true ∧ (dL S b pg k).1.marked b = true) ∨
     ((dL S b pg k).2 = 70 ∧ (dL S b pg k).1.up = false ∧ ((dL S b pg k).1.marked b = true ∨ (dL S b pg k).1.marked b = false ∧ ∃ j, (dL S b pg k).1.PO b pg N j)))
  | 0, _ => ⟨Rest.refl b S, Wr.refl S, fun h => ⟨h, oU⟩, fun _ => sw, .inl ⟨rfl, hu, hm, hn, fun p hp => absurd hp (Nat.not_lt_zero _), fun p h1 h2 => h0 p h1 h2⟩⟩
  | k + 1, hk => by
    obtain ⟨r1, r2, r3, r4, r5⟩ := Mh hg hu hb hm h8 hl hn hln hN h0 k (by omega)
    by_cases he : (dL S b pg k).2 = 0
    · obtain ⟨Y, hY⟩ : ∃ Y, Y = (dL S b pg k).1 := ⟨_, rfl⟩
      have est : dL S b pg (k + 1) = Y.bO b k (pg k) := by rw [dL, if_neg (fun h => h he), ← hY]
      rw [← hY] at r1 r2 r3 r5
      have q5 : Y.up = true ∧ Y.marked b = false ∧ Y.jw b = (k : Int) ∧ (∀ p : Nat, p < k → Y.pages (b, (p : Int)) = some (aZ (dw S.g (pg p)))) ∧ (∀ p : Int, (k : Int) ≤ p → p < S.g.pg → Y.pages (b, p) = none) := by
        rcases r5 with h | h | h
        · exact h.2
        · rw [he] at h; exact absurd h.1.symm (by decide)
        · rw [he] at h; exact absurd h.1.symm (by decide)
      obtain ⟨u1, u2, u3, u4, u5⟩ := q5
      have hroom : (pg k).length = Y.room := by rw [hl]; unfold room; rw [r1.g]
      obtain ⟨w1, w2, w3, w4⟩ := GQ (S := Y) (b := b) (p := (k : Int)) (d := pg k) (by rw [r1.g]; exact hg) u1 (by rw [r1.g]; omega) u2 (h8 k) hroom u3 (by rw [r1.len, r1.g]; exact hln)
      rw [est]
      have hpk : dw Y.g (pg k) = dw S.g (pg k) := by rw [r1.g]
      have ho : ∀ (f : Int × Int → Option (List Int)) (v : Option (List Int)) (p : Int), p ≠ k → mR f (b, (k : Int)) v (b, p) = f (b, p) := fun f v p hp => if_neg fun e => hp (by injection e)
      have hh : ∀ (f : Int × Int → Option (List Int)) (v : Option (List Int)), mR f (b, (k : Int)) v (b, (k : Int)) = v := fun f v => if_pos rfl
      refine ⟨r1.trans w1, r2.trans Ll, fun h => w2 (r3 h).1, fun h => w3 (by rw [r1.weak]; exact h), ?_⟩
      rcases w4 with ⟨a1, a2, a3, a4, _, a6⟩ | (⟨a1, a2, a3⟩ | ⟨a1, a2, a3⟩) | ⟨a1, a2, a3, _, xs, a5, a6⟩
      · refine .inl ⟨a1, a2, a3, by rw [a4]; omega, fun p hp => ?_, fun p h1 h2 => ?_⟩
        · rw [a6]
          by_cases Pg : p = k
          · subst Pg; first | rw [hh, hpk] | rw [hh]
          · rw [ho _ _ _ (by omega)]; exact u4 p (by omega)
        · rw [a6, ho _ _ _ (by omega)]; exact u5 p (by omega) h2
      · exact .inr (.inl ⟨a1, a2, a3⟩)
      · refine .inr (.inr ⟨a1, a2, ?_⟩)
        rcases a3 with a3 | ⟨a3, a4, _⟩
        · exact .inl a3
        · refine .inr ⟨by rw [a3]; exact u2, k, by omega, fun p hp => ?_, fun _ => mY ?_⟩
          · rw [a4, w1.g, r1.g]; exact u4 p hp
          · rw [a4]; exact u5 _ (Int.le_refl _) (by omega)
      · refine .inr (.inr ⟨a1, a2, .inr ⟨a3, ?_⟩⟩)
        rcases a6 with rfl | ⟨ys, rfl, hy⟩
        · refine ⟨k + 1, by omega, fun p hp => ?_, fun hkN => mY ?_⟩
          · rw [a5, w1.g, r1.g]
            by_cases Pg : p = k
            · subst Pg; first | rw [hh, hpk] | rw [hh]
            · rw [ho _ _ _ (by omega)]; exact u4 p (by omega)
          · rw [a5, ho _ _ _ (by omega)]; exact u5 _ (by omega) (by omega)
        · refine ⟨k, by omega, fun p hp => ?_, fun _ xs hx => ?_⟩
          · rw [a5, w1.g, r1.g, ho _ _ _ (by omega)]; exact u4 p hp
          · rw [a5, hh] at hx
            injection hx with hx
            exact ⟨ys, hx.symm, by rw [w1.g]; exact hy⟩
    · have est : dL S b pg (k + 1) = dL S b pg k := by rw [dL, if_pos he]
      rw [est]
      refine ⟨r1, r2, r3, r4, ?_⟩
      rcases r5 with h | h | h
      · exact absurd h.1 he
      · exact .inr (.inl h)
      · exact .inr (.inr h)
theorem JG {h : Hd} {d : List Nat} (Es : h.may S.g = true) (hl : h.len = (d.length : Nat)) (h8 : Small 256 d) {j : Nat} (hj : S.PO b (kK S.g h d) (S.oO h) j) : S.rZ (b, 0) ∨ S.Part b h ∨ S.Holds b h d := by
  obtain ⟨h1, h2, h3⟩ := hj
  rcases Nat.eq_zero_or_pos j with rfl | h0
  · exact .inl (h3 (Nat.zero_le _))
  · by_cases hN : j ≤ S.oO h
    · exact .inr (.inl ⟨Es, h2 0 h0, j, hN, h3 hN⟩)
    · exact .inr (.inr ⟨Es, hl, h8, fun p hp => h2 p (by omega)⟩)
theorem AB {num aB : Int} {d : List Nat} (hg : S.g.aD) (hu : S.up = true) (hb : 0 ≤ b ∧ b < S.g.bl) (hm : S.marked b = false) (hln : (S.next.length : Int) = S.g.bl) (h8 : Small 256 d) (Es : Hd.may S.g ⟨aB, (d.length : Nat), num⟩ = true) :
    Rest b S (bM S num b aB d).1 ∧ Wr S (bM S num b aB d).1 ∧ (S.left = 0 → (bM S num b aB d).1.left = 0 ∧ (bM S num b aB d).2 ≠ 70) ∧ (S.weak b = false → (bM S num b aB d).2 ≠ 72) ∧
    (((bM S num b aB d).2 = 0 ∧ (bM S num b aB d).1.up = true ∧ (bM S num b aB d).1.marked b = false ∧ (bM S num b aB d).1.Holds b ⟨aB, (d.length : Nat), num⟩ d) ∨
     ((bM S num b aB d).2 = 72 ∧ (bM S num b aB d).1.up = true ∧ (bM S num b aB d).1.marked b = true) ∨
     ((bM S num b aB d).2 = 70 ∧ (bM S num b aB d).1.up = false ∧ ((bM S num b aB d).1.marked b = true ∨ (bM S num b aB d).1.marked b = false ∧
       (Same b S (bM S num b aB d).1 ∨ (bM S num b aB d).1.rZ (b, 0) ∨ (bM S num b aB d).1.Part b ⟨aB, (d.length : Nat), num⟩ ∨ (bM S num b aB d).1.Holds b ⟨aB, (d.length : Nat), num⟩ d)))) := by
  have hgb := hg
  unfold Geo.aD at hgb
  obtain ⟨e1, e2, e3, e4⟩ := uq hu hb (by omega) hm hln
  obtain ⟨h, hh⟩ : ∃ h : Hd, h = ⟨aB, (d.length : Nat), num⟩ := ⟨_, rfl⟩
  rw [← hh] at Es ⊢
  have hpb := Eb hg Es
  by_cases he : (S.aM b).2 = 0
  · obtain ⟨T, hT⟩ : ∃ T, T = (S.aM b).1 := ⟨_, rfl⟩
    have est : bM S num b aB d = dL T b (kK S.g h d) (S.oO h + 1) := by
      unfold bM
      rw [if_neg (fun h => h he), ← hT, ← hh]
      unfold oO
      rw [hh]
    have hwr := zK (S := S) (b := b)
    rw [← hT] at e1 e2 e4 hwr
    have q4 : T.up = true ∧ T.marked b = false ∧ T.jw b = 0 ∧ ∀ p, 0 ≤ p → p < S.g.pg → T.pages (b, p) = none ∧ T.wrong (b, p) = none := by
      rcases e4 with h | (h | h) | h
      · exact h.2
      · rw [he] at h; exact absurd h.1.symm (by decide)
      · rw [he] at h; exact absurd h.1.symm (by decide)
      · rw [he] at h; exact absurd h.1.symm (by decide)
    obtain ⟨u1, u2, u3, u4⟩ := q4
    obtain ⟨w1, w2, w3, w4, w5⟩ := Mh (S := T) (b := b) (pg := kK S.g h d) (by rw [e1.g]; exact hg) u1 (by rw [e1.g]; exact hb) u2 (fun p => tY h8 p) (fun p => by rw [mD hg]; unfold room; rw [e1.g]; exact (DK hg).symm) u3 (by rw [e1.len, e1.g]; exact hln)
      (N := S.oO h) (by rw [e1.g]; omega) (fun p h1 h2 => (u4 p h1 (by rw [← e1.g]; exact h2)).1) (S.oO h + 1) (Nat.le_refl _)
    rw [est]
    have hgg : (dL T b (kK S.g h d) (S.oO h + 1)).1.g = S.g := (w1.g).trans e1.g
    have hst : ∀ j, (dL T b (kK S.g h d) (S.oO h + 1)).1.PO b (kK S.g h d) (S.oO h) j → (dL T b (kK S.g h d) (S.oO h + 1)).1.rZ (b, 0) ∨ (dL T b (kK S.g h d) (S.oO h + 1)).1.Part b h ∨ (dL T b (kK S.g h d) (S.oO h + 1)).1.Holds b h d := fun j hj => by
      refine JG (by rw [hgg]; exact Es) (by rw [hh]) h8 (j := j) ?_
      have hp2 : (dL T b (kK S.g h d) (S.oO h + 1)).1.oO h = S.oO h := by
        show ((dL T b (kK S.g h d) (S.oO h + 1)).1.g.aW h.len).toNat = (S.g.aW h.len).toNat
        rw [hgg]
      rw [hp2, hgg]
      exact hj
    refine ⟨e1.trans w1, hwr.trans w2, fun h0 => w3 (e2 h0).1, fun hw => w4 (by rw [e1.weak]; exact hw), ?_⟩
    rcases w5 with ⟨a1, a2, a3, a4, a5, a6⟩ | a | ⟨a1, a2, a3⟩
    · refine .inl ⟨a1, a2, a3, ⟨by rw [hgg]; exact Es, by rw [hh], h8, fun p hp => ?_⟩⟩
      have hp2 : (dL T b (kK S.g h d) (S.oO h + 1)).1.oO h = S.oO h := by
        show ((dL T b (kK S.g h d) (S.oO h + 1)).1.g.aW h.len).toNat = (S.g.aW h.len).toNat
        rw [hgg]
      rw [hp2] at hp
      rw [a5 p (by omega), hgg, e1.g]
    · exact .inr (.inl a)
    · refine .inr (.inr ⟨a1, a2, ?_⟩)
      rcases a3 with a3 | ⟨a3, j, hj⟩
      · exact .inl a3
      · exact .inr ⟨a3, .inr (hst j hj)⟩
  · have est : bM S num b aB d = S.aM b := by unfold bM; rw [if_pos he]
    rw [est]
    refine ⟨e1, zK, e2, e3, ?_⟩
    rcases e4 with h | (h | ⟨a1, a2, a3⟩) | ⟨a1, a2, a3, n, a4, a5⟩
    · exact absurd h.1 he
    · exact .inr (.inl h)
    · refine .inr (.inr ⟨a1, a2, ?_⟩)
      rcases a3 with a3 | ⟨a3, a4, a5⟩
      · exact .inl a3
      · exact .inr ⟨by rw [a3]; exact hm, .inl ⟨a4, a5⟩⟩
    · refine .inr (.inr ⟨a1, a2, .inr ⟨a3, ?_⟩⟩)
      by_cases hn : 0 < n
      · exact .inr (.inl (mY (by rw [a4]; exact if_pos ⟨rfl, Int.le_refl _, hn⟩)))
      · have hd : ∀ (f : Int × Int → Option (List Int)), aP f b n = f := fun f => by
          funext k
          unfold aP
          rw [if_neg (fun h => by omega)]
        exact .inl ⟨by rw [a4, hd], by rw [a5, hd]⟩
end
end ah
end Go.Proofs.YtcmojpiokjhmhaaGreat
