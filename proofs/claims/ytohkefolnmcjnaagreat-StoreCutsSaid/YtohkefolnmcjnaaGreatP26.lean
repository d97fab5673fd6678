import Derived.Test.YtohkefolnmcjnaaGreatP25
import Derived.Test.YtohkefolnmcjnaaGreatP17
import Derived.Test.YtohkefolnmcjnaaGreatP18
namespace Go.Proofs.YtohkefolnmcjnaaGreat
open Go.Sl Go.RowKit
set_option linter.unusedVariables false
set_option linter.unusedSimpArgs false
set_option maxRecDepth 20000
def eraseL : List Int → Chip → Chip × Int
  | [], S => (S, 0)
  | x :: xs, S => if (S.dErase x).2 = 70 then S.dErase x else eraseL xs (S.dErase x).1
def St.drop (T : St) (leb : Int) : St := { T with stands := T.stands.set leb.toNat (-1), stale := T.stale.set leb.toNat [] }
def sUnmap (S : Chip) (T : St) (leb : Int) : Chip × St × Int :=
  if T.ready leb ≠ 0 then (S, T, T.ready leb)
  else if T.at' leb < 0 then (S, T, 0)
  else if (eraseL (T.stale.getD leb.toNat [] ++ [T.at' leb]) S).2 = 70 then ((eraseL (T.stale.getD leb.toNat [] ++ [T.at' leb]) S).1, T.told 70, 70)
  else ((eraseL (T.stale.getD leb.toNat [] ++ [T.at' leb]) S).1, T.drop leb, 0)
section
variable {bs bd bc : Nat} {g : Geo} {T : Stw} {C : Cw} {K : World} {F : List Assn}
theorem Stw.seqR {q : IRow} {i : Nat} (hq : T.irs[i]? = some q) : Seq K (T.A bs bd g :: F) q.A q.l.length 1 (ints .i64 q.l) :=
  Seq.inAll (A := AllA (T.irs.map IRow.row)) (l := Stw.parts bs bd g T) (.tail _ (.tail _ (.tail _ (.head _)))) (Seq.inAll (A := q.row) (List.mem_map.2 ⟨q, List.mem_of_getElem? hq, rfl⟩) (SlA.seq (by rw [ints_length, Nat.mul_one])))
theorem Stw.rdR {q : IRow} {i : Nat} (hq : T.irs[i]? = some q) : Rd K (T.A bs bd g :: F) (some ⟨T.b8, 0 + i * 1, none⟩) q.v :=
  Rd.inAll (A := Cells T.b8 42 (T.irs.map IRow.v)) (l := Stw.parts bs bd g T) (.tail _ (.tail _ (.head _))) (Rd.here (by rw [Nat.zero_add, Nat.mul_one, List.getElem?_map, hq]; rfl))
theorem store_Unmap (hC : C.Ok) (hg : C.g = g) (hT : T.Ok g) (leb : Int) (hlong : ∀ l ∈ T.sem.stale, l.length ≤ 100000) :
    Does Tryz.prog 32 #[ptr bs 0, .int .i64 leb] K (C.A bc :: DvA bd bc g :: T.A bs bd g :: F)
    (fun v H' => ∃ (C' : Cw) (T' : Stw), C'.Ok ∧ C'.g = g ∧ T'.Ok g ∧ C'.sem = (sUnmap C.sem T.sem leb).1 ∧ T'.sem = (sUnmap C.sem T.sem leb).2.1 ∧ v = .int .i64 (sUnmap C.sem T.sem leb).2.2 ∧ H' = C'.A bc :: DvA bd bc g :: T'.A bs bd g :: F) := by
  obtain ⟨R, hR⟩ : ∃ R, R = sUnmap C.sem T.sem leb := ⟨_, rfl⟩
  rw [← hR]
  unfold sUnmap at hR
  have hgm : g.mays := by rw [← hg]; exact hC.mays
  have hgb := hgm
  unfold Geo.mays at hgb
  have hlb := hT.lebs
  have hin : T.sem.ready leb = 0 → 0 ≤ leb ∧ leb < T.stands.length := fun h => by
    unfold St.ready Stw.sem at h
    dsimp only at h
    split at h
    · cases h
    · split at h
      · cases h
      · omega
  refine Does.enter Tryz.func32 rfl Tryz.ntmps32 rfl ?_
  simp only [env0, Nat.reduceAdd]
  refine WC.sr ?_
  refine WL.sg rfl rfl ?_
  refine WL.nil ?_
  refine WC.seq ?_
  refine WC.sr ?_
  refine WL.mv rfl rfl ?_
  refine WL.mv rfl rfl ?_
  refine WL.sub (Sub.refl _) (fun w h => h.sel 3 [2, 0, 1] rfl) ?_
  refine WL.call (vs := [_, _]) Tryz.call88 ⟨OV.p rfl, OV.p rfl, trivial⟩ (store_ready leb) rfl ?_
  rintro _ _ ⟨rfl, rfl⟩
  refine WL.sub (Sub.refl _) (fun w h => h.sel 3 [1, 2, 0] rfl) ?_
  refine WL.sg rfl rfl ?_
  refine WL.nil ?_
  refine WC.sr ?_
  refine WL.mv rfl rfl ?_
  refine WL.val (V.neq (OV.p rfl) (OV.p rfl)) rfl ?_
  refine WL.nil ?_
  refine WC.cond rfl (fun hc0 => ?_) (fun hc0 => ?_)
  ·simp only [Bool.not_eq_true', Bool.not_eq_false', decide_eq_true_eq, decide_eq_false_iff_not] at hc0
   have h0 := hc0
   rw [if_pos h0] at hR
   refine WC.sr ?_
   refine WL.mv rfl rfl ?_
   refine WL.sg rfl rfl ?_
   refine WL.nil ?_
   refine WC.ret ?_
   subst hR
   exact BodyQ.ret (H' := C.A bc :: DvA bd bc g :: T.A bs bd g :: F) (Res.tmp rfl rfl) (fun w h => h) ⟨C, T, hC, hg, hT, rfl, rfl, rfl, rfl⟩
  ·simp only [Bool.not_eq_true', Bool.not_eq_false', decide_eq_true_eq, decide_eq_false_iff_not] at hc0
   have h0 := hc0
   have hr0 : T.sem.ready leb = 0 := by omega
   rw [if_neg (fun h => h hr0)] at hR
   have hinl := hin hr0
   obtain ⟨b, hb⟩ : ∃ b, b = T.sem.at' leb := ⟨_, rfl⟩
   rw [← hb] at hR
   have hrs : ∀ {X Y : Assn}, Rd K (X :: Y :: T.A bs bd g :: F) (T.sA.map (·.add (leb.toNat * 1))) (.int .i64 b) := fun {X Y} => by rw [hb]; exact Rd.up (Rd.up (Stw.rdS hinl))
   refine WC.skip ?_
   refine WC.sr ?_
   refine WL.mv rfl rfl ?_
   refine WL.nc rfl rfl ?_
   refine WL.val (V.fieldAddr fo126_2 (OV.p rfl)) rfl ?_
   refine WL.val (V.load Tryz.isAgg42 (OV.p rfl) (fun _ => Rd.up (Rd.up (Stw.rds 6 _ rfl)))) rfl ?_
   refine WL.mv rfl rfl ?_
   refine WL.val (V.idxS st42 (OV.p rfl) (OV.p rfl) (fun _ => hinl) (fun _ => hrs)) rfl ?_
   refine WL.val (V.load Tryz.isAgg3 (OV.p rfl) (fun _ => hrs)) rfl ?_
   refine WL.sg rfl rfl ?_
   refine WL.nil ?_
   refine WC.seq ?_
   refine WC.sr ?_
   refine WL.mv rfl rfl ?_
   refine WL.val (V.lss (OV.p rfl) (OV.p rfl)) rfl ?_
   refine WL.nil ?_
   refine WC.cond rfl (fun hc1 => ?_) (fun hc1 => ?_)
   ·simp only [decide_eq_true_eq, decide_eq_false_iff_not] at hc1
    have h1 := hc1
    rw [if_pos h1] at hR
    refine WC.sr ?_
    refine WL.sg rfl rfl ?_
    refine WL.nil ?_
    refine WC.ret ?_
    subst hR
    exact BodyQ.ret (H' := C.A bc :: DvA bd bc g :: T.A bs bd g :: F) (Res.tmp rfl rfl) (fun w h => h) ⟨C, T, hC, hg, hT, rfl, rfl, rfl, rfl⟩
   ·simp only [decide_eq_true_eq, decide_eq_false_iff_not] at hc1
    have h1 := hc1
    rw [if_neg h1] at hR
    have hil := hT.len
    obtain ⟨q, hq⟩ : ∃ q, q = T.irs[leb.toNat]'(by omega) := ⟨_, rfl⟩
    have hqg : T.irs[leb.toNat]? = some q := by rw [hq]; exact List.getElem?_eq_getElem (by omega)
    have hqb : q.l.length ≤ 100000 := hlong _ (List.mem_map.2 ⟨q, by rw [hq]; exact List.getElem_mem _, rfl⟩)
    have hqs : T.sem.stale.getD leb.toNat [] = q.l := by
      unfold Stw.sem
      simp only [List.getD, List.getElem?_map, hqg, Option.map_some, Option.getD_some]
    obtain ⟨xs, hxs⟩ : ∃ xs, xs = q.l ++ [b] := ⟨_, rfl⟩
    have hxl : xs.length = q.l.length + 1 := by rw [hxs, List.length_append]; rfl
    rw [hqs, ← hxs] at hR
    refine WC.skip ?_
    refine WC.seq ?_
    refine WC.sr ?_
    refine WL.mv rfl rfl ?_
    refine WL.nc rfl rfl ?_
    refine WL.val (V.fieldAddr fo126_3 (OV.p rfl)) rfl ?_
    refine WL.val (V.load Tryz.isAgg124 (OV.p rfl) (fun _ => Rd.up (Rd.up (Stw.rds 7 _ rfl)))) rfl ?_
    refine WL.mv rfl rfl ?_
    refine WL.val (V.idxB st124 (OV.p rfl) (OV.p rfl) (fun hc => by omega)) rfl ?_
    refine WL.val (V.load Tryz.isAgg42 (OV.p rfl) (fun _ => Rd.up (Rd.up (Stw.rdR hqg)))) rfl ?_
    refine WL.call (vs := [_]) Tryz.call82 ⟨OV.p rfl, trivial⟩ (clone_ints (Seq.up (Seq.up (Stw.seqR hqg))) (by omega)) rfl ?_
    rintro _ _ ⟨A1, c1, rfl, rfl⟩
    refine WL.mv rfl rfl ?_
    refine WL.buildSlice (E := 3) (cs := [_]) (vs := [(0, _)]) ⟨OV.p rfl, trivial⟩ rfl (bsl42_1_0 _) rfl (fun b34 => ?_)
    refine WL.sub (Sub.refl _) (fun w h => h.p1) ?_
    refine WL.append (m := q.l.length) (q := 1) (news := [.int .i64 b]) Tryz.underlying42 el3 (OV.p rfl) (OV.p rfl) (Seq.all rfl) (by intro u hu; rw [List.mem_singleton.1 hu]; rfl) (by omega) rfl rfl (fun A5 c5 hA5 hc5 => ?_)
    refine WL.val (V.len (t := 42) Tryz.runUnderlying42 (OV.p rfl)) rfl ?_
    refine WL.mv rfl rfl ?_
    refine WL.nil ?_
    refine WC.block ?_
    have hxe : ints .i64 q.l ++ [.int .i64 b] = ints .i64 xs := by rw [hxs, ints_append]; rfl
    rw [hxe, ← hxl]
    obtain ⟨n, hn⟩ : ∃ n, n = xs.length := ⟨_, rfl⟩
    rw [← hn] at hxl ⊢
    refine WC.loop (σ := Nat × Cw) (fun s => [(0, ptr bs 0), (1, .int .i64 leb), (35, .slice A5 n c5), (36, .int .i64 (n : Int)), (37, .int .i64 (s.1 : Int))]) (fun s => s.2.A bc :: DvA bd bc g :: SlA (.slice A5 n c5) 3 1 n (ints .i64 xs) :: T.A bs bd g :: F) (fun s => s.1 ≤ n ∧ s.2.Ok ∧ s.2.g = g ∧ eraseL (xs.drop s.1) s.2.sem = eraseL xs C.sem) (fun s => n - s.1) (0, C) ⟨Nat.zero_le _, hC, hg, rfl⟩ (.cons rfl (.cons rfl (.cons (look_eq rfl (by rw [hxl])) (.cons (look_eq rfl (by rw [hxl])) (.cons rfl (.nil _)))))) (fun w h => h.sel 5 [2, 3, 0, 4] rfl) ?_
    rintro ⟨i, C'⟩ ⟨hi, hC', hg', hch⟩
    dsimp only at hi hC' hg' hch ⊢
    have hsq : ∀ {H : List Assn}, Seq K (SlA (.slice A5 n c5) 3 1 n (ints .i64 xs) :: H) A5 n 1 (ints .i64 xs) := fun {H} => SlA.seq (by rw [ints_length, Nat.mul_one, hn])
    refine WC.sr ?_
    refine WL.val (V.lss (OV.p rfl) (OV.p rfl)) rfl ?_
    refine WL.nil ?_
    refine WC.seq ?_
    refine WC.cond rfl (fun hc2 => ?_) (fun hc2 => ?_)
    ·simp only [decide_eq_true_eq, decide_eq_false_iff_not] at hc2
     have hin2 : i < n := by omega
     have hti : (i : Int).toNat = i := by omega
     have hdr : xs.drop i = xs.getD i 0 :: xs.drop (i + 1) := by rw [List.drop_eq_getElem_cons (by omega)]; simp [List.getD, show i < xs.length by omega]
     have hrd : ∀ {H : List Assn}, Rd K (SlA (.slice A5 n c5) 3 1 n (ints .i64 xs) :: H) (A5.map (·.add ((i : Int).toNat * 1))) (.int .i64 (xs.getD i 0)) := fun {H} => by
       have := Seq.int_rd (hsq (H := H)) (j := (i : Int)) (by omega)
       rwa [hti] at this ⊢
     obtain ⟨x, hx⟩ : ∃ x, x = xs.getD i 0 := ⟨_, rfl⟩
     rw [← hx] at hdr hrd
     rw [hdr, eraseL] at hch
     refine WC.skip ?_
     refine WC.seq ?_
     refine WC.block ?_
     refine WC.sr ?_
     refine WL.val (V.idxS st42 (OV.p rfl) (OV.p rfl) (fun _ => by omega) (fun _ => by repeat (first | exact hrd | apply Rd.up))) rfl ?_
     refine WL.val (V.load Tryz.isAgg3 (OV.p rfl) (fun _ => by repeat (first | exact hrd | apply Rd.up))) rfl ?_
     refine WL.sg rfl rfl ?_
     refine WL.nil ?_
     refine WC.sr ?_
     refine WL.mv rfl rfl ?_
     refine WL.nc rfl rfl ?_
     refine WL.val (V.fieldAddr fo126_0 (OV.p rfl)) rfl ?_
     refine WL.val (V.load Tryz.isAgg31 (OV.p rfl) (fun _ => by repeat (first | exact Stw.rds 0 _ rfl | apply Rd.up))) rfl ?_
     refine WL.mv rfl rfl ?_
     refine WL.call (vs := [_, _]) Tryz.call61 ⟨OV.p rfl, OV.p rfl, trivial⟩ (drive_EraseG hC' hg' x) rfl ?_
     rintro _ _ ⟨C2, hC2, hg2, rfl, hs2, rfl⟩
     refine WL.sg rfl rfl ?_
     refine WL.nil ?_
     refine WC.sr ?_
     refine WL.mv rfl rfl ?_
     refine WL.val (V.eql (OV.p rfl) (OV.p rfl)) rfl ?_
     refine WL.nil ?_
     refine WC.cond rfl (fun hc3 => ?_) (fun hc3 => ?_)
     ·simp only [decide_eq_true_eq, decide_eq_false_iff_not] at hc3
      have h3 := hc3
      rw [if_pos h3] at hch
      rw [← hch, if_pos h3] at hR
      refine WC.sr ?_
      refine WL.mv rfl rfl ?_
      refine WL.mv rfl rfl ?_
      refine WL.sub (Sub.refl _) (fun w h => h.sel 4 [3, 0, 1, 2] rfl) ?_
      refine WL.call (vs := [_, _]) Tryz.call89 ⟨OV.p rfl, OV.p rfl, trivial⟩ (store_told (C'.sem.dErase x).2) rfl ?_
      rintro _ _ ⟨rfl, rfl⟩
      refine WL.sg rfl rfl ?_
      refine WL.nil ?_
      refine WC.ret ?_
      subst hR
      rw [h3]
      exact BodyQ.ret (H' := C2.A bc :: DvA bd bc g :: (T.told 70).A bs bd g :: F) (Res.tmp rfl rfl) (fun w h => h.sel 4 [1, 2, 0] rfl) ⟨C2, T.told 70, hC2, hg2, hT.told _, hs2, rfl, rfl, rfl⟩
     ·simp only [decide_eq_true_eq, decide_eq_false_iff_not] at hc3
      have h3 := hc3
      rw [if_neg h3] at hch
      refine WC.skip ?_
      refine WC.region ?_
      refine WL.ad rfl rfl rfl ?_
      refine WL.mv rfl rfl ?_
      refine WL.nil ?_
      refine ⟨rfl, ?_⟩
      exact ⟨(i + 1, C2), ⟨hin2, hC2, hg2, by show eraseL (xs.drop (i + 1)) C2.sem = _; rw [hs2]; exact hch⟩, (by show n - (i + 1) < n - i; omega), .cons rfl (.cons rfl (.cons rfl (.cons rfl (.cons (look_eq rfl (by simp)) (.nil _))))), fun w h => h⟩
    ·simp only [decide_eq_true_eq, decide_eq_false_iff_not] at hc2
     refine WC.exit ?_
     refine WC.seq ?_
     obtain rfl : i = n := by omega
     rw [List.drop_eq_nil_of_le (by omega), eraseL] at hch
     rw [← hch, if_neg (by show ¬ (0 : Int) = 70; decide)] at hR
     dsimp only at hR
     refine WC.have_ (p := ∃ g1, T.sA = some ⟨g1, 0, none⟩) (fun w h => Stw.someS (bs := bs) (bd := bd) (g := g) (by omega) (h.sel 4 [3] rfl)) (fun ⟨g1, hA1⟩ => ?_)
     refine WC.sub (H' := Cells T.b8 42 (T.irs.map IRow.v) :: T.sl :: AllA ((T.irs.map IRow.row).set leb.toNat ir0.row) :: Cells bs 126 (T.cells bd g) :: C'.A bc :: DvA bd bc g :: F) (Sub.refl _) (fun w h => by
       have h9 : Sat K w (Stw.parts bs bd g T ++ (C'.A bc :: DvA bd bc g :: F)) := (h.sel 4 [3, 0, 1] rfl).unall
       have h10 := Sat.takeA (k := leb.toNat) (by rw [List.length_map]; omega) (h9.sel 4 [3, 2, 0, 1] rfl)
       have h11 : Sat K w (ir0.row :: AllA ((T.irs.map IRow.row).eraseIdx leb.toNat) :: Cells T.b8 42 (T.irs.map IRow.v) :: Cells bs 126 (T.cells bd g) :: T.sl :: C'.A bc :: DvA bd bc g :: F) := Sat.slNil h10.tail _ _
       exact (Sat.putA (by rw [List.length_map]; omega) h11).sel 4 [1, 3, 0, 2] rfl) ?_
     unfold Stw.sl
     rw [hA1]
     refine WC.regionA (AllA ((T.irs.map IRow.row).set leb.toNat ir0.row) :: Cells bs 126 (T.cells bd g) :: C'.A bc :: DvA bd bc g :: F) (by kernel_rfl) ?_
     refine WA.t 0 rfl (V.move (OV.p rfl)) ?_
     refine WA.t 1 rfl (V.nilCheck (OV.p rfl)) ?_
     refine WA.t 2 rfl (V.fieldAddr fo126_2 (OV.p rfl)) ?_
     refine WA.t 3 rfl (V.val_eq (v' := .slice (some ⟨g1, 0, none⟩) T.stands.length T.sc) (V.load Tryz.isAgg42 (OV.p rfl) (fun _ => by repeat (first | exact Rd.here rfl | apply Rd.up))) (fun _ => by rw [hA1])) ?_
     refine WA.t 4 rfl (V.move (OV.p rfl)) ?_
     refine WA.t 5 rfl (V.move (OV.p rfl)) ?_
     refine WA.t 6 rfl (V.nilCheck (OV.p rfl)) ?_
     refine WA.t 7 rfl (V.fieldAddr fo126_3 (OV.p rfl)) ?_
     refine WA.t 8 rfl (V.load Tryz.isAgg124 (OV.p rfl) (fun _ => by repeat (first | exact Rd.here rfl | apply Rd.up))) ?_
     refine WA.t 9 rfl (V.move (OV.p rfl)) ?_
     refine WA.t 10 rfl (V.idxB st42 (OV.p rfl) (OV.p rfl) (fun hc => by omega)) ?_
     refine WA.o 11 rfl ?_
     refine WL.store (cs := [_]) Tryz.sizeOf3 (OV.p rfl) (OV.p rfl) rfl rfl rfl (Upd.up (Upd.slA (by omega))) ?_
     refine WL.nil ?_
     refine WA.t 12 rfl (V.idxB st124 (OV.p rfl) (OV.p rfl) (fun hc => by omega)) ?_
     refine WA.o 13 rfl ?_
     refine WL.store (cs := [_]) Tryz.sizeOf42 (OV.p rfl) (OV.p rfl) rfl rfl rfl (Upd.at_ (by rw [List.length_map]; omega)) ?_
     refine WL.nil ?_
     refine WA.fin ?_
     refine WC.sr ?_
     refine WL.sg rfl rfl ?_
     refine WL.nil ?_
     refine WC.ret ?_
     subst hR
     obtain ⟨T', hT'⟩ : ∃ T' : Stw, T' = { T with stands := T.stands.set leb.toNat (-1), irs := T.irs.set leb.toNat ir0 } := ⟨_, rfl⟩
     refine BodyQ.ret (H' := C'.A bc :: DvA bd bc g :: T'.A bs bd g :: F) (Res.tmp rfl rfl) (fun w h => ?_) ⟨C', T', hC', hg', ?_, rfl, ?_, rfl, rfl⟩
     · refine (Sat.all (l := Stw.parts bs bd g T') (H := C'.A bc :: DvA bd bc g :: F) (K := K) (w := w) ?_).sel 3 [1, 2, 0] rfl
       unfold Stw.parts Stw.cells Stw.sl
       rw [hT']
       dsimp only
       rw [List.length_set, List.length_set, hA1, List.map_set, List.map_set]
       have e1 : (ints .i64 T.stands).set (0 + leb.toNat * 1) (.int .i64 (-1)) = ints .i64 (T.stands.set leb.toNat (-1)) := by unfold ints; rw [show 0 + leb.toNat * 1 = leb.toNat by omega, List.map_set]
       rw [← e1]
       have h2 := h.sel 6 [3, 1, 0, 2, 4, 5] rfl
       rw [show 0 + leb.toNat * 1 = leb.toNat by omega] at h2 ⊢
       unfold Stw.cells at h2
       rw [hA1] at h2
       exact h2
     · rw [hT']
       refine ⟨by show (T.irs.set _ _).length = (T.stands.set _ _).length; rw [List.length_set, List.length_set]; exact hT.len, by show 1 ≤ (T.stands.set _ _).length ∧ _; rw [List.length_set]; exact hT.lebs, hT.next, hT.at_, fun x hx => ?_⟩
       rcases List.mem_or_eq_of_mem_set hx with hx | rfl
       · exact hT.std x hx
       · omega
     · rw [hT']
       unfold Stw.sem St.drop
       dsimp only
       rw [List.map_set]; rfl
end
theorem scanE_up {S : Chip} (hg : S.g.mays) (hu : S.up = true) : S.scanE = 0 := by
  unfold Geo.mays at hg
  have e1 : ¬ ((0 : Int) < 0 ∨ S.g.bl ≤ 0 ∨ (0 : Int) < 0 ∨ S.g.pg ≤ 0 ∨ (decide ((0 : Int) ≤ 0) && decide (0 ≤ S.g.pg)) = false) := by
    simp; omega
  have e2 : S.ahead 0 0 (decide ((0 : Int) ≤ 0) && decide (0 ≤ S.g.pg)) = if S.bad 0 = true then 73 else 0 := by
    unfold Chip.ahead
    rw [if_neg (by rw [hu]; decide), if_neg e1]
  unfold Chip.scanE Chip.dWhole
  rw [e2]
  cases S.bad 0 <;> rfl
end Go.Proofs.YtohkefolnmcjnaaGreat
namespace Go.Proofs.YtohkefolnmcjnaaGreat
open Go.Sl Go.RowKit
set_option linter.unusedVariables false
set_option linter.unusedSimpArgs false
set_option maxRecDepth 20000
def Geo.sect (g : Geo) : Nat := g.sb.toNat + moreLen g.fl.toNat
namespace Chip
def Few (S : Chip) (k : Int × Int) : Prop := ∀ w, S.wrong k = some w → (natsOf w).Nodup ∧ (∀ x ∈ w, 0 ≤ x ∧ x < (8 * S.g.sect : Nat)) ∧ w.length ≤ S.g.fl.toNat
theorem raw_sect {g : Geo} (hg : g.mays) : g.raw = ((g.se.toNat * g.sect + 1 : Nat) : Int) := Geo.raw_nat hg
theorem rawN_few {S : Chip} {b p : Int} (hw : S.Few (b, p)) : ∃ ks : List Nat, ks.Nodup ∧ (∀ k ∈ ks, k < 8 * S.g.sect) ∧ ks.length ≤ S.g.fl.toNat ∧ (S.wrong (b, p) = none → ks = []) ∧
    ∀ xs, S.pages (b, p) = some (intsOf xs) → S.rawN b p = flipAll xs ks := by
  cases hwr : S.wrong (b, p) with
  | none => exact ⟨[], List.nodup_nil, fun k hk => (by cases hk), Nat.zero_le _, fun _ => rfl, fun xs hp => rawN_page hp hwr⟩
  | some w =>
    obtain ⟨h1, h2, h3⟩ := hw w hwr
    refine ⟨natsOf w, h1, fun k hk => ?_, by rw [natsOf_length]; exact h3, fun h => (by cases h), fun xs hp => ?_⟩
    · obtain ⟨x, hx, rfl⟩ := List.mem_map.1 hk
      have := h2 x hx
      omega
    · unfold rawN reads
      rw [hp, hwr]
      show natsOf (turn (intsOf xs) w) = _
      rw [natsOf_turn _ _ (fun i hi => (h2 i hi).1), natsOf_intsOf]
theorem dRead_few {S : Chip} {b p : Int} {d : List Nat} (hg : S.g.mays) (hu : S.up = true) (h : 0 ≤ b ∧ b < S.g.bl ∧ 0 ≤ p ∧ p < S.g.pg) (hm : S.marked b = false) (h8 : Small 256 d) (hl : d.length = S.room)
    (hp : S.pages (b, p) = some (intsOf (packG S.g d))) (hw : S.Few (b, p)) : ∃ N : Nat, (S.wrong (b, p) = none → N = 0) ∧ S.dRead b p = ⟨0, d, N⟩ ∧ S.stateG b p = 0 := by
  have hN := NGood.of (bl := S.g.bl) (pg := S.g.pg) (by rw [← geo_nat hg]; exact hg)
  obtain ⟨hs1, hb1, ht1⟩ := hN
  obtain ⟨ks, k1, k2, k3, k4, k5⟩ := rawN_few hw
  have hr := k5 _ hp
  have hse : 8 * S.g.sect ≤ 8 * (S.g.se.toNat * S.g.sect) := Nat.mul_le_mul_left _ (Nat.le_mul_of_pos_left _ (by omega))
  obtain ⟨N, hN1, hN2⟩ := read_flip (t := S.g.fl.toNat) (B := S.g.sb.toNat) (S := S.g.se.toNat) (d := d) ht1 (by omega) h8 hl k1 (fun k hk => Nat.lt_of_lt_of_le (k2 k hk) hse) (fun j => by
    refine Nat.le_trans (List.length_filter_le _ _) k3)
  have hread : readF S.g.fl.toNat S.g.se.toNat S.g.sb.toNat (S.rawN b p) = ⟨0, d, N⟩ := by rw [hr]; exact hN2
  have hahd : S.ahead b p true = 0 := ahead_ok hu h hm
  have hdr : S.dRead b p = ⟨0, d, N⟩ := by
    unfold dRead
    rw [if_neg (by rw [hahd]; decide), hread]
    rfl
  refine ⟨N, fun hn => ?_, hdr, ?_⟩
  · have h1 := dRead_page hg hu h hm h8 hl hp hn
    rw [hdr] at h1
    injection h1
  · unfold stateG
    rcases Nat.eq_zero_or_pos (stateF S.g.fl.toNat S.g.se.toNat (S.g.sb.toNat + moreLen S.g.fl.toNat) (S.rawN b p)) with h1 | h1
    · exact h1
    · unfold readF at hread
      rw [if_pos (by omega)] at hread
      injection hread
def Torn (S : Chip) (k : Int × Int) : Prop := ∀ xs, S.pages k = some xs → ∃ ys, xs = intsOf ys ∧ ys.getD (S.g.se.toNat * S.g.sect) 0 = 255
theorem state_torn {S : Chip} {b p : Int} (hg : S.g.mays) (ht : S.Torn (b, p)) (hw : S.Few (b, p)) : S.stateG b p ≠ 0 := by
  have hN := NGood.of (bl := S.g.bl) (pg := S.g.pg) (by rw [← geo_nat hg]; exact hg)
  obtain ⟨hs1, hb1, ht1⟩ := hN
  have key : ∀ (ys ks : List Nat), ys.getD (S.g.se.toNat * S.g.sect) 0 = 255 → (∀ k ∈ ks, k < 8 * S.g.sect) → stateF S.g.fl.toNat S.g.se.toNat (S.g.sb.toNat + moreLen S.g.fl.toNat) (flipAll ys ks) ≠ 0 := fun ys ks hy hk => by
    have h1 : (flipAll ys ks).getD (S.g.se.toNat * (S.g.sb.toNat + moreLen S.g.fl.toNat)) 0 = 255 := by
      rw [flipAll_byte ks ys _ (fun k hk' => ?_)]
      · exact hy
      · have h2 := hk k hk'
        have h3 : S.g.sect ≤ S.g.se.toNat * S.g.sect := Nat.le_mul_of_pos_left _ (by omega)
        have h4 : S.g.se.toNat * (S.g.sb.toNat + moreLen S.g.fl.toNat) = S.g.se.toNat * S.g.sect := rfl
        omega
    rcases state_255 (t := S.g.fl.toNat) h1 with h | h <;> rw [h] <;> decide
  cases hp : S.pages (b, p) with
  | some xs =>
    obtain ⟨ys, rfl, hy⟩ := ht xs hp
    obtain ⟨ks, k1, k2, k3, k4, k5⟩ := rawN_few hw
    unfold stateG
    rw [k5 ys hp]
    exact key ys ks hy k2
  | none =>
    have hb : S.reads b p = turn (List.replicate S.g.raw.toNat 255) ((S.wrong (b, p)).getD []) := by
      unfold reads
      rw [hp]
      rfl
    unfold stateG rawN
    have h0 : ∀ i ∈ (S.wrong (b, p)).getD [], 0 ≤ i ∧ i < (8 * S.g.sect : Nat) := fun i hi => by
      cases hwr : S.wrong (b, p) with
      | none => rw [hwr] at hi; cases hi
      | some w => rw [hwr] at hi; exact (hw w hwr).2.1 i hi
    rw [hb, natsOf_turn _ _ (fun i hi => (h0 i hi).1)]
    refine key _ _ ?_ (fun k hk => ?_)
    · unfold natsOf
      rw [List.map_replicate, raw_sect hg, Int.toNat_natCast]
      simp [List.getD, List.getElem?_replicate]
    · obtain ⟨x, hx, rfl⟩ := List.mem_map.1 hk
      have := h0 x hx
      omega
theorem dRead_torn {S : Chip} {b p : Int} (hg : S.g.mays) (ht : S.Torn (b, p)) (hw : S.Few (b, p)) : (S.dRead b p).err ≠ 0 := by
  have h1 := state_torn hg ht hw
  unfold stateG at h1
  unfold dRead
  split
  · rename_i h; exact h
  · show ((readF _ _ _ _).err : Int) ≠ 0
    unfold readF
    rw [if_pos h1]
    show ((stateF _ _ _ _ : Nat) : Int) ≠ 0
    omega
end Chip
end Go.Proofs.YtohkefolnmcjnaaGreat
namespace Go.Proofs.YtohkefolnmcjnaaGreat
open Go.Sl Go.RowKit
set_option linter.unusedVariables false
set_option linter.unusedSimpArgs false
set_option maxRecDepth 20000
def catTo (g : Geo) (h : Hd) (d : List Nat) : Nat → List Nat
  | 0 => []
  | k + 1 => catTo g h d k ++ pgOf g h d (k + 1)
theorem catTo_take {g : Geo} {h : Hd} {d : List Nat} (hg : g.mays) : ∀ k, (catTo g h d k).length = k * g.room.toNat ∧ (catTo g h d k).take d.length = d.take (k * g.room.toNat)
  | 0 => ⟨by simp [catTo], by simp [catTo]⟩
  | k + 1 => by
    obtain ⟨h1, h2⟩ := catTo_take (h := h) (d := d) hg k
    obtain ⟨R, hR⟩ : ∃ R, R = g.room.toNat := ⟨_, rfl⟩
    have hl := pgOf_length (h := h) (d := d) hg (k + 1)
    rw [← hR] at h1 h2 hl ⊢
    rw [catTo]
    refine ⟨by rw [List.length_append, h1, hl, Nat.succ_mul], ?_⟩
    by_cases hk : d.length ≤ k * R
    · rw [List.take_append_of_le_length (by omega), h2, List.take_of_length_le hk, List.take_of_length_le (by rw [Nat.succ_mul]; omega)]
    · have e1 : catTo g h d k = d.take (k * R) := by rw [← h2, List.take_of_length_le (by omega)]
      rw [List.take_append, h1, List.take_of_length_le (l := catTo g h d k) (by omega), e1, Nat.succ_mul]
      have e2 : (pgOf g h d (k + 1)).take (d.length - k * R) = (d.drop (k * R)).take R := by
        show ((d.drop (k * g.room.toNat)).take g.room.toNat ++ List.replicate (g.room.toNat - ((d.drop (k * g.room.toNat)).take g.room.toNat).length) 0).take (d.length - k * R) = _
        rw [← hR]
        by_cases hr : R ≤ d.length - k * R
        · have e3 : ((d.drop (k * R)).take R).length = R := by rw [List.length_take, List.length_drop]; omega
          rw [e3, Nat.sub_self, List.replicate_zero, List.append_nil, List.take_of_length_le (by omega)]
        · have e3 : ((d.drop (k * R)).take R).length = d.length - k * R := by rw [List.length_take, List.length_drop]; omega
          rw [List.take_append_of_le_length (by omega), List.take_of_length_le (by omega)]
      rw [e2, ← List.take_add]
namespace Chip
variable {S : Chip} {b : Int} {h : Hd} {d : List Nat}
def pgs (S : Chip) (h : Hd) : Nat := (S.g.pagesOf h.len).toNat
structure Holds (S : Chip) (b : Int) (h : Hd) (d : List Nat) : Prop where
  may : h.may S.g = true
  len : h.len = (d.length : Nat)
  small : Small 256 d
  page : ∀ p, p ≤ S.pgs h → S.pages (b, (p : Int)) = some (intsOf (packG S.g (pgOf S.g h d p)))
structure Part (S : Chip) (b : Int) (h : Hd) : Prop where
  may : h.may S.g = true
  page : S.pages (b, 0) = some (intsOf (packG S.g (headB S.g h)))
  torn : ∃ p : Nat, p ≤ S.pgs h ∧ S.Torn (b, (p : Int))
theorem wholeTo_iff : ∀ k, S.wholeTo b k = true ↔ ∀ j : Nat, j < k → S.stateG b (j : Int) = 0
  | 0 => by simp [wholeTo]
  | k + 1 => by
    rw [wholeTo, Bool.and_eq_true, wholeTo_iff k, decide_eq_true_eq]
    constructor
    · rintro ⟨h1, h2⟩ j hj
      rcases Nat.lt_or_ge j k with h | h
      · exact h1 j h
      · rw [show j = k by omega]; exact h2
    · intro h
      exact ⟨fun j hj => h j (by omega), h k (by omega)⟩
theorem pgs_bd (hg : S.g.mays) (hm : h.may S.g = true) : (S.pgs h : Int) = S.g.pagesOf h.len ∧ (S.pgs h : Int) ≤ S.g.pg - 1 ∧ h.len ≤ (S.pgs h : Int) * S.g.room ∧ 0 ≤ h.len := by
  have hmb := hm
  unfold Hd.may at hmb
  simp only [Bool.and_eq_true, decide_eq_true_eq] at hmb
  have hf := hmb.1.1.1.1
  have h1 := Geo.pages_fit hg hf
  unfold Geo.fits at hf
  simp only [Bool.and_eq_true, decide_eq_true_eq] at hf
  unfold pgs
  rw [Int.toNat_of_nonneg h1.1]
  exact ⟨rfl, h1.2.1, h1.2.2.1, hf.1⟩
theorem room_eq (hg : S.g.mays) : S.room = S.g.room.toNat := by
  unfold room
  rw [Geo.room_nat hg]; rfl
theorem dWhole_of (hg : S.g.mays) (hu : S.up = true) (hb : 0 ≤ b ∧ b < S.g.bl) (hm : S.marked b = false) (hmy : h.may S.g = true) : S.dWhole b (1 + S.g.pagesOf h.len) = (S.wholeTo b (1 + S.pgs h), 0) := by
  have h1 := pgs_bd hg hmy
  have hgb := hg
  unfold Geo.mays at hgb
  have e1 : (decide ((0 : Int) ≤ 1 + S.g.pagesOf h.len) && decide (1 + S.g.pagesOf h.len ≤ S.g.pg)) = true := by rw [decide_eq_true (by omega), decide_eq_true (by omega)]; rfl
  have e2 : S.ahead b 0 true = 0 := ahead_ok hu ⟨hb.1, hb.2, by omega, by omega⟩ hm
  unfold dWhole
  rw [e1, e2, if_neg (by decide), if_neg (fun h => h rfl)]
  rw [show (1 + S.g.pagesOf h.len).toNat = 1 + S.pgs h by omega]
theorem scan_torn (hg : S.g.mays) (hf : ∀ p : Nat, S.Few (b, (p : Int))) (ht : S.Torn (b, 0)) : S.scanB b = none := by
  have h1 := dRead_torn hg ht (hf 0)
  unfold scanB
  rw [if_pos h1]
section
variable (hg : S.g.mays) (hu : S.up = true) (hb : 0 ≤ b ∧ b < S.g.bl) (hm : S.marked b = false) (hf : ∀ p : Nat, S.Few (b, (p : Int)))
include hg hu hb hm hf
theorem page_of (hH : S.Holds b h d) {p : Nat} (hp : p ≤ S.pgs h) : ∃ N : Nat, (S.wrong (b, (p : Int)) = none → N = 0) ∧ S.dRead b p = ⟨0, pgOf S.g h d p, N⟩ ∧ S.stateG b p = 0 := by
  have h1 := pgs_bd hg hH.may
  exact dRead_few hg hu ⟨hb.1, hb.2, by omega, by omega⟩ hm (pgOf_small hH.small p) (by rw [pgOf_length hg, room_eq hg]) (hH.page p hp) (hf p)
theorem scan_holds (hH : S.Holds b h d) : S.scanB b = some ⟨b, h, true⟩ := by
  obtain ⟨N, _, h2, _⟩ := page_of hg hu hb hm hf hH (p := 0) (Nat.zero_le _)
  have h2' : S.dRead b 0 = ⟨0, headB S.g h, N⟩ := h2
  unfold scanB
  rw [h2', if_neg (fun h => h rfl)]
  dsimp only
  rw [parse_headB hH.may hg]
  dsimp only
  rw [dWhole_of hg hu hb hm hH.may]
  have : S.wholeTo b (1 + S.pgs h) = true := (wholeTo_iff _).2 fun j hj => by
    obtain ⟨_, _, _, h3⟩ := page_of hg hu hb hm hf hH (p := j) (by omega)
    exact h3
  rw [this]
theorem scan_part (hP : S.Part b h) : S.scanB b = some ⟨b, h, false⟩ := by
  have hgb := hg
  unfold Geo.mays at hgb
  obtain ⟨N, _, h2, _⟩ := dRead_few hg hu ⟨hb.1, hb.2, Int.le_refl _, by omega⟩ hm (headB_small S.g h) (by rw [headB_length hg, room_eq hg]) hP.page (hf 0)
  unfold scanB
  rw [h2, if_neg (fun h => h rfl)]
  dsimp only
  rw [parse_headB hP.may hg]
  dsimp only
  rw [dWhole_of hg hu hb hm hP.may]
  have : S.wholeTo b (1 + S.pgs h) = false := by
    rw [← Bool.not_eq_true]
    intro hw
    obtain ⟨p, hp, ht⟩ := hP.torn
    exact state_torn hg ht (hf p) ((wholeTo_iff _).1 hw p (by omega))
  rw [this]
theorem rd_holds (hH : S.Holds b h d) (n0 : Nat) : ∀ k, k ≤ S.pgs h → ∃ N : Nat, ((∀ p : Nat, S.wrong (b, (p : Int)) = none) → n0 = 0 → N = 0) ∧ sRdTo S b n0 k = ⟨0, catTo S.g h d k, N⟩
  | 0, _ => ⟨n0, fun _ h => h, rfl⟩
  | k + 1, hk => by
    obtain ⟨N, h1, h2⟩ := rd_holds hH n0 k (by omega)
    obtain ⟨M, h3, h4, _⟩ := page_of hg hu hb hm hf hH (p := k + 1) hk
    have h5 : S.dRead b (1 + (k : Int)) = ⟨0, pgOf S.g h d (k + 1), M⟩ := by rw [show 1 + (k : Int) = ((k + 1 : Nat) : Int) by omega]; exact h4
    refine ⟨max N M, fun hw hn => ?_, ?_⟩
    · have e1 := h1 hw hn
      have e2 := h3 (hw (k + 1))
      omega
    · rw [sRdTo, h2, if_neg (fun h => h rfl), h5, if_neg (fun h => h rfl)]
      rfl
end
end Chip
theorem read_holds {S : Chip} {T : St} {leb b : Int} {h : Hd} {d : List Nat} (hg : S.g.mays) (hu : S.up = true) (hb : 0 ≤ b ∧ b < S.g.bl) (hm : S.marked b = false) (hf : ∀ p : Nat, S.Few (b, (p : Int)))
    (hr : T.ready leb = 0) (ha : T.at' leb = b) (hH : S.Holds b h d) : ∃ N : Nat, ((∀ p : Nat, S.wrong (b, (p : Int)) = none) → N = 0) ∧ sRead S T leb = (⟨0, d, N⟩, T) := by
  obtain ⟨N0, h1, h2, _⟩ := Chip.page_of hg hu hb hm hf hH (p := 0) (Nat.zero_le _)
  have h2' : S.dRead b 0 = ⟨0, headB S.g h, N0⟩ := h2
  obtain ⟨N, h3, h4⟩ := Chip.rd_holds hg hu hb hm hf hH N0 (S.pgs h) (Nat.le_refl _)
  have hpb := Chip.pgs_bd hg hH.may
  refine ⟨N, fun hw => h3 hw (h1 (hw 0)), ?_⟩
  have hpp : parseF S.g (headB S.g h) = some h := parse_headB hH.may hg
  have e1 : parseE S.g (headB S.g h) = 0 := by unfold parseE; rw [hpp]
  have e2 : parseH S.g (headB S.g h) = h := by unfold parseH; rw [hpp]; rfl
  unfold sRead
  rw [hr, if_neg (fun h => h rfl), ha, if_neg (by omega), h2', if_neg (fun h => h rfl)]
  dsimp only
  rw [e1, if_neg (fun h => h rfl), e2]
  rw [show (S.g.pagesOf h.len).toNat = S.pgs h from rfl, h4, if_neg (fun h => h rfl)]
  dsimp only
  have h6 := (catTo_take (h := h) (d := d) hg (S.pgs h)).2
  rw [hH.len, Int.toNat_natCast, h6, List.take_of_length_le]
  have hr := Geo.room_bd hg
  have h7 : ((S.pgs h * S.g.room.toNat : Nat) : Int) = (S.pgs h : Int) * S.g.room := by rw [Int.natCast_mul]; congr 1; omega
  have h8 := hpb.2.2.1
  rw [hH.len, ← h7] at h8
  omega
end Go.Proofs.YtohkefolnmcjnaaGreat
namespace Go.Proofs.YtohkefolnmcjnaaGreat
open Go.Sl Go.RowKit
set_option linter.unusedVariables false
set_option linter.unusedSimpArgs false
set_option maxRecDepth 20000
theorem n72_70 : (72 : Int) ≠ 70 := by decide
theorem n70_72 : (70 : Int) ≠ 72 := by decide
theorem n0_72 : (0 : Int) ≠ 72 := by decide
theorem n0_70 : (0 : Int) ≠ 70 := by decide
namespace Chip
structure Rest (b : Int) (S S' : Chip) : Prop where
  g : S'.g = S.g
  len : S'.next.length = S.next.length
  pages : ∀ k : Int × Int, k.1 ≠ b → S'.pages k = S.pages k
  wrong : ∀ k : Int × Int, k.1 ≠ b → S'.wrong k = S.wrong k
  marked : ∀ c, c ≠ b → S'.marked c = S.marked c
  weak : S'.weak = S.weak
theorem Rest.refl (b : Int) (S : Chip) : Rest b S S := ⟨rfl, rfl, fun _ _ => rfl, fun _ _ => rfl, fun _ _ => rfl, rfl⟩
theorem Rest.trans {b : Int} {S T U : Chip} (h : Rest b S T) (h' : Rest b T U) : Rest b S U :=
  ⟨h'.g.trans h.g, h'.len.trans h.len, fun k hk => (h'.pages k hk).trans (h.pages k hk), fun k hk => (h'.wrong k hk).trans (h.wrong k hk), fun c hc => (h'.marked c hc).trans (h.marked c hc), h'.weak.trans h.weak⟩
def mk1 (S : Chip) (b : Int) : Chip := { S with marked := fun k => if k = b then true else S.marked k }
theorem deed_up {S : Chip} (hc : S.cut = false) : S.deed.up = S.up := by unfold deed; rw [hc]; cases S.up <;> rfl
theorem deed_down {S : Chip} (hc : S.cut = true) : S.deed.up = false := by unfold deed; rw [hc]; cases S.up <;> rfl
theorem cut_left {S : Chip} (h : S.left = 0) : S.cut = false := by unfold cut; rw [h]; rfl
theorem fail_out {S : Chip} {b : Int} (hu : S.up = true) (hb : 0 ≤ b ∧ b < S.g.bl) :
    (S.cut = false ∧ done b (S, 72) = (S.deed.mk1 b, 72)) ∨ (S.cut = true ∧ (done b (S, 72) = (S.deed.mk1 b, 70) ∨ done b (S, 72) = (S.deed, 70))) := by
  have e1 : S.mark b = S.all fun T => { T with marked := fun k => if k = b then true else T.marked k } := by
    unfold mark
    rw [if_neg (by rw [hu]; decide), if_neg (by rw [block_ok hb]; decide)]
  have e2 : done b (S, 72) = if (S.mark b).2 ≠ 0 then S.mark b else ((S.mark b).1, 72) := by
    unfold done
    rw [if_neg (fun h => h rfl)]
  rw [e2, e1]
  unfold all after
  cases hc : S.cut with
  | false => exact .inl ⟨rfl, rfl⟩
  | true =>
    refine .inr ⟨rfl, ?_⟩
    by_cases hk : 0 < S.keep
    · rw [decide_eq_true hk]; exact .inl rfl
    · rw [decide_eq_false hk]; exact .inr rfl
section
variable {S : Chip} {b : Int}
theorem Rest.deed (S : Chip) (b : Int) : Rest b S S.deed := ⟨rfl, rfl, fun _ _ => rfl, fun _ _ => rfl, fun _ _ => rfl, rfl⟩
theorem Rest.mk1 (S : Chip) (b : Int) : Rest b S (S.mk1 b) := ⟨rfl, rfl, fun _ _ => rfl, fun _ _ => rfl, fun c hc => if_neg hc, rfl⟩
theorem mk1_marked : (S.mk1 b).marked b = true := if_pos rfl
def Fails (b : Int) (S : Chip) (X : Chip × Int) : Prop :=
  (X.2 = 72 ∧ X.1.up = true ∧ X.1.marked b = true) ∨ (X.2 = 70 ∧ X.1.up = false ∧ (X.1.marked b = true ∨ X.1.marked b = S.marked b ∧ X.1.pages = S.pages ∧ X.1.wrong = S.wrong))
theorem fail_all (hu : S.up = true) (hc : S.cut = false) (hb : 0 ≤ b ∧ b < S.g.bl) : Rest b S (done b (S.deed, 72)).1 ∧ Fails b S (done b (S.deed, 72)) ∧ (S.left = 0 → (done b (S.deed, 72)).1.left = 0 ∧ (done b (S.deed, 72)).2 ≠ 70) := by
  have hu1 : S.deed.up = true := by rw [deed_up hc]; exact hu
  rcases fail_out (S := S.deed) hu1 hb with ⟨c1, e1⟩ | ⟨c1, e1 | e1⟩
  · rw [e1]
    refine ⟨(Rest.deed S b).trans ((Rest.deed _ b).trans (Rest.mk1 _ b)), .inl ⟨rfl, by show S.deed.deed.up = true; rw [deed_up c1]; exact hu1, mk1_marked⟩, fun h0 => ⟨?_, n72_70⟩⟩
    show S.deed.deed.left = 0
    rw [deed_same h0, deed_same h0]; exact h0
  · rw [e1]
    refine ⟨(Rest.deed S b).trans ((Rest.deed _ b).trans (Rest.mk1 _ b)), .inr ⟨rfl, by show S.deed.deed.up = false; exact deed_down c1, .inl mk1_marked⟩, fun h0 => ?_⟩
    rw [deed_same h0, cut_left h0] at c1; cases c1
  · rw [e1]
    refine ⟨(Rest.deed S b).trans (Rest.deed _ b), .inr ⟨rfl, by show S.deed.deed.up = false; exact deed_down c1, .inr ⟨rfl, rfl, rfl⟩⟩, fun h0 => ?_⟩
    rw [deed_same h0, cut_left h0] at c1; cases c1
theorem dErase_out (hu : S.up = true) (hb : 0 ≤ b ∧ b < S.g.bl) (hpg : 0 < S.g.pg) (hm : S.marked b = false) (hn : (S.next.length : Int) = S.g.bl) : Rest b S (S.dErase b).1 ∧ (S.left = 0 → (S.dErase b).1.left = 0 ∧ (S.dErase b).2 ≠ 70) ∧ (S.weak b = false → (S.dErase b).2 ≠ 72) ∧
    (((S.dErase b).2 = 0 ∧ (S.dErase b).1.up = true ∧ (S.dErase b).1.marked b = false ∧ (S.dErase b).1.nextOf b = 0 ∧ ∀ p, 0 ≤ p → p < S.g.pg → (S.dErase b).1.pages (b, p) = none ∧ (S.dErase b).1.wrong (b, p) = none) ∨
     Fails b S (S.dErase b) ∨
     ((S.dErase b).2 = 70 ∧ (S.dErase b).1.up = false ∧ (S.dErase b).1.marked b = false ∧ (∃ n, (S.dErase b).1.pages = dropTo S.pages b n ∧ (S.dErase b).1.wrong = dropTo S.wrong b n))) := by
  have e0 : S.dErase b = done b (S.erase b) := by
    unfold dErase
    rw [if_neg (by rw [ahead_ok hu ⟨hb.1, hb.2, Int.le_refl _, hpg⟩ hm]; decide)]
  have hdr : ∀ {α : Type} (f : Int × Int → Option α) (n : Int) (k : Int × Int), k.1 ≠ b → dropTo f b n k = f k := fun f n k hk => if_neg fun h => hk h.1
  cases hc : S.cut with
  | true =>
    have e1 : S.erase b = ({ S.deed with pages := dropTo S.pages b (S.kept S.g.pg), wrong := dropTo S.wrong b (S.kept S.g.pg) }, 70) := by
      unfold erase
      rw [if_neg (by rw [hu]; decide), if_neg (by rw [block_ok hb]; decide), hc]; rfl
    have e2 : S.dErase b = S.erase b := by
      rw [e0]; unfold done; rw [if_pos (by rw [e1]; first | exact n70_72 | exact n0_72)]
    rw [e2, e1]
    refine ⟨⟨rfl, rfl, fun k hk => hdr _ _ k hk, fun k hk => hdr _ _ k hk, fun _ _ => rfl, rfl⟩, fun h0 => ?_, fun _ => n70_72, .inr (.inr ⟨rfl, deed_down hc, hm, _, rfl, rfl⟩)⟩
    rw [cut_left h0] at hc; cases hc
  | false =>
    cases hw : S.weak b with
    | true =>
      have e1 : S.erase b = (S.deed, 72) := by
        unfold erase
        rw [if_neg (by rw [hu]; decide), if_neg (by rw [block_ok hb]; decide), hc, if_neg Bool.false_ne_true, hw, if_pos rfl]
      rw [e0, e1]
      obtain ⟨h1, h2, h3⟩ := fail_all hu hc hb
      exact ⟨h1, h3, fun h => (by cases h), .inr (.inl h2)⟩
    | false =>
      have e1 : S.erase b = ({ S.deed with pages := dropTo S.pages b S.g.pg, wrong := dropTo S.wrong b S.g.pg, next := S.setNext b 0 }, 0) := by
        unfold erase
        rw [if_neg (by rw [hu]; decide), if_neg (by rw [block_ok hb]; decide), hc, if_neg Bool.false_ne_true, hw, if_neg Bool.false_ne_true]; rfl
      have e2 : S.dErase b = S.erase b := by
        rw [e0]; unfold done; rw [if_pos (by rw [e1]; first | exact n70_72 | exact n0_72)]
      rw [e2, e1]
      refine ⟨⟨rfl, by show (S.next.set _ _).length = _; rw [List.length_set], fun k hk => hdr _ _ k hk, fun k hk => hdr _ _ k hk, fun _ _ => rfl, rfl⟩, fun h0 => ⟨?_, n0_70⟩, fun _ => n0_72, .inl ⟨rfl, by show S.deed.up = true; rw [deed_up hc]; exact hu, hm, ?_, fun p h1 h2 => ⟨if_pos ⟨rfl, h1, h2⟩, if_pos ⟨rfl, h1, h2⟩⟩⟩⟩
      · show S.deed.left = 0
        rw [deed_same h0]; exact h0
      · show (S.next.set b.toNat 0).getD b.toNat 0 = 0
        simp only [List.getD, List.getElem?_set_self (show b.toNat < S.next.length by omega), Option.getD_some]
theorem dWrite_out {p : Int} {d : List Nat} (hg : S.g.mays) (hu : S.up = true) (h : 0 ≤ b ∧ b < S.g.bl ∧ 0 ≤ p ∧ p < S.g.pg) (hm : S.marked b = false) (h8 : Small 256 d) (hl : d.length = S.room) (hn : S.nextOf b = p) (hln : (S.next.length : Int) = S.g.bl) :
    Rest b S (S.dWrite b p d).1 ∧ (S.left = 0 → (S.dWrite b p d).1.left = 0 ∧ (S.dWrite b p d).2 ≠ 70) ∧ (S.weak b = false → (S.dWrite b p d).2 ≠ 72) ∧
    (((S.dWrite b p d).2 = 0 ∧ (S.dWrite b p d).1.up = true ∧ (S.dWrite b p d).1.marked b = false ∧ (S.dWrite b p d).1.nextOf b = p + 1 ∧ (S.dWrite b p d).1.wrong = S.wrong ∧ (S.dWrite b p d).1.pages = upds S.pages (b, p) (some (intsOf (packG S.g d)))) ∨
     Fails b S (S.dWrite b p d) ∨
     ((S.dWrite b p d).2 = 70 ∧ (S.dWrite b p d).1.up = false ∧ (S.dWrite b p d).1.marked b = false ∧ (S.dWrite b p d).1.wrong = S.wrong ∧ ∃ xs, (S.dWrite b p d).1.pages = upds S.pages (b, p) (some xs) ∧
       (xs = intsOf (packG S.g d) ∨ ∃ ys, xs = intsOf ys ∧ ys.getD (S.g.se.toNat * S.g.sect) 0 = 255))) := by
  have e0 : S.dWrite b p d = done b (S.program b p (intsOf (packG S.g d))) := dWrite_prog hu h hm hl
  have hpl := pack_len hg h8 hl
  have hup : ∀ {α : Type} (f : Int × Int → Option α) (v : Option α) (k : Int × Int), k.1 ≠ b → upds f (b, p) v k = f k := fun f v k hk => if_neg fun e => hk (by rw [e])
  cases hc : S.cut with
  | true =>
    have e1 : S.program b p (intsOf (packG S.g d)) = ({ S.deed with pages := upds S.pages (b, p) (some ((intsOf (packG S.g d)).take (S.kept (intsOf (packG S.g d)).length).toNat ++ S.blank.drop (S.kept (intsOf (packG S.g d)).length).toNat)), next := S.setNext b (p + 1) }, 70) := by
      unfold program
      rw [if_neg (by rw [hu]; decide), if_neg (by rw [page_ok h]; rintro (h | h); cases h; exact h hpl), if_neg (fun h => h hn.symm), hc]; rfl
    have e2 : S.dWrite b p d = S.program b p (intsOf (packG S.g d)) := by
      rw [e0]; unfold done; rw [if_pos (by rw [e1]; first | exact n70_72 | exact n0_72)]
    rw [e2, e1]
    refine ⟨⟨rfl, by show (S.next.set _ _).length = _; rw [List.length_set], fun k hk => hup _ _ k hk, fun k hk => rfl, fun _ _ => rfl, rfl⟩, fun h0 => ?_, fun _ => n70_72, .inr (.inr ⟨rfl, deed_down hc, hm, rfl, _, rfl, ?_⟩)⟩
    · rw [cut_left h0] at hc; cases hc
    · obtain ⟨k, hk⟩ : ∃ k, k = (S.kept (intsOf (packG S.g d)).length).toNat := ⟨_, rfl⟩
      rw [← hk]
      have hkl : k ≤ (intsOf (packG S.g d)).length := by rw [hk]; unfold kept; omega
      have hbl : S.blank = intsOf (List.replicate S.g.raw.toNat 255) := by unfold blank intsOf raw; rw [List.map_replicate]; rfl
      have hrw := raw_sect hg
      have hraw : (intsOf (packG S.g d)).length = S.g.se.toNat * S.g.sect + 1 := by
        have h1 : ((intsOf (packG S.g d)).length : Int) = S.g.raw := hpl
        omega
      by_cases hke : k = (intsOf (packG S.g d)).length
      · refine .inl ?_
        rw [hke, List.take_of_length_le (Nat.le_refl _), hbl, List.drop_eq_nil_of_le, List.append_nil]
        unfold intsOf
        rw [List.length_map, List.length_replicate]
        unfold intsOf at hraw
        rw [hraw, hrw, Int.toNat_natCast]; exact Nat.le_refl _
      · refine .inr ⟨(packG S.g d).take k ++ (List.replicate S.g.raw.toNat 255).drop k, ?_, ?_⟩
        · rw [hbl]
          unfold intsOf
          rw [List.map_append, List.map_take, List.map_drop]
        · have hpk : (packG S.g d).length = S.g.se.toNat * S.g.sect + 1 := by unfold intsOf at hraw; rw [List.length_map] at hraw; exact hraw
          have hkl2 : k < S.g.se.toNat * S.g.sect + 1 := by
            unfold intsOf at hkl hke
            rw [List.length_map] at hkl hke
            omega
          simp only [List.getD]
          rw [List.getElem?_append_right (by rw [List.length_take]; omega), List.length_take, List.getElem?_drop, hrw, Int.toNat_natCast, List.getElem?_replicate, if_pos (by omega)]
          rfl
  | false =>
    cases hw : S.weak b with
    | true =>
      have e1 : S.program b p (intsOf (packG S.g d)) = (S.deed, 72) := by
        unfold program
        rw [if_neg (by rw [hu]; decide), if_neg (by rw [page_ok h]; rintro (h | h); cases h; exact h hpl), if_neg (fun h => h hn.symm), hc, if_neg Bool.false_ne_true, hw, if_pos rfl]
      rw [e0, e1]
      obtain ⟨h1, h2, h3⟩ := fail_all hu hc ⟨h.1, h.2.1⟩
      exact ⟨h1, h3, fun h => (by cases h), .inr (.inl h2)⟩
    | false =>
      have e1 : S.program b p (intsOf (packG S.g d)) = ({ S.deed with pages := upds S.pages (b, p) (some (intsOf (packG S.g d))), next := S.setNext b (p + 1) }, 0) := by
        unfold program
        rw [if_neg (by rw [hu]; decide), if_neg (by rw [page_ok h]; rintro (h | h); cases h; exact h hpl), if_neg (fun h => h hn.symm), hc, if_neg Bool.false_ne_true, hw, if_neg Bool.false_ne_true]; rfl
      have e2 : S.dWrite b p d = S.program b p (intsOf (packG S.g d)) := by
        rw [e0]; unfold done; rw [if_pos (by rw [e1]; first | exact n70_72 | exact n0_72)]
      rw [e2, e1]
      refine ⟨⟨rfl, by show (S.next.set _ _).length = _; rw [List.length_set], fun k hk => hup _ _ k hk, fun k hk => rfl, fun _ _ => rfl, rfl⟩, fun h0 => ⟨?_, n0_70⟩, fun _ => n0_72, .inl ⟨rfl, by show S.deed.up = true; rw [deed_up hc]; exact hu, hm, ?_, rfl, rfl⟩⟩
      · show S.deed.left = 0
        rw [deed_same h0]; exact h0
      · show (S.next.set b.toNat (p + 1)).getD b.toNat 0 = p + 1
        simp only [List.getD, List.getElem?_set_self (show b.toNat < S.next.length by omega), Option.getD_some]
end
end Chip
end Go.Proofs.YtohkefolnmcjnaaGreat
namespace Go.Proofs.YtohkefolnmcjnaaGreat
open Go.Sl Go.RowKit
set_option linter.unusedVariables false
set_option linter.unusedSimpArgs false
set_option maxRecDepth 20000
namespace Chip
def Wr (S S' : Chip) : Prop := ∀ k, S'.wrong k = none ∨ S'.wrong k = S.wrong k
theorem Wr.refl (S : Chip) : Wr S S := fun _ => .inr rfl
theorem Wr.of {S S' : Chip} (h : S'.wrong = S.wrong) : Wr S S' := fun k => .inr (by rw [h])
theorem Wr.trans {S T U : Chip} (h : Wr S T) (h' : Wr T U) : Wr S U := fun k => by
  rcases h' k with e | e
  · exact .inl e
  · rw [e]; exact h k
theorem Wr.few {S S' : Chip} (h : Wr S S') (hg : S'.g = S.g) (hf : ∀ k, S.Few k) : ∀ k, S'.Few k := fun k w hw => by
  rcases h k with e | e
  · rw [e] at hw; cases hw
  · rw [e] at hw
    have := hf k w hw
    rw [hg]; exact this
theorem Wr.none {S S' : Chip} (h : Wr S S') (hf : ∀ k, S.wrong k = none) : ∀ k, S'.wrong k = none := fun k => by
  rcases h k with e | e
  · exact e
  · rw [e]; exact hf k
theorem Wr.drop {S S' : Chip} {b n : Int} (h : S'.wrong = dropTo S.wrong b n) : Wr S S' := fun k => by
  rw [h]; unfold dropTo
  split
  · exact .inl rfl
  · exact .inr rfl
def Same (b : Int) (S S' : Chip) : Prop := S'.pages = S.pages ∧ S'.wrong = S.wrong
def Upto (S : Chip) (b : Int) (pg : Nat → List Nat) (N j : Nat) : Prop := j ≤ N + 1 ∧ (∀ p : Nat, p < j → S.pages (b, (p : Int)) = some (intsOf (packG S.g (pg p)))) ∧ (j ≤ N → S.Torn (b, (j : Int)))
theorem torn_none {S : Chip} {k : Int × Int} (h : S.pages k = none) : S.Torn k := fun xs hx => by rw [h] at hx; cases hx
theorem erase_wr {S : Chip} {b : Int} : Wr S (S.dErase b).1 := by
  have e1 : ∀ x : Chip × Int, Wr S x.1 → Wr S (done b x).1 := fun x hx => by
    have hm : (x.1.mark b).1.wrong = x.1.wrong := by
      unfold mark
      split
      · rfl
      · split
        · rfl
        · unfold all
          dsimp only
          split <;> rfl
    unfold done
    split
    · exact hx
    · split
      · exact hx.trans (Wr.of hm)
      · exact hx.trans (Wr.of hm)
  unfold dErase
  split
  · exact Wr.refl S
  · refine e1 _ ?_
    unfold erase
    split
    · exact Wr.refl S
    · split
      · exact Wr.refl S
      · dsimp only
        split
        · exact Wr.drop rfl
        · split
          · exact Wr.refl S
          · exact Wr.drop rfl
theorem write_wr {S : Chip} {b p : Int} {d : List Nat} : Wr S (S.dWrite b p d).1 := by
  have hm : ∀ T : Chip, (T.mark b).1.wrong = T.wrong := fun T => by
    unfold mark
    split
    · rfl
    · split
      · rfl
      · unfold all
        dsimp only
        split <;> rfl
  have e1 : ∀ x : Chip × Int, Wr S x.1 → Wr S (done b x).1 := fun x hx => by
    unfold done
    split
    · exact hx
    · split
      · exact hx.trans (Wr.of (hm _))
      · exact hx.trans (Wr.of (hm _))
  unfold dWrite
  split
  · exact Wr.refl S
  · refine e1 _ (Wr.of ?_)
    unfold program
    split
    · rfl
    · split
      · rfl
      · split
        · rfl
        · dsimp only
          split
          · rfl
          · split <;> rfl
section
variable {S : Chip} {b : Int}
theorem wr_out {pg : Nat → List Nat} (hg : S.g.mays) (hu : S.up = true) (hb : 0 ≤ b ∧ b < S.g.bl) (hm : S.marked b = false) (h8 : ∀ p, Small 256 (pg p)) (hl : ∀ p, (pg p).length = S.room) (hn : S.nextOf b = 0) (hln : (S.next.length : Int) = S.g.bl)
    {N : Nat} (hN : (N : Int) < S.g.pg) (h0 : ∀ p, 0 ≤ p → p < S.g.pg → S.pages (b, p) = none) : ∀ k, k ≤ N + 1 → Rest b S (wrTo S b pg k).1 ∧ Wr S (wrTo S b pg k).1 ∧ (S.left = 0 → (wrTo S b pg k).1.left = 0 ∧ (wrTo S b pg k).2 ≠ 70) ∧ (S.weak b = false → (wrTo S b pg k).2 ≠ 72) ∧
    (((wrTo S b pg k).2 = 0 ∧ (wrTo S b pg k).1.up = true ∧ (wrTo S b pg k).1.marked b = false ∧ (wrTo S b pg k).1.nextOf b = (k : Int) ∧ (∀ p : Nat, p < k → (wrTo S b pg k).1.pages (b, (p : Int)) = some (intsOf (packG S.g (pg p)))) ∧ (∀ p : Int, (k : Int) ≤ p → p < S.g.pg → (wrTo S b pg k).1.pages (b, p) = none)) ∨
     ((wrTo S b pg k).2 = 72 ∧ (wrTo S b pg k).1.up = true ∧ (wrTo S b pg k).1.marked b = true) ∨
     ((wrTo S b pg k).2 = 70 ∧ (wrTo S b pg k).1.up = false ∧ ((wrTo S b pg k).1.marked b = true ∨ (wrTo S b pg k).1.marked b = false ∧ ∃ j, (wrTo S b pg k).1.Upto b pg N j)))
  | 0, _ => ⟨Rest.refl b S, Wr.refl S, fun h => ⟨h, n0_70⟩, fun _ => n0_72, .inl ⟨rfl, hu, hm, hn, fun p hp => absurd hp (Nat.not_lt_zero _), fun p h1 h2 => h0 p h1 h2⟩⟩
  | k + 1, hk => by
    obtain ⟨r1, r2, r3, r4, r5⟩ := wr_out hg hu hb hm h8 hl hn hln hN h0 k (by omega)
    by_cases he : (wrTo S b pg k).2 = 0
    · obtain ⟨Y, hY⟩ : ∃ Y, Y = (wrTo S b pg k).1 := ⟨_, rfl⟩
      have est : wrTo S b pg (k + 1) = Y.dWrite b k (pg k) := by rw [wrTo, if_neg (fun h => h he), ← hY]
      rw [← hY] at r1 r2 r3 r5
      have q5 : Y.up = true ∧ Y.marked b = false ∧ Y.nextOf b = (k : Int) ∧ (∀ p : Nat, p < k → Y.pages (b, (p : Int)) = some (intsOf (packG S.g (pg p)))) ∧ (∀ p : Int, (k : Int) ≤ p → p < S.g.pg → Y.pages (b, p) = none) := by
        rcases r5 with h | h | h
        · exact h.2
        · rw [he] at h; exact absurd h.1.symm (by decide)
        · rw [he] at h; exact absurd h.1.symm (by decide)
      obtain ⟨u1, u2, u3, u4, u5⟩ := q5
      have hroom : (pg k).length = Y.room := by rw [hl]; unfold room; rw [r1.g]
      obtain ⟨w1, w2, w3, w4⟩ := dWrite_out (S := Y) (b := b) (p := (k : Int)) (d := pg k) (by rw [r1.g]; exact hg) u1 (by rw [r1.g]; omega) u2 (h8 k) hroom u3 (by rw [r1.len, r1.g]; exact hln)
      rw [est]
      have hpk : packG Y.g (pg k) = packG S.g (pg k) := by rw [r1.g]
      have ho : ∀ (f : Int × Int → Option (List Int)) (v : Option (List Int)) (p : Int), p ≠ k → upds f (b, (k : Int)) v (b, p) = f (b, p) := fun f v p hp => if_neg fun e => hp (by injection e)
      have hh : ∀ (f : Int × Int → Option (List Int)) (v : Option (List Int)), upds f (b, (k : Int)) v (b, (k : Int)) = v := fun f v => if_pos rfl
      refine ⟨r1.trans w1, r2.trans write_wr, fun h => w2 (r3 h).1, fun h => w3 (by rw [r1.weak]; exact h), ?_⟩
      rcases w4 with ⟨a1, a2, a3, a4, _, a6⟩ | (⟨a1, a2, a3⟩ | ⟨a1, a2, a3⟩) | ⟨a1, a2, a3, _, xs, a5, a6⟩
      · refine .inl ⟨a1, a2, a3, by rw [a4]; omega, fun p hp => ?_, fun p h1 h2 => ?_⟩
        · rw [a6]
          by_cases hpk2 : p = k
          · subst hpk2; first | rw [hh, hpk] | rw [hh]
          · rw [ho _ _ _ (by omega)]; exact u4 p (by omega)
        · rw [a6, ho _ _ _ (by omega)]; exact u5 p (by omega) h2
      · exact .inr (.inl ⟨a1, a2, a3⟩)
      · refine .inr (.inr ⟨a1, a2, ?_⟩)
        rcases a3 with a3 | ⟨a3, a4, _⟩
        · exact .inl a3
        · refine .inr ⟨by rw [a3]; exact u2, k, by omega, fun p hp => ?_, fun _ => torn_none ?_⟩
          · rw [a4, w1.g, r1.g]; exact u4 p hp
          · rw [a4]; exact u5 _ (Int.le_refl _) (by omega)
      · refine .inr (.inr ⟨a1, a2, .inr ⟨a3, ?_⟩⟩)
        rcases a6 with rfl | ⟨ys, rfl, hy⟩
        · refine ⟨k + 1, by omega, fun p hp => ?_, fun hkN => torn_none ?_⟩
          · rw [a5, w1.g, r1.g]
            by_cases hpk2 : p = k
            · subst hpk2; first | rw [hh, hpk] | rw [hh]
            · rw [ho _ _ _ (by omega)]; exact u4 p (by omega)
          · rw [a5, ho _ _ _ (by omega)]; exact u5 _ (by omega) (by omega)
        · refine ⟨k, by omega, fun p hp => ?_, fun _ xs hx => ?_⟩
          · rw [a5, w1.g, r1.g, ho _ _ _ (by omega)]; exact u4 p hp
          · rw [a5, hh] at hx
            injection hx with hx
            exact ⟨ys, hx.symm, by rw [w1.g]; exact hy⟩
    · have est : wrTo S b pg (k + 1) = wrTo S b pg k := by rw [wrTo, if_pos he]
      rw [est]
      refine ⟨r1, r2, r3, r4, ?_⟩
      rcases r5 with h | h | h
      · exact absurd h.1 he
      · exact .inr (.inl h)
      · exact .inr (.inr h)
theorem upto_stat {h : Hd} {d : List Nat} (hmy : h.may S.g = true) (hl : h.len = (d.length : Nat)) (h8 : Small 256 d) {j : Nat} (hj : S.Upto b (pgOf S.g h d) (S.pgs h) j) : S.Torn (b, 0) ∨ S.Part b h ∨ S.Holds b h d := by
  obtain ⟨h1, h2, h3⟩ := hj
  rcases Nat.eq_zero_or_pos j with rfl | h0
  · exact .inl (h3 (Nat.zero_le _))
  · by_cases hN : j ≤ S.pgs h
    · exact .inr (.inl ⟨hmy, h2 0 h0, j, hN, h3 hN⟩)
    · exact .inr (.inr ⟨hmy, hl, h8, fun p hp => h2 p (by omega)⟩)
theorem sWrite_out {num leb : Int} {d : List Nat} (hg : S.g.mays) (hu : S.up = true) (hb : 0 ≤ b ∧ b < S.g.bl) (hm : S.marked b = false) (hln : (S.next.length : Int) = S.g.bl) (h8 : Small 256 d) (hmy : Hd.may S.g ⟨leb, (d.length : Nat), num⟩ = true) :
    Rest b S (sWrite S num b leb d).1 ∧ Wr S (sWrite S num b leb d).1 ∧ (S.left = 0 → (sWrite S num b leb d).1.left = 0 ∧ (sWrite S num b leb d).2 ≠ 70) ∧ (S.weak b = false → (sWrite S num b leb d).2 ≠ 72) ∧
    (((sWrite S num b leb d).2 = 0 ∧ (sWrite S num b leb d).1.up = true ∧ (sWrite S num b leb d).1.marked b = false ∧ (sWrite S num b leb d).1.Holds b ⟨leb, (d.length : Nat), num⟩ d) ∨
     ((sWrite S num b leb d).2 = 72 ∧ (sWrite S num b leb d).1.up = true ∧ (sWrite S num b leb d).1.marked b = true) ∨
     ((sWrite S num b leb d).2 = 70 ∧ (sWrite S num b leb d).1.up = false ∧ ((sWrite S num b leb d).1.marked b = true ∨ (sWrite S num b leb d).1.marked b = false ∧
       (Same b S (sWrite S num b leb d).1 ∨ (sWrite S num b leb d).1.Torn (b, 0) ∨ (sWrite S num b leb d).1.Part b ⟨leb, (d.length : Nat), num⟩ ∨ (sWrite S num b leb d).1.Holds b ⟨leb, (d.length : Nat), num⟩ d)))) := by
  have hgb := hg
  unfold Geo.mays at hgb
  obtain ⟨e1, e2, e3, e4⟩ := dErase_out hu hb (by omega) hm hln
  obtain ⟨h, hh⟩ : ∃ h : Hd, h = ⟨leb, (d.length : Nat), num⟩ := ⟨_, rfl⟩
  rw [← hh] at hmy ⊢
  have hpb := pgs_bd hg hmy
  by_cases he : (S.dErase b).2 = 0
  · obtain ⟨T, hT⟩ : ∃ T, T = (S.dErase b).1 := ⟨_, rfl⟩
    have est : sWrite S num b leb d = wrTo T b (pgOf S.g h d) (S.pgs h + 1) := by
      unfold sWrite
      rw [if_neg (fun h => h he), ← hT, ← hh]
      unfold pgs
      rw [hh]
    have hwr := erase_wr (S := S) (b := b)
    rw [← hT] at e1 e2 e4 hwr
    have q4 : T.up = true ∧ T.marked b = false ∧ T.nextOf b = 0 ∧ ∀ p, 0 ≤ p → p < S.g.pg → T.pages (b, p) = none ∧ T.wrong (b, p) = none := by
      rcases e4 with h | (h | h) | h
      · exact h.2
      · rw [he] at h; exact absurd h.1.symm (by decide)
      · rw [he] at h; exact absurd h.1.symm (by decide)
      · rw [he] at h; exact absurd h.1.symm (by decide)
    obtain ⟨u1, u2, u3, u4⟩ := q4
    obtain ⟨w1, w2, w3, w4, w5⟩ := wr_out (S := T) (b := b) (pg := pgOf S.g h d) (by rw [e1.g]; exact hg) u1 (by rw [e1.g]; exact hb) u2 (fun p => pgOf_small h8 p) (fun p => by rw [pgOf_length hg]; unfold room; rw [e1.g]; exact (room_eq hg).symm) u3 (by rw [e1.len, e1.g]; exact hln)
      (N := S.pgs h) (by rw [e1.g]; omega) (fun p h1 h2 => (u4 p h1 (by rw [← e1.g]; exact h2)).1) (S.pgs h + 1) (Nat.le_refl _)
    rw [est]
    have hgg : (wrTo T b (pgOf S.g h d) (S.pgs h + 1)).1.g = S.g := (w1.g).trans e1.g
    have hst : ∀ j, (wrTo T b (pgOf S.g h d) (S.pgs h + 1)).1.Upto b (pgOf S.g h d) (S.pgs h) j → (wrTo T b (pgOf S.g h d) (S.pgs h + 1)).1.Torn (b, 0) ∨ (wrTo T b (pgOf S.g h d) (S.pgs h + 1)).1.Part b h ∨ (wrTo T b (pgOf S.g h d) (S.pgs h + 1)).1.Holds b h d := fun j hj => by
      refine upto_stat (by rw [hgg]; exact hmy) (by rw [hh]) h8 (j := j) ?_
      have hp2 : (wrTo T b (pgOf S.g h d) (S.pgs h + 1)).1.pgs h = S.pgs h := by
        show ((wrTo T b (pgOf S.g h d) (S.pgs h + 1)).1.g.pagesOf h.len).toNat = (S.g.pagesOf h.len).toNat
        rw [hgg]
      rw [hp2, hgg]
      exact hj
    refine ⟨e1.trans w1, hwr.trans w2, fun h0 => w3 (e2 h0).1, fun hw => w4 (by rw [e1.weak]; exact hw), ?_⟩
    rcases w5 with ⟨a1, a2, a3, a4, a5, a6⟩ | a | ⟨a1, a2, a3⟩
    · refine .inl ⟨a1, a2, a3, ⟨by rw [hgg]; exact hmy, by rw [hh], h8, fun p hp => ?_⟩⟩
      have hp2 : (wrTo T b (pgOf S.g h d) (S.pgs h + 1)).1.pgs h = S.pgs h := by
        show ((wrTo T b (pgOf S.g h d) (S.pgs h + 1)).1.g.pagesOf h.len).toNat = (S.g.pagesOf h.len).toNat
        rw [hgg]
      rw [hp2] at hp
      rw [a5 p (by omega), hgg, e1.g]
    · exact .inr (.inl a)
    · refine .inr (.inr ⟨a1, a2, ?_⟩)
      rcases a3 with a3 | ⟨a3, j, hj⟩
      · exact .inl a3
      · exact .inr ⟨a3, .inr (hst j hj)⟩
  · have est : sWrite S num b leb d = S.dErase b := by unfold sWrite; rw [if_pos he]
    rw [est]
    refine ⟨e1, erase_wr, e2, e3, ?_⟩
    rcases e4 with h | (h | ⟨a1, a2, a3⟩) | ⟨a1, a2, a3, n, a4, a5⟩
    · exact absurd h.1 he
    · exact .inr (.inl h)
    · refine .inr (.inr ⟨a1, a2, ?_⟩)
      rcases a3 with a3 | ⟨a3, a4, a5⟩
      · exact .inl a3
      · exact .inr ⟨by rw [a3]; exact hm, .inl ⟨a4, a5⟩⟩
    · refine .inr (.inr ⟨a1, a2, .inr ⟨a3, ?_⟩⟩)
      by_cases hn : 0 < n
      · exact .inr (.inl (torn_none (by rw [a4]; exact if_pos ⟨rfl, Int.le_refl _, hn⟩)))
      · have hd : ∀ (f : Int × Int → Option (List Int)), dropTo f b n = f := fun f => by
          funext k
          unfold dropTo
          rw [if_neg (fun h => by omega)]
        exact .inl ⟨by rw [a4, hd], by rw [a5, hd]⟩
end
end Chip
end Go.Proofs.YtohkefolnmcjnaaGreat
