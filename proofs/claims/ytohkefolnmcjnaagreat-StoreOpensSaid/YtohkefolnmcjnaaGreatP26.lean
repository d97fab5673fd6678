import Derived.Test.YtohkefolnmcjnaaGreatP25
import Derived.Test.YtohkefolnmcjnaaGreatP18
/- store: Unmap. -/
namespace Go.Proofs.YtohkefolnmcjnaaGreat
open Go.Sl Go.RowKit
set_option linter.unusedVariables false
set_option linter.unusedSimpArgs false
set_option maxRecDepth 20000

def eraseL : List Int → Chip → Chip × Int
  | [], S => (S, 0)
  | x :: xs, S => if (S.dErase x).2 = 70 then S.dErase x else eraseL xs (S.dErase x).1
def St.drop (T : St) (leb : Int) : St := { T with stands := T.stands.set leb.toNat (-1), stale := T.stale.set leb.toNat [] }
def sUnmap (S : Chip) (T : St) (leb : Int) : Chip × St × Int :=
  if T.ready leb ≠ 0 then (S, T, T.ready leb)
  else if T.at' leb < 0 then (S, T, 0)
  else if (eraseL (T.stale.getD leb.toNat [] ++ [T.at' leb]) S).2 = 70 then ((eraseL (T.stale.getD leb.toNat [] ++ [T.at' leb]) S).1, T.told 70, 70)
  else ((eraseL (T.stale.getD leb.toNat [] ++ [T.at' leb]) S).1, T.drop leb, 0)
section
variable {bs bd bc : Nat} {g : Geo} {T : Stw} {C : Cw} {K : World} {F : List Assn}
theorem Stw.seqR {q : IRow} {i : Nat} (hq : T.irs[i]? = some q) : Seq K (T.A bs bd g :: F) q.A q.l.length 1 (ints .i64 q.l) :=
  Seq.inAll (A := AllA (T.irs.map IRow.row)) (l := Stw.parts bs bd g T) (.tail _ (.tail _ (.tail _ (.head _)))) (Seq.inAll (A := q.row) (List.mem_map.2 ⟨q, List.mem_of_getElem? hq, rfl⟩) (SlA.seq (by rw [ints_length, Nat.mul_one])))
theorem Stw.rdR {q : IRow} {i : Nat} (hq : T.irs[i]? = some q) : Rd K (T.A bs bd g :: F) (some ⟨T.b8, 0 + i * 1, none⟩) q.v :=
  Rd.inAll (A := Cells T.b8 42 (T.irs.map IRow.v)) (l := Stw.parts bs bd g T) (.tail _ (.tail _ (.head _))) (Rd.here (by rw [Nat.zero_add, Nat.mul_one, List.getElem?_map, hq]; rfl))
theorem store_Unmap (hC : C.Ok) (hg : C.g = g) (hT : T.Ok g) (leb : Int) (hlong : ∀ l ∈ T.sem.stale, l.length ≤ 100000) :
    Does Tryz.prog 32 #[ptr bs 0, .int .i64 leb] K (C.A bc :: DvA bd bc g :: T.A bs bd g :: F)
    (fun v H' => ∃ (C' : Cw) (T' : Stw), C'.Ok ∧ C'.g = g ∧ T'.Ok g ∧ C'.sem = (sUnmap C.sem T.sem leb).1 ∧ T'.sem = (sUnmap C.sem T.sem leb).2.1 ∧ v = .int .i64 (sUnmap C.sem T.sem leb).2.2 ∧ H' = C'.A bc :: DvA bd bc g :: T'.A bs bd g :: F) := by
  obtain ⟨R, hR⟩ : ∃ R, R = sUnmap C.sem T.sem leb := ⟨_, rfl⟩
  rw [← hR]
  unfold sUnmap at hR
  have hgm : g.mays := by rw [← hg]; exact hC.mays
  have hgb := hgm
  unfold Geo.mays at hgb
  have hlb := hT.lebs
  have hin : T.sem.ready leb = 0 → 0 ≤ leb ∧ leb < T.stands.length := fun h => by
    unfold St.ready Stw.sem at h
    dsimp only at h
    split at h
    · cases h
    · split at h
      · cases h
      · omega
  refine Does.enter Tryz.func32 rfl Tryz.ntmps32 rfl ?_
  simp only [env0, Nat.reduceAdd]
  refine WC.sr ?_
  refine WL.val (V.assign (OV.p rfl)) rfl ?_
  refine WL.nil ?_
  refine WC.seq ?_
  refine WC.sr ?_
  refine WL.val (V.move (OV.p rfl)) rfl ?_
  refine WL.val (V.move (OV.p rfl)) rfl ?_
  refine WL.sub (Sub.refl _) (fun w h => h.sel 3 [2, 0, 1] rfl) ?_
  refine WL.call (vs := [_, _]) Tryz.call88 ⟨OV.p rfl, OV.p rfl, trivial⟩ (store_ready leb) rfl ?_
  rintro _ _ ⟨rfl, rfl⟩
  refine WL.sub (Sub.refl _) (fun w h => h.sel 3 [1, 2, 0] rfl) ?_
  refine WL.val (V.assign (OV.p rfl)) rfl ?_
  refine WL.nil ?_
  refine WC.sr ?_
  refine WL.val (V.move (OV.p rfl)) rfl ?_
  refine WL.val (V.neq (OV.p rfl) (OV.p rfl)) rfl ?_
  refine WL.nil ?_
  refine WC.cond rfl (fun hc0 => ?_) (fun hc0 => ?_)
  ·simp only [Bool.not_eq_true', Bool.not_eq_false', decide_eq_true_eq, decide_eq_false_iff_not] at hc0
   have h0 := hc0
   rw [if_pos h0] at hR
   refine WC.sr ?_
   refine WL.val (V.move (OV.p rfl)) rfl ?_
   refine WL.val (V.assign (OV.p rfl)) rfl ?_
   refine WL.nil ?_
   refine WC.ret ?_
   subst hR
   exact BodyQ.ret (H' := C.A bc :: DvA bd bc g :: T.A bs bd g :: F) (Res.tmp rfl rfl) (fun w h => h) ⟨C, T, hC, hg, hT, rfl, rfl, rfl, rfl⟩
  ·simp only [Bool.not_eq_true', Bool.not_eq_false', decide_eq_true_eq, decide_eq_false_iff_not] at hc0
   have h0 := hc0
   have hr0 : T.sem.ready leb = 0 := by omega
   rw [if_neg (fun h => h hr0)] at hR
   have hinl := hin hr0
   obtain ⟨b, hb⟩ : ∃ b, b = T.sem.at' leb := ⟨_, rfl⟩
   rw [← hb] at hR
   have hrs : ∀ {X Y : Assn}, Rd K (X :: Y :: T.A bs bd g :: F) (T.sA.map (·.add (leb.toNat * 1))) (.int .i64 b) := fun {X Y} => by rw [hb]; exact Rd.up (Rd.up (Stw.rdS hinl))
   refine WC.skip ?_
   refine WC.sr ?_
   refine WL.val (V.move (OV.p rfl)) rfl ?_
   refine WL.val (V.nilCheck (OV.p rfl)) rfl ?_
   refine WL.val (V.fieldAddr fo126_2 (OV.p rfl)) rfl ?_
   refine WL.val (V.load Tryz.isAgg42 (OV.p rfl) (fun _ => Rd.up (Rd.up (Stw.rds 6 _ rfl)))) rfl ?_
   refine WL.val (V.move (OV.p rfl)) rfl ?_
   refine WL.val (V.idxS st42 (OV.p rfl) (OV.p rfl) (fun _ => hinl) (fun _ => hrs)) rfl ?_
   refine WL.val (V.load Tryz.isAgg3 (OV.p rfl) (fun _ => hrs)) rfl ?_
   refine WL.val (V.assign (OV.p rfl)) rfl ?_
   refine WL.nil ?_
   refine WC.seq ?_
   refine WC.sr ?_
   refine WL.val (V.move (OV.p rfl)) rfl ?_
   refine WL.val (V.lss (OV.p rfl) (OV.p rfl)) rfl ?_
   refine WL.nil ?_
   refine WC.cond rfl (fun hc1 => ?_) (fun hc1 => ?_)
   ·simp only [decide_eq_true_eq, decide_eq_false_iff_not] at hc1
    have h1 := hc1
    rw [if_pos h1] at hR
    refine WC.sr ?_
    refine WL.val (V.assign (OV.p rfl)) rfl ?_
    refine WL.nil ?_
    refine WC.ret ?_
    subst hR
    exact BodyQ.ret (H' := C.A bc :: DvA bd bc g :: T.A bs bd g :: F) (Res.tmp rfl rfl) (fun w h => h) ⟨C, T, hC, hg, hT, rfl, rfl, rfl, rfl⟩
   ·simp only [decide_eq_true_eq, decide_eq_false_iff_not] at hc1
    have h1 := hc1
    rw [if_neg h1] at hR
    have hil := hT.len
    obtain ⟨q, hq⟩ : ∃ q, q = T.irs[leb.toNat]'(by omega) := ⟨_, rfl⟩
    have hqg : T.irs[leb.toNat]? = some q := by rw [hq]; exact List.getElem?_eq_getElem (by omega)
    have hqb : q.l.length ≤ 100000 := hlong _ (List.mem_map.2 ⟨q, by rw [hq]; exact List.getElem_mem _, rfl⟩)
    have hqs : T.sem.stale.getD leb.toNat [] = q.l := by
      unfold Stw.sem
      simp only [List.getD, List.getElem?_map, hqg, Option.map_some, Option.getD_some]
    obtain ⟨xs, hxs⟩ : ∃ xs, xs = q.l ++ [b] := ⟨_, rfl⟩
    have hxl : xs.length = q.l.length + 1 := by rw [hxs, List.length_append]; rfl
    rw [hqs, ← hxs] at hR
    refine WC.skip ?_
    refine WC.seq ?_
    refine WC.sr ?_
    refine WL.val (V.move (OV.p rfl)) rfl ?_
    refine WL.val (V.nilCheck (OV.p rfl)) rfl ?_
    refine WL.val (V.fieldAddr fo126_3 (OV.p rfl)) rfl ?_
    refine WL.val (V.load Tryz.isAgg124 (OV.p rfl) (fun _ => Rd.up (Rd.up (Stw.rds 7 _ rfl)))) rfl ?_
    refine WL.val (V.move (OV.p rfl)) rfl ?_
    refine WL.val (V.idxB st124 (OV.p rfl) (OV.p rfl) (fun hc => by omega)) rfl ?_
    refine WL.val (V.load Tryz.isAgg42 (OV.p rfl) (fun _ => Rd.up (Rd.up (Stw.rdR hqg)))) rfl ?_
    refine WL.call (vs := [_]) Tryz.call82 ⟨OV.p rfl, trivial⟩ (clone_ints (Seq.up (Seq.up (Stw.seqR hqg))) (by omega)) rfl ?_
    rintro _ _ ⟨A1, c1, rfl, rfl⟩
    refine WL.val (V.move (OV.p rfl)) rfl ?_
    refine WL.buildSlice (E := 3) (cs := [_]) (vs := [(0, _)]) ⟨OV.p rfl, trivial⟩ rfl (bsl42_1_0 _) rfl (fun b34 => ?_)
    refine WL.sub (Sub.refl _) (fun w h => h.p1) ?_
    refine WL.append (m := q.l.length) (q := 1) (news := [.int .i64 b]) Tryz.underlying42 el3 (OV.p rfl) (OV.p rfl) (Seq.all rfl) (by intro u hu; rw [List.mem_singleton.1 hu]; rfl) (by omega) rfl rfl (fun A5 c5 hA5 hc5 => ?_)
    refine WL.val (V.len (t := 42) Tryz.runUnderlying42 (OV.p rfl)) rfl ?_
    refine WL.val (V.move (OV.p rfl)) rfl ?_
    refine WL.nil ?_
    refine WC.block ?_
    have hxe : ints .i64 q.l ++ [.int .i64 b] = ints .i64 xs := by rw [hxs, ints_append]; rfl
    rw [hxe, ← hxl]
    obtain ⟨n, hn⟩ : ∃ n, n = xs.length := ⟨_, rfl⟩
    rw [← hn] at hxl ⊢
    refine WC.loop (σ := Nat × Cw) (fun s => [(0, ptr bs 0), (1, .int .i64 leb), (35, .slice A5 n c5), (36, .int .i64 (n : Int)), (37, .int .i64 (s.1 : Int))]) (fun s => s.2.A bc :: DvA bd bc g :: SlA (.slice A5 n c5) 3 1 n (ints .i64 xs) :: T.A bs bd g :: F) (fun s => s.1 ≤ n ∧ s.2.Ok ∧ s.2.g = g ∧ eraseL (xs.drop s.1) s.2.sem = eraseL xs C.sem) (fun s => n - s.1) (0, C) ⟨Nat.zero_le _, hC, hg, rfl⟩ (.cons rfl (.cons rfl (.cons (look_eq rfl (by rw [hxl])) (.cons (look_eq rfl (by rw [hxl])) (.cons rfl (.nil _)))))) (fun w h => h.sel 5 [2, 3, 0, 4] rfl) ?_
    rintro ⟨i, C'⟩ ⟨hi, hC', hg', hch⟩
    dsimp only at hi hC' hg' hch ⊢
    have hsq : ∀ {H : List Assn}, Seq K (SlA (.slice A5 n c5) 3 1 n (ints .i64 xs) :: H) A5 n 1 (ints .i64 xs) := fun {H} => SlA.seq (by rw [ints_length, Nat.mul_one, hn])
    refine WC.sr ?_
    refine WL.val (V.lss (OV.p rfl) (OV.p rfl)) rfl ?_
    refine WL.nil ?_
    refine WC.seq ?_
    refine WC.cond rfl (fun hc2 => ?_) (fun hc2 => ?_)
    ·simp only [decide_eq_true_eq, decide_eq_false_iff_not] at hc2
     have hin2 : i < n := by omega
     have hti : (i : Int).toNat = i := by omega
     have hdr : xs.drop i = xs.getD i 0 :: xs.drop (i + 1) := by rw [List.drop_eq_getElem_cons (by omega)]; simp [List.getD, show i < xs.length by omega]
     have hrd : ∀ {H : List Assn}, Rd K (SlA (.slice A5 n c5) 3 1 n (ints .i64 xs) :: H) (A5.map (·.add ((i : Int).toNat * 1))) (.int .i64 (xs.getD i 0)) := fun {H} => by
       have := Seq.int_rd (hsq (H := H)) (j := (i : Int)) (by omega)
       rwa [hti] at this ⊢
     obtain ⟨x, hx⟩ : ∃ x, x = xs.getD i 0 := ⟨_, rfl⟩
     rw [← hx] at hdr hrd
     rw [hdr, eraseL] at hch
     refine WC.skip ?_
     refine WC.seq ?_
     refine WC.block ?_
     refine WC.sr ?_
     refine WL.val (V.idxS st42 (OV.p rfl) (OV.p rfl) (fun _ => by omega) (fun _ => by repeat (first | exact hrd | apply Rd.up))) rfl ?_
     refine WL.val (V.load Tryz.isAgg3 (OV.p rfl) (fun _ => by repeat (first | exact hrd | apply Rd.up))) rfl ?_
     refine WL.val (V.assign (OV.p rfl)) rfl ?_
     refine WL.nil ?_
     refine WC.sr ?_
     refine WL.val (V.move (OV.p rfl)) rfl ?_
     refine WL.val (V.nilCheck (OV.p rfl)) rfl ?_
     refine WL.val (V.fieldAddr fo126_0 (OV.p rfl)) rfl ?_
     refine WL.val (V.load Tryz.isAgg31 (OV.p rfl) (fun _ => by repeat (first | exact Stw.rds 0 _ rfl | apply Rd.up))) rfl ?_
     refine WL.val (V.move (OV.p rfl)) rfl ?_
     refine WL.call (vs := [_, _]) Tryz.call61 ⟨OV.p rfl, OV.p rfl, trivial⟩ (drive_EraseG hC' hg' x) rfl ?_
     rintro _ _ ⟨C2, hC2, hg2, rfl, hs2, rfl⟩
     refine WL.val (V.assign (OV.p rfl)) rfl ?_
     refine WL.nil ?_
     refine WC.sr ?_
     refine WL.val (V.move (OV.p rfl)) rfl ?_
     refine WL.val (V.eql (OV.p rfl) (OV.p rfl)) rfl ?_
     refine WL.nil ?_
     refine WC.cond rfl (fun hc3 => ?_) (fun hc3 => ?_)
     ·simp only [decide_eq_true_eq, decide_eq_false_iff_not] at hc3
      have h3 := hc3
      rw [if_pos h3] at hch
      rw [← hch, if_pos h3] at hR
      refine WC.sr ?_
      refine WL.val (V.move (OV.p rfl)) rfl ?_
      refine WL.val (V.move (OV.p rfl)) rfl ?_
      refine WL.sub (Sub.refl _) (fun w h => h.sel 4 [3, 0, 1, 2] rfl) ?_
      refine WL.call (vs := [_, _]) Tryz.call89 ⟨OV.p rfl, OV.p rfl, trivial⟩ (store_told (C'.sem.dErase x).2) rfl ?_
      rintro _ _ ⟨rfl, rfl⟩
      refine WL.val (V.assign (OV.p rfl)) rfl ?_
      refine WL.nil ?_
      refine WC.ret ?_
      subst hR
      rw [h3]
      exact BodyQ.ret (H' := C2.A bc :: DvA bd bc g :: (T.told 70).A bs bd g :: F) (Res.tmp rfl rfl) (fun w h => h.sel 4 [1, 2, 0] rfl) ⟨C2, T.told 70, hC2, hg2, hT.told _, hs2, rfl, rfl, rfl⟩
     ·simp only [decide_eq_true_eq, decide_eq_false_iff_not] at hc3
      have h3 := hc3
      rw [if_neg h3] at hch
      refine WC.skip ?_
      refine WC.region ?_
      refine WL.val (V.addI (OV.p rfl) (OV.p rfl) (fun hc => by first | omega | (simp at hc; omega))) rfl ?_
      refine WL.val (V.move (OV.p rfl)) rfl ?_
      refine WL.nil ?_
      refine ⟨rfl, ?_⟩
      exact ⟨(i + 1, C2), ⟨hin2, hC2, hg2, by show eraseL (xs.drop (i + 1)) C2.sem = _; rw [hs2]; exact hch⟩, (by show n - (i + 1) < n - i; omega), .cons rfl (.cons rfl (.cons rfl (.cons rfl (.cons (look_eq rfl (by simp)) (.nil _))))), fun w h => h⟩
    ·simp only [decide_eq_true_eq, decide_eq_false_iff_not] at hc2
     refine WC.exit ?_
     refine WC.seq ?_
     obtain rfl : i = n := by omega
     rw [List.drop_eq_nil_of_le (by omega), eraseL] at hch
     rw [← hch, if_neg (by show ¬ (0 : Int) = 70; decide)] at hR
     dsimp only at hR
     refine WC.have_ (p := ∃ g1, T.sA = some ⟨g1, 0, none⟩) (fun w h => Stw.someS (bs := bs) (bd := bd) (g := g) (by omega) (h.sel 4 [3] rfl)) (fun ⟨g1, hA1⟩ => ?_)
     refine WC.sub (H' := Cells T.b8 42 (T.irs.map IRow.v) :: T.sl :: AllA ((T.irs.map IRow.row).set leb.toNat ir0.row) :: Cells bs 126 (T.cells bd g) :: C'.A bc :: DvA bd bc g :: F) (Sub.refl _) (fun w h => by
       have h9 : Sat K w (Stw.parts bs bd g T ++ (C'.A bc :: DvA bd bc g :: F)) := (h.sel 4 [3, 0, 1] rfl).unall
       have h10 := Sat.takeA (k := leb.toNat) (by rw [List.length_map]; omega) (h9.sel 4 [3, 2, 0, 1] rfl)
       have h11 : Sat K w (ir0.row :: AllA ((T.irs.map IRow.row).eraseIdx leb.toNat) :: Cells T.b8 42 (T.irs.map IRow.v) :: Cells bs 126 (T.cells bd g) :: T.sl :: C'.A bc :: DvA bd bc g :: F) := Sat.slNil h10.tail _ _
       exact (Sat.putA (by rw [List.length_map]; omega) h11).sel 4 [1, 3, 0, 2] rfl) ?_
     unfold Stw.sl
     rw [hA1]
     refine WC.regionA (AllA ((T.irs.map IRow.row).set leb.toNat ir0.row) :: Cells bs 126 (T.cells bd g) :: C'.A bc :: DvA bd bc g :: F) (by kernel_rfl) ?_
     refine WA.t 0 rfl (V.move (OV.p rfl)) ?_
     refine WA.t 1 rfl (V.nilCheck (OV.p rfl)) ?_
     refine WA.t 2 rfl (V.fieldAddr fo126_2 (OV.p rfl)) ?_
     refine WA.t 3 rfl (V.val_eq (v' := .slice (some ⟨g1, 0, none⟩) T.stands.length T.sc) (V.load Tryz.isAgg42 (OV.p rfl) (fun _ => by repeat (first | exact Rd.here rfl | apply Rd.up))) (fun _ => by rw [hA1])) ?_
     refine WA.t 4 rfl (V.move (OV.p rfl)) ?_
     refine WA.t 5 rfl (V.move (OV.p rfl)) ?_
     refine WA.t 6 rfl (V.nilCheck (OV.p rfl)) ?_
     refine WA.t 7 rfl (V.fieldAddr fo126_3 (OV.p rfl)) ?_
     refine WA.t 8 rfl (V.load Tryz.isAgg124 (OV.p rfl) (fun _ => by repeat (first | exact Rd.here rfl | apply Rd.up))) ?_
     refine WA.t 9 rfl (V.move (OV.p rfl)) ?_
     refine WA.t 10 rfl (V.idxB st42 (OV.p rfl) (OV.p rfl) (fun hc => by omega)) ?_
     refine WA.o 11 rfl ?_
     refine WL.store (cs := [_]) Tryz.sizeOf3 (OV.p rfl) (OV.p rfl) rfl rfl rfl (Upd.up (Upd.slA (by omega))) ?_
     refine WL.nil ?_
     refine WA.t 12 rfl (V.idxB st124 (OV.p rfl) (OV.p rfl) (fun hc => by omega)) ?_
     refine WA.o 13 rfl ?_
     refine WL.store (cs := [_]) Tryz.sizeOf42 (OV.p rfl) (OV.p rfl) rfl rfl rfl (Upd.at_ (by rw [List.length_map]; omega)) ?_
     refine WL.nil ?_
     refine WA.fin ?_
     refine WC.sr ?_
     refine WL.val (V.assign (OV.p rfl)) rfl ?_
     refine WL.nil ?_
     refine WC.ret ?_
     subst hR
     obtain ⟨T', hT'⟩ : ∃ T' : Stw, T' = { T with stands := T.stands.set leb.toNat (-1), irs := T.irs.set leb.toNat ir0 } := ⟨_, rfl⟩
     refine BodyQ.ret (H' := C'.A bc :: DvA bd bc g :: T'.A bs bd g :: F) (Res.tmp rfl rfl) (fun w h => ?_) ⟨C', T', hC', hg', ?_, rfl, ?_, rfl, rfl⟩
     · refine (Sat.all (l := Stw.parts bs bd g T') (H := C'.A bc :: DvA bd bc g :: F) (K := K) (w := w) ?_).sel 3 [1, 2, 0] rfl
       unfold Stw.parts Stw.cells Stw.sl
       rw [hT']
       dsimp only
       rw [List.length_set, List.length_set, hA1, List.map_set, List.map_set]
       have e1 : (ints .i64 T.stands).set (0 + leb.toNat * 1) (.int .i64 (-1)) = ints .i64 (T.stands.set leb.toNat (-1)) := by unfold ints; rw [show 0 + leb.toNat * 1 = leb.toNat by omega, List.map_set]
       rw [← e1]
       have h2 := h.sel 6 [3, 1, 0, 2, 4, 5] rfl
       rw [show 0 + leb.toNat * 1 = leb.toNat by omega] at h2 ⊢
       unfold Stw.cells at h2
       rw [hA1] at h2
       exact h2
     · rw [hT']
       refine ⟨by show (T.irs.set _ _).length = (T.stands.set _ _).length; rw [List.length_set, List.length_set]; exact hT.len, by show 1 ≤ (T.stands.set _ _).length ∧ _; rw [List.length_set]; exact hT.lebs, hT.next, hT.at_, fun x hx => ?_⟩
       rcases List.mem_or_eq_of_mem_set hx with hx | rfl
       · exact hT.std x hx
       · omega
     · rw [hT']
       unfold Stw.sem St.drop
       dsimp only
       rw [List.map_set]; rfl
end
end Go.Proofs.YtohkefolnmcjnaaGreat
/- store: what a nil store answers. -/
namespace Go.Proofs.YtohkefolnmcjnaaGreat
open Go.Sl Go.RowKit
set_option linter.unusedVariables false
set_option linter.unusedSimpArgs false
set_option maxRecDepth 20000

section
variable {K : World} {F : List Assn}
theorem nil_ready (leb : Int) : Tells Tryz.prog 88 #[.pointer none, .int .i64 leb] K F (.int .i64 3) := by
  refine Does.enter Tryz.func88 rfl Tryz.ntmps88 rfl ?_
  simp only [env0, Nat.reduceAdd]
  refine WC.sr ?_
  refine WL.val (V.assign (OV.p rfl)) rfl ?_
  refine WL.nil ?_
  refine WC.seq ?_
  refine WC.block ?_
  refine WC.sr ?_
  refine WL.val (V.move (OV.p rfl)) rfl ?_
  refine WL.val (V.eqlP Tryz.underlying56 (OV.p rfl) (OV.p rfl)) rfl ?_
  refine WL.val (V.assign (OV.p rfl)) rfl ?_
  refine WL.nil ?_
  refine WC.condT' rfl (by first | rfl | (simp; done) | (simp; omega)) ?_
  refine WC.sr ?_
  refine WL.val (V.assign (OV.p rfl)) rfl ?_
  refine WL.nil ?_
  refine WC.ret ?_
  exact BodyQ.ret (H' := F) (Res.tmp rfl rfl) (fun w h => h) ⟨rfl, rfl⟩
theorem nil_Has (leb : Int) : Tells Tryz.prog 35 #[.pointer none, .int .i64 leb] K F (.bool false) := by
  refine Does.enter Tryz.func35 rfl Tryz.ntmps35 rfl ?_
  simp only [env0, Nat.reduceAdd]
  refine WC.sr ?_
  refine WL.val (V.assign (OV.p rfl)) rfl ?_
  refine WL.nil ?_
  refine WC.sr ?_
  refine WL.val (V.move (OV.p rfl)) rfl ?_
  refine WL.val (V.move (OV.p rfl)) rfl ?_
  refine WL.call (vs := [_, _]) Tryz.call88 ⟨OV.p rfl, OV.p rfl, trivial⟩ (nil_ready leb) rfl ?_
  rintro _ H0 ⟨rfl, h0⟩
  subst H0
  refine WL.val (V.eql (OV.p rfl) (OV.p rfl)) rfl ?_
  refine WL.val (V.move (OV.p rfl)) rfl ?_
  refine WL.valG (oj := _) rfl rfl rfl GC.t (V.move (OV.p rfl)) rfl ?_
  refine WL.valG (oj := _) rfl rfl rfl GC.t (V.nilCheck (p := ⟨0, 0, none⟩) ⟨_, rfl, fun h => by cases h⟩) rfl ?_
  refine WL.valG (oj := _) rfl rfl rfl GC.t (V.fieldAddr fo126_2 (OV.g rfl id)) rfl ?_
  refine WL.valG (oj := _) rfl rfl rfl GC.t (V.load (v := .slice (some ⟨0, 0, none⟩) 1 1) Tryz.isAgg42 (OV.g rfl id) (fun hc => by cases hc)) rfl ?_
  refine WL.valG (oj := _) rfl rfl rfl GC.t (V.move (OV.p rfl)) rfl ?_
  refine WL.valG (oj := _) rfl rfl rfl GC.t (V.idxB st42 (OV.g rfl id) (OV.g rfl id) (fun hc => by cases hc)) rfl ?_
  refine WL.valG (oj := _) rfl rfl rfl GC.t (V.load (v := .int .i64 0) Tryz.isAgg3 (OV.g rfl id) (fun hc => by cases hc)) rfl ?_
  refine WL.valG (oj := _) rfl rfl rfl GC.t (V.geq (OV.g rfl id) (OV.p rfl)) rfl ?_
  refine WL.val (V.pickAnd (OV.p rfl) (OV.g rfl id)) rfl ?_
  refine WL.val (V.assign (OV.p rfl)) rfl ?_
  refine WL.nil ?_
  refine WC.ret ?_
  exact BodyQ.ret (H' := F) (Res.tmp rfl rfl) (fun w h => h) ⟨rfl, rfl⟩
theorem nil_Read (leb : Int) : Tells Tryz.prog 28 #[.pointer none, .int .i64 leb] K F (.tuple #[.slice none 0 0, .int .i64 0, .int .i64 3]) := by
  refine Does.enter Tryz.func28 rfl Tryz.ntmps28 rfl ?_
  simp only [env0, Nat.reduceAdd]
  refine WC.sr ?_
  refine WL.val (V.assign (OV.p rfl)) rfl ?_
  refine WL.val (V.assign (OV.p rfl)) rfl ?_
  refine WL.val (V.assign (OV.p rfl)) rfl ?_
  refine WL.nil ?_
  refine WC.seq ?_
  refine WC.sr ?_
  refine WL.val (V.move (OV.p rfl)) rfl ?_
  refine WL.val (V.move (OV.p rfl)) rfl ?_
  refine WL.call (vs := [_, _]) Tryz.call88 ⟨OV.p rfl, OV.p rfl, trivial⟩ (nil_ready leb) rfl ?_
  rintro _ H0 ⟨rfl, h0⟩
  subst H0
  refine WL.val (V.assign (OV.p rfl)) rfl ?_
  refine WL.nil ?_
  refine WC.sr ?_
  refine WL.val (V.move (OV.p rfl)) rfl ?_
  refine WL.val (V.neq (OV.p rfl) (OV.p rfl)) rfl ?_
  refine WL.nil ?_
  refine WC.condT' rfl ((by simp)) ?_
  refine WC.sr ?_
  refine WL.val (V.move (OV.p rfl)) rfl ?_
  refine WL.val (V.assign (OV.p rfl)) rfl ?_
  refine WL.val (V.assign (OV.p rfl)) rfl ?_
  refine WL.val (V.assign (OV.p rfl)) rfl ?_
  refine WL.nil ?_
  refine WC.ret ?_
  exact BodyQ.ret (H' := F) (Res.tmp3 rfl rfl rfl rfl) (fun w h => h) ⟨rfl, rfl⟩
theorem nil_Unmap (leb : Int) : Tells Tryz.prog 32 #[.pointer none, .int .i64 leb] K F (.int .i64 3) := by
  refine Does.enter Tryz.func32 rfl Tryz.ntmps32 rfl ?_
  simp only [env0, Nat.reduceAdd]
  refine WC.sr ?_
  refine WL.val (V.assign (OV.p rfl)) rfl ?_
  refine WL.nil ?_
  refine WC.seq ?_
  refine WC.sr ?_
  refine WL.val (V.move (OV.p rfl)) rfl ?_
  refine WL.val (V.move (OV.p rfl)) rfl ?_
  refine WL.call (vs := [_, _]) Tryz.call88 ⟨OV.p rfl, OV.p rfl, trivial⟩ (nil_ready leb) rfl ?_
  rintro _ H0 ⟨rfl, h0⟩
  subst H0
  refine WL.val (V.assign (OV.p rfl)) rfl ?_
  refine WL.nil ?_
  refine WC.sr ?_
  refine WL.val (V.move (OV.p rfl)) rfl ?_
  refine WL.val (V.neq (OV.p rfl) (OV.p rfl)) rfl ?_
  refine WL.nil ?_
  refine WC.condT' rfl ((by simp)) ?_
  refine WC.sr ?_
  refine WL.val (V.move (OV.p rfl)) rfl ?_
  refine WL.val (V.assign (OV.p rfl)) rfl ?_
  refine WL.nil ?_
  refine WC.ret ?_
  exact BodyQ.ret (H' := F) (Res.tmp rfl rfl) (fun w h => h) ⟨rfl, rfl⟩
theorem nil_Change (leb : Int) {A : Option Addr} {m cap : Nat} : Tells Tryz.prog 31 #[.pointer none, .int .i64 leb, .slice A m cap] K F (.int .i64 3) := by
  refine Does.enterM Tryz.func31 rfl Tryz.ntmps31 rfl ?_
  simp only [env0, Nat.reduceAdd]
  refine WC.sr ?_
  refine WL.box (cs := [_]) (OV.p rfl) rfl rfl (fun b3 => ?_)
  refine WL.box (cs := [_]) (OV.p rfl) rfl rfl (fun b4 => ?_)
  refine WL.box (cs := [_]) (OV.p rfl) rfl rfl (fun b5 => ?_)
  refine WL.alloc (cs := [(.int .i64 0)]) Tryz.zeroValue28 rfl rfl (fun b6 => ?_)
  refine WL.nil ?_
  refine WC.seq ?_
  refine WC.sr ?_
  refine WL.val (V.load Tryz.isAgg56 (OV.p rfl) (fun _ => by repeat (first | exact Rd.here rfl | apply Rd.up))) rfl ?_
  refine WL.val (V.load Tryz.isAgg3 (OV.p rfl) (fun _ => by repeat (first | exact Rd.here rfl | apply Rd.up))) rfl ?_
  refine WL.call (vs := [_, _]) Tryz.call88 ⟨OV.p rfl, OV.p rfl, trivial⟩ (nil_ready leb) rfl ?_
  rintro _ H0 ⟨rfl, h0⟩
  subst H0
  refine WL.val (V.assign (OV.p rfl)) rfl ?_
  refine WL.nil ?_
  refine WC.sr ?_
  refine WL.val (V.move (OV.p rfl)) rfl ?_
  refine WL.val (V.neq (OV.p rfl) (OV.p rfl)) rfl ?_
  refine WL.nil ?_
  refine WC.condT' rfl ((by simp)) ?_
  refine WC.sr ?_
  refine WL.val (V.move (OV.p rfl)) rfl ?_
  refine WL.store (cs := [_]) Tryz.sizeOf28 (OV.p rfl) (OV.p rfl) rfl rfl rfl (by repeat (first | exact Upd.here (cs' := [_]) rfl rfl | apply Upd.up)) ?_
  refine WL.nil ?_
  refine WC.ret ?_
  exact BodyQM.ret (H' := F) (Res.one rfl (R1.cell1 rfl Tryz.isAgg28 (by repeat (first | exact Rd.here rfl | apply Rd.up)))) (fun w h => h.drop 4) ⟨rfl, rfl⟩
theorem nil_Lebs : Tells Tryz.prog 33 #[.pointer none] K F (.int .i64 0) := by
  refine Does.enter Tryz.func33 rfl Tryz.ntmps33 rfl ?_
  simp only [env0, Nat.reduceAdd]
  refine WC.sr ?_
  refine WL.val (V.assign (OV.p rfl)) rfl ?_
  refine WL.nil ?_
  refine WC.seq ?_
  refine WC.sr ?_
  refine WL.val (V.move (OV.p rfl)) rfl ?_
  refine WL.val (V.eqlP Tryz.underlying56 (OV.p rfl) (OV.p rfl)) rfl ?_
  refine WL.nil ?_
  refine WC.condT' rfl (by first | rfl | (simp; done) | (simp; omega)) ?_
  refine WC.sr ?_
  refine WL.val (V.assign (OV.p rfl)) rfl ?_
  refine WL.nil ?_
  refine WC.ret ?_
  exact BodyQ.ret (H' := F) (Res.tmp rfl rfl) (fun w h => h) ⟨rfl, rfl⟩
theorem nil_Cap : Tells Tryz.prog 34 #[.pointer none] K F (.int .i64 0) := by
  refine Does.enter Tryz.func34 rfl Tryz.ntmps34 rfl ?_
  simp only [env0, Nat.reduceAdd]
  refine WC.sr ?_
  refine WL.val (V.assign (OV.p rfl)) rfl ?_
  refine WL.nil ?_
  refine WC.seq ?_
  refine WC.sr ?_
  refine WL.val (V.move (OV.p rfl)) rfl ?_
  refine WL.val (V.eqlP Tryz.underlying56 (OV.p rfl) (OV.p rfl)) rfl ?_
  refine WL.nil ?_
  refine WC.condT' rfl (by first | rfl | (simp; done) | (simp; omega)) ?_
  refine WC.sr ?_
  refine WL.val (V.assign (OV.p rfl)) rfl ?_
  refine WL.nil ?_
  refine WC.ret ?_
  exact BodyQ.ret (H' := F) (Res.tmp rfl rfl) (fun w h => h) ⟨rfl, rfl⟩
end
end Go.Proofs.YtohkefolnmcjnaaGreat
/- What a drive's deeds come to: plain. -/
namespace Go.Proofs.YtohkefolnmcjnaaGreat
open Go.Sl Go.RowKit
set_option linter.unusedVariables false
set_option linter.unusedSimpArgs false
set_option maxRecDepth 20000

namespace Chip
theorem deed_same {S : Chip} (h : S.left = 0) : S.deed = S := by
  unfold deed cut
  rw [h]
  obtain ⟨a, b, c, d, e, f, g, up, l, k⟩ := S
  dsimp only at h
  subst h
  simp
theorem page_ok {S : Chip} {b p : Int} (h : 0 ≤ b ∧ b < S.g.bl ∧ 0 ≤ p ∧ p < S.g.pg) : S.page b p = true := by
  unfold page block
  simp; omega
theorem block_ok {S : Chip} {b : Int} (h : 0 ≤ b ∧ b < S.g.bl) : S.block b = true := by
  unfold block
  simp; omega
theorem ahead_ok {S : Chip} {b p : Int} (hu : S.up = true) (h : 0 ≤ b ∧ b < S.g.bl ∧ 0 ≤ p ∧ p < S.g.pg) (hm : S.marked b = false) : S.ahead b p true = 0 := by
  unfold ahead bad
  rw [if_neg (by rw [hu]; decide), if_neg (fun hh => by rcases hh with h | h | h | h | h <;> first | omega | cases h), hm, Bool.and_false, if_neg (by decide)]
theorem ahead_bad {S : Chip} {b p : Int} (hu : S.up = true) (h : 0 ≤ b ∧ b < S.g.bl ∧ 0 ≤ p ∧ p < S.g.pg) (hm : S.marked b = true) : S.ahead b p true = 73 := by
  unfold ahead bad
  rw [if_neg (by rw [hu]; decide), if_neg (fun hh => by rcases hh with h | h | h | h | h <;> first | omega | cases h), hm, hu, if_pos (by decide)]
section
variable {S : Chip} {b p : Int} {d : List Nat}
theorem pack_len (hg : S.g.mays) (h8 : Small 256 d) (hl : d.length = S.room) : ((intsOf (packG S.g d)).length : Int) = S.raw := by
  have hN := NGood.of (bl := S.g.bl) (pg := S.g.pg) (by rw [← geo_nat hg]; exact hg)
  unfold packG intsOf
  rw [List.length_map, packF_length hN.t h8 hl]
  exact (Geo.raw_nat hg).symm
theorem dWrite_prog (hu : S.up = true) (h : 0 ≤ b ∧ b < S.g.bl ∧ 0 ≤ p ∧ p < S.g.pg) (hm : S.marked b = false) (hl : d.length = S.room) : S.dWrite b p d = done b (S.program b p (intsOf (packG S.g d))) := by
  have e : decide (d.length = S.room) = true := decide_eq_true hl
  unfold dWrite
  rw [e, if_neg (by rw [ahead_ok hu h hm]; decide)]
theorem program_ok {xs : List Int} (hu : S.up = true) (h : 0 ≤ b ∧ b < S.g.bl ∧ 0 ≤ p ∧ p < S.g.pg) (hx : (xs.length : Int) = S.raw) (hn : S.nextOf b = p) (h0 : S.left = 0) :
    S.program b p xs = if S.weak b then (S, 72) else ({ S with pages := upds S.pages (b, p) (some xs), next := S.setNext b (p + 1) }, 0) := by
  have hc : S.cut = false := by unfold cut; rw [h0]; rfl
  unfold program
  rw [if_neg (by rw [hu]; decide), if_neg (by rw [page_ok h]; rintro (h | h); cases h; exact h hx), if_neg (fun h => h hn.symm), hc, if_neg Bool.false_ne_true, deed_same h0]
theorem dWrite_ok (hg : S.g.mays) (hu : S.up = true) (h : 0 ≤ b ∧ b < S.g.bl ∧ 0 ≤ p ∧ p < S.g.pg) (hm : S.marked b = false) (h8 : Small 256 d) (hl : d.length = S.room) (hn : S.nextOf b = p) (h0 : S.left = 0) (hw : S.weak b = false) :
    S.dWrite b p d = ({ S with pages := upds S.pages (b, p) (some (intsOf (packG S.g d))), next := S.setNext b (p + 1) }, 0) := by
  rw [dWrite_prog hu h hm hl, program_ok hu h (pack_len hg h8 hl) hn h0, hw]
  rfl
theorem mark_ok (hu : S.up = true) (h : 0 ≤ b ∧ b < S.g.bl) (h0 : S.left = 0) : S.mark b = ({ S with marked := fun k => if k = b then true else S.marked k }, 0) := by
  have hc : S.cut = false := by unfold cut; rw [h0]; rfl
  unfold mark all
  rw [if_neg (by rw [hu]; decide), if_neg (by rw [block_ok h]; decide), hc, deed_same h0]
  rfl
theorem dWrite_weak (hg : S.g.mays) (hu : S.up = true) (h : 0 ≤ b ∧ b < S.g.bl ∧ 0 ≤ p ∧ p < S.g.pg) (hm : S.marked b = false) (h8 : Small 256 d) (hl : d.length = S.room) (hn : S.nextOf b = p) (h0 : S.left = 0) (hw : S.weak b = true) :
    S.dWrite b p d = ({ S with marked := fun k => if k = b then true else S.marked k }, 72) := by
  rw [dWrite_prog hu h hm hl, program_ok hu h (pack_len hg h8 hl) hn h0, hw, if_pos rfl]
  unfold done
  rw [if_neg (fun h => h rfl), mark_ok hu ⟨h.1, h.2.1⟩ h0, if_neg (fun h => h rfl)]
theorem dErase_ok (hu : S.up = true) (h : 0 ≤ b ∧ b < S.g.bl) (hpg : 0 < S.g.pg) (hm : S.marked b = false) (h0 : S.left = 0) (hw : S.weak b = false) :
    S.dErase b = ({ S with pages := dropTo S.pages b S.g.pg, wrong := dropTo S.wrong b S.g.pg, next := S.setNext b 0 }, 0) := by
  have hc : S.cut = false := by unfold cut; rw [h0]; rfl
  have e : S.erase b = ({ S with pages := dropTo S.pages b S.g.pg, wrong := dropTo S.wrong b S.g.pg, next := S.setNext b 0 }, 0) := by
    unfold erase
    rw [if_neg (by rw [hu]; decide), if_neg (by rw [block_ok h]; decide), hc, if_neg Bool.false_ne_true, deed_same h0, hw, if_neg Bool.false_ne_true]
  unfold dErase
  rw [if_neg (by rw [ahead_ok hu ⟨h.1, h.2, Int.le_refl _, hpg⟩ hm]; decide), e]
  rfl
theorem rawN_page {xs : List Nat} (hp : S.pages (b, p) = some (intsOf xs)) (hw : S.wrong (b, p) = none) : S.rawN b p = xs := by
  unfold rawN reads
  rw [hp, hw]
  exact natsOf_intsOf xs
theorem rawN_blank (hp : S.pages (b, p) = none) (hw : S.wrong (b, p) = none) : S.rawN b p = List.replicate S.g.raw.toNat 255 := by
  unfold rawN reads
  rw [hp, hw]
  show natsOf (List.replicate _ 255) = _
  unfold natsOf
  rw [List.map_replicate]
  rfl
theorem dRead_page (hg : S.g.mays) (hu : S.up = true) (h : 0 ≤ b ∧ b < S.g.bl ∧ 0 ≤ p ∧ p < S.g.pg) (hm : S.marked b = false) (h8 : Small 256 d) (hl : d.length = S.room) (hp : S.pages (b, p) = some (intsOf (packG S.g d))) (hw : S.wrong (b, p) = none) :
    S.dRead b p = ⟨0, d, 0⟩ := by
  have hN := NGood.of (bl := S.g.bl) (pg := S.g.pg) (by rw [← geo_nat hg]; exact hg)
  unfold dRead
  rw [if_neg (by rw [ahead_ok hu h hm]; decide), rawN_page hp hw]
  unfold packG
  rw [read_pack hN.t h8 hl]
  rfl
theorem dRead_err (hu : S.up = true) (h : 0 ≤ b ∧ b < S.g.bl ∧ 0 ≤ p ∧ p < S.g.pg) (hm : S.marked b = false) (hs : S.stateG b p ≠ 0) : S.dRead b p = ⟨(S.stateG b p : Nat), [], 0⟩ := by
  unfold stateG at hs ⊢
  unfold dRead readF
  rw [if_neg (by rw [ahead_ok hu h hm]; decide), if_pos hs]
theorem sect_repl {n t S j x : Nat} (h : j < S) : sect n (List.replicate (S * n + 1) x) j = List.replicate n x := by
  have h1 : (j + 1) * n ≤ S * n := Nat.mul_le_mul_right _ h
  rw [Nat.succ_mul] at h1
  unfold sect
  rw [List.drop_replicate, List.take_replicate]
  congr 1; omega
theorem ones_255 : ∀ n, ones (List.replicate n 255) = 8 * n
  | 0 => rfl
  | n + 1 => by rw [List.replicate_succ, ones, ones_255 n, show pop8 255 = 8 from rfl]; omega
theorem state_blank {t S n : Nat} : stateF t S n (List.replicate (S * n + 1) 255) = 61 := by
  have h0 : (List.replicate (S * n + 1) 255).getD (S * n) 0 = (255 : Nat) := by simp [List.getD, List.getElem?_replicate]
  have h1 : ∀ k, k ≤ S → tornTo n t (List.replicate (S * n + 1) 255) k = false := fun k hk => by
    induction k with
    | zero => rfl
    | succ k ih =>
      rw [tornTo, ih (by omega)]
      unfold tornS
      rw [sect_repl (t := t) (by omega), ones_255]
      simp
  unfold stateF
  rw [h0, if_neg (by decide), if_neg (fun h => h rfl), h1 S (Nat.le_refl _), if_neg Bool.false_ne_true]
theorem state_255 {t S n : Nat} {raw : List Nat} (h : raw.getD (S * n) 0 = 255) : stateF t S n raw = 60 ∨ stateF t S n raw = 61 := by
  unfold stateF
  rw [h, if_neg (by decide), if_neg (fun h => h rfl)]
  split
  · exact .inl rfl
  · exact .inr rfl
theorem stateG_blank (hg : S.g.mays) (hp : S.pages (b, p) = none) (hw : S.wrong (b, p) = none) : S.stateG b p = 61 := by
  unfold stateG
  rw [rawN_blank hp hw, Geo.raw_nat hg, Int.toNat_natCast]
  exact state_blank
theorem goodTo_one {x : Int} (hu : S.up = true) (hm : ∀ k, S.marked k = decide (k = x)) (hx : 0 ≤ x) : ∀ n : Nat, ((S.goodTo n).length : Int) = (if x < (n : Int) then (n : Int) - 1 else (n : Int)) ∧ x ∉ S.goodTo n
  | 0 => ⟨by rw [if_neg (by omega)]; rfl, fun h => by simp [goodTo] at h⟩
  | n + 1 => by
    obtain ⟨h1, h2⟩ := goodTo_one hu hm hx n
    rw [goodTo]
    unfold bad
    rw [hu, hm, Bool.true_and, Bool.true_and]
    by_cases h : (n : Int) = x
    · rw [decide_eq_true h, if_neg (by decide)]
      refine ⟨?_, h2⟩
      rw [h1, if_neg (by omega), if_pos (by omega)]; omega
    · rw [decide_eq_false h, if_pos (by decide), List.length_append]
      refine ⟨?_, fun h' => ?_⟩
      · rw [Int.natCast_add, h1]
        simp only [List.length_singleton]
        split
        · rw [if_pos (by omega)]; omega
        · rw [if_neg (by omega)]; omega
      · rcases List.mem_append.1 h' with h' | h'
        · exact h2 h'
        · exact h (List.mem_singleton.1 h').symm
end
theorem next_new {g : Geo} {l : List Int} {b : Int} : (new g l).nextOf b = 0 := by
  show (List.replicate g.bl.toNat (0 : Int)).getD b.toNat 0 = 0
  rw [List.getD, List.getElem?_replicate]
  split <;> rfl
theorem nextOf_set' {S : Chip} {b v x : Int} (hb : 0 ≤ b) (hx : 0 ≤ x) (hl : x < S.next.length) : (S.next.set b.toNat v).getD x.toNat 0 = if x = b then v else S.nextOf x := by
  unfold nextOf
  simp only [List.getD, List.getElem?_set]
  by_cases h : x = b
  · subst h
    rw [if_pos rfl, if_pos (by omega), if_pos rfl]; rfl
  · rw [if_neg (by omega), if_neg h]
end Chip
end Go.Proofs.YtohkefolnmcjnaaGreat
/- casematelaw11: small, tiny, awake. -/
namespace Go.Proofs.YtohkefolnmcjnaaGreat
open Go.Sl Go.RowKit
set_option linter.unusedVariables false
set_option linter.unusedSimpArgs false
set_option maxRecDepth 20000

theorem law11_small (g : Geo) (K : World) (F : List Assn) : Tells Tryz.prog 36 #[g.v] K F (.bool (g.may && decide (g.room ≤ 32) && decide (g.bl ≤ 12) && decide (g.pg ≤ 5))) := by
  refine Does.enter Tryz.func36 rfl Tryz.ntmps36 rfl ?_
  simp only [env0, Nat.reduceAdd]
  refine WC.sr ?_
  refine WL.box (cs := [_, _, _, _, _]) (OV.p rfl) rfl rfl (fun b1 => ?_)
  refine WL.val (V.assign (OV.p rfl)) rfl ?_
  refine WL.nil ?_
  refine WC.sr ?_
  refine WL.val (V.loadA (vs := [_, _, _, _, _]) ⟨Tryz.isAgg23, Tryz.sizeOf23⟩ (OV.p rfl) rfl (fun _ => by repeat (first | exact Rds.gets ⟨rfl, rfl, rfl, rfl, rfl, trivial⟩ | apply Rds.up))) rfl ?_
  refine WL.call (vs := [_]) Tryz.call53 ⟨OV.p rfl, trivial⟩ (ref06_May g _ _) rfl ?_
  rintro _ H0 ⟨rfl, h0⟩
  subst H0
  refine WL.val (V.move (OV.p rfl)) rfl ?_
  refine WL.valG (oj := _) rfl rfl rfl GC.t (V.loadA (vs := [_, _, _, _, _]) ⟨Tryz.isAgg23, Tryz.sizeOf23⟩ (OV.p rfl) rfl (fun _ => by repeat (first | exact Rds.gets ⟨rfl, rfl, rfl, rfl, rfl, trivial⟩ | apply Rds.up))) rfl ?_
  refine WL.callG (oj := _) (vs := [_]) rfl rfl rfl GC.t Tryz.call22 ⟨OV.g rfl id, trivial⟩ (fun hg => ref06_Room g (Geo.mays_of (by simpa using hg)) _ _) rfl ?_
  refine WL.valG (oj := _) rfl rfl rfl GC.t (V.leq (OV.g rfl id) (OV.p rfl)) rfl ?_
  refine WL.val (V.pickAnd (OV.p rfl) (OV.g rfl id)) rfl ?_
  refine WL.val (V.move (OV.p rfl)) rfl ?_
  refine WL.valG (oj := _) rfl rfl rfl GC.t (V.fieldAddr fo23_0 (OV.p rfl)) rfl ?_
  refine WL.valG (oj := _) rfl rfl rfl GC.t (V.load Tryz.isAgg3 (OV.g rfl id) (fun _ => by repeat (first | exact Rd.here rfl | apply Rd.up))) rfl ?_
  refine WL.valG (oj := _) rfl rfl rfl GC.t (V.leq (OV.g rfl id) (OV.p rfl)) rfl ?_
  refine WL.val (V.pickAnd (OV.p rfl) (OV.g rfl id)) rfl ?_
  refine WL.val (V.move (OV.p rfl)) rfl ?_
  refine WL.valG (oj := _) rfl rfl rfl GC.t (V.fieldAddr fo23_1 (OV.p rfl)) rfl ?_
  refine WL.valG (oj := _) rfl rfl rfl GC.t (V.load Tryz.isAgg3 (OV.g rfl id) (fun _ => by repeat (first | exact Rd.here rfl | apply Rd.up))) rfl ?_
  refine WL.valG (oj := _) rfl rfl rfl GC.t (V.leq (OV.g rfl id) (OV.p rfl)) rfl ?_
  refine WL.val (V.pickAnd (OV.p rfl) (OV.g rfl id)) rfl ?_
  refine WL.val (V.assign (OV.p rfl)) rfl ?_
  refine WL.nil ?_
  refine WC.ret ?_
  exact BodyQ.ret (H' := F) (Res.tmp rfl rfl) (fun w h => by repeat (first | exact h | replace h := h.tail)) ⟨rfl, rfl⟩
theorem law11_tiny (K : World) (F : List Assn) : Tells Tryz.prog 95 #[] K F (Geo.mk 4 3 1 16 1).v := by
  refine Does.enter Tryz.func95 rfl Tryz.ntmps95 rfl ?_
  simp only [env0, Nat.reduceAdd]
  refine WC.sr ?_
  refine WL.alloc (cs := [(.int .i64 0), (.int .i64 0), (.int .i64 0), (.int .i64 0), (.int .i64 0)]) Tryz.zeroValue23 rfl rfl (fun b0 => ?_)
  refine WL.nil ?_
  refine WC.sr ?_
  refine WL.val (V.build (vs := [(0, _), (1, _), (2, _), (3, _), (4, _)]) ⟨OV.p rfl, OV.p rfl, OV.p rfl, OV.p rfl, OV.p rfl, trivial⟩ rfl (bld23_0_1_2_3_4 _ _ _ _ _)) rfl ?_
  refine WL.store (cs := [_, _, _, _, _]) Tryz.sizeOf23 (OV.p rfl) (OV.p rfl) rfl rfl rfl (by repeat (first | exact Upd.here (cs' := [_, _, _, _, _]) rfl rfl | apply Upd.up)) ?_
  refine WL.nil ?_
  refine WC.ret ?_
  exact BodyQ.ret (H' := F) (Res.one rfl (R1.cellA (vs := [_, _, _, _, _]) rfl ⟨Tryz.isAgg23, Tryz.sizeOf23⟩ rfl (by repeat (first | exact Rds.gets ⟨rfl, rfl, rfl, rfl, rfl, trivial⟩ | apply Rds.up)))) (fun w h => by repeat (first | exact h | replace h := h.tail)) ⟨rfl, rfl⟩
def tiny11 : Geo := ⟨4, 3, 1, 16, 1⟩
def abc11 : List Nat := [97, 98, 99]
def w11a : Chip := Chip.new tiny11 []
def t11a : St := openF w11a 2
def c11 : Chip × St × Int := sChange w11a t11a 0 abc11
def u11 : Chip × St × Int := sUnmap c11.1 c11.2.1 0
theorem law11_awake (K : World) (F : List Assn) : Tells Tryz.prog 30 #[] K F (.bool true) := by
  have qm : tiny11.may = true := by kernel_rfl
  have r0 : w11a.scanE = 0 := by kernel_rfl
  have r1 : sRead w11a t11a 0 = (⟨5, [], 0⟩, t11a) := by kernel_rfl
  have l1 : ∀ l ∈ t11a.stale, l.length ≤ 100000 := by
    have : t11a.stale = [[], []] := by kernel_rfl
    rw [this]; decide
  have r2 : c11.2.2 = 0 := by kernel_rfl
  have l2 : ∀ l ∈ c11.2.1.stale, l.length ≤ 100000 := by
    have : c11.2.1.stale = [[], []] := by kernel_rfl
    rw [this]; decide
  have r3 : sRead c11.1 c11.2.1 0 = (⟨0, abc11, 0⟩, c11.2.1) := by kernel_rfl
  have r4 : u11.2.2 = 0 := by kernel_rfl
  have r5 : (sRead u11.1 u11.2.1 0).1 = ⟨5, [], 0⟩ := by kernel_rfl
  have hd8 : Small 256 abc11 := by unfold Small; decide
  refine Does.enter Tryz.func30 rfl Tryz.ntmps30 rfl ?_
  simp only [env0, Nat.reduceAdd]
  refine WC.sr ?_
  refine WL.val (V.assign (OV.p rfl)) rfl ?_
  refine WL.nil ?_
  refine WC.sr ?_
  refine WL.call (vs := []) Tryz.call95 trivial (law11_tiny _ _) rfl ?_
  rintro _ H0 ⟨rfl, h0⟩
  subst H0
  refine WL.call (vs := [_, _]) Tryz.call13 ⟨OV.p rfl, OV.p rfl, trivial⟩ (chip_New tiny11 (l := []) Seq.nil (by decide)) rfl ?_
  rintro _ _ (⟨hm, hin, bc, C0, hC0, s0, rfl, rfl⟩ | ⟨hno, rfl, rfl⟩)
  rotate_left
  · exact (hno ⟨qm, fun x hx => by simp at hx⟩).elim
  have g0 : C0.g = tiny11 := by rw [show C0.g = C0.sem.g from rfl, s0]; rfl
  have s0' : C0.sem = w11a := s0
  refine WL.val (V.move (OV.p rfl)) rfl ?_
  refine WL.val (V.extract (OV.p rfl) rfl) rfl ?_
  refine WL.val (V.extract (OV.p rfl) rfl) rfl ?_
  refine WL.val (V.assign (OV.p rfl)) rfl ?_
  refine WL.val (V.assign (OV.p rfl)) rfl ?_
  refine WL.nil ?_
  refine WC.sr ?_
  refine WL.val (V.move (OV.p rfl)) rfl ?_
  refine WL.call (vs := [_]) Tryz.call14 ⟨OV.p rfl, trivial⟩ (drive_NewG hC0 g0) rfl ?_
  rintro _ _ ⟨bd, rfl, rfl⟩
  refine WL.val (V.move (OV.p rfl)) rfl ?_
  refine WL.val (V.extract (OV.p rfl) rfl) rfl ?_
  refine WL.val (V.extract (OV.p rfl) rfl) rfl ?_
  refine WL.val (V.assign (OV.p rfl)) rfl ?_
  refine WL.val (V.assign (OV.p rfl)) rfl ?_
  refine WL.nil ?_
  refine WC.sr ?_
  refine WL.val (V.move (OV.p rfl)) rfl ?_
  refine WL.call (vs := [_, _]) Tryz.call29 ⟨OV.p rfl, OV.p rfl, trivial⟩ (store_Open hC0 g0 (lebs := 2) (by decide) (by decide) (by rw [s0']; exact r0)) rfl ?_
  rintro _ _ ⟨bs, T0, hT0, t0, rfl, rfl⟩
  have t0' : T0.sem = t11a := by rw [t0, s0']; rfl
  refine WL.val (V.move (OV.p rfl)) rfl ?_
  refine WL.val (V.extract (OV.p rfl) rfl) rfl ?_
  refine WL.val (V.extract (OV.p rfl) rfl) rfl ?_
  refine WL.val (V.assign (OV.p rfl)) rfl ?_
  refine WL.val (V.assign (OV.p rfl)) rfl ?_
  refine WL.nil ?_
  refine WC.seq ?_
  refine WC.sr ?_
  refine WL.val (V.move (OV.p rfl)) rfl ?_
  refine WL.val (V.eqlP Tryz.underlying56 (OV.p rfl) (OV.p rfl)) rfl ?_
  refine WL.val (V.move (OV.p rfl)) rfl ?_
  refine WL.valG (oj := _) rfl rfl rfl GC.f (V.move (OV.p rfl)) rfl ?_
  refine WL.valG (oj := _) rfl rfl rfl GC.f (V.neq (OV.g rfl id) (OV.p rfl)) rfl ?_
  refine WL.val (V.pickOr (OV.p rfl) (OV.g rfl id)) rfl ?_
  refine WL.nil ?_
  refine WC.condF' rfl (by first | rfl | (simp; done) | (simp; omega)) ?_
  refine WC.skip ?_
  refine WC.sr ?_
  refine WL.val (V.move (OV.p rfl)) rfl ?_
  refine WL.call (vs := [_, _]) Tryz.call28 ⟨OV.p rfl, OV.p rfl, trivial⟩ (store_Read hC0 g0 hT0 0) rfl ?_
  rintro _ _ ⟨A1, c1, T1, hT1, t1, rfl, rfl⟩
  rw [s0', t0', r1] at t1 ⊢
  refine WL.sub (Sub.refl _) (fun w h => h.tail) ?_
  refine WL.val (V.move (OV.p rfl)) rfl ?_
  refine WL.val (V.extract (OV.p rfl) rfl) rfl ?_
  refine WL.val (V.extract (OV.p rfl) rfl) rfl ?_
  refine WL.val (V.extract (OV.p rfl) rfl) rfl ?_
  refine WL.val (V.assign (OV.p rfl)) rfl ?_
  refine WL.val (V.assign (OV.p rfl)) rfl ?_
  refine WL.val (V.assign (OV.p rfl)) rfl ?_
  refine WL.nil ?_
  refine WC.sr ?_
  refine WL.val (V.move (OV.p rfl)) rfl ?_
  refine WL.buildSlice (E := 5) (cs := [_, _, _]) (vs := [(0, _), (1, _), (2, _)]) ⟨OV.p rfl, OV.p rfl, OV.p rfl, trivial⟩ rfl (bsl38_3_0_1_2 _ _ _) rfl (fun b46 => ?_)
  refine WL.convMark Tryz.underlying38 Tryz.underlying5 (OV.p rfl) rfl ?_
  refine WL.sub (Sub.refl _) (fun w h => h.sel 4 [1, 2, 3, 0] rfl) ?_
  refine WL.call (vs := [_, _, _]) Tryz.call31 ⟨OV.p rfl, OV.p rfl, OV.p rfl, trivial⟩ (store_Change hC0 g0 hT1 (leb := 0) (d := abc11) (Seq.allZ rfl : Seq K (CellsZ b46 5 (nats .u8 abc11) :: F) (some ⟨b46, 0, none⟩) 3 1 (nats .u8 abc11)) hd8 (Nat.le_refl _) (by decide) (by rw [t1]; exact fun l hl => Nat.le_trans (l1 l hl) (by decide))) rfl ?_
  rintro v2 _ ⟨C2, T2, hC2, g2, hT2, s2, t2, hv2, rfl⟩
  have s2' : C2.sem = c11.1 := by rw [s2, s0', t1]; rfl
  have t2' : T2.sem = c11.2.1 := by rw [t2, s0', t1]; rfl
  have hv2' : v2 = .int .i64 0 := by rw [hv2, s0', t1]; exact congrArg (Value.int .i64) r2
  subst hv2'
  refine WL.val (V.assign (OV.p rfl)) rfl ?_
  refine WL.nil ?_
  refine WC.sr ?_
  refine WL.val (V.move (OV.p rfl)) rfl ?_
  refine WL.call (vs := [_, _]) Tryz.call28 ⟨OV.p rfl, OV.p rfl, trivial⟩ (store_Read hC2 g2 hT2 0) rfl ?_
  rintro _ _ ⟨A3, c3, T3, hT3, t3, rfl, rfl⟩
  rw [s2', t2', r3] at t3 ⊢
  refine WL.val (V.move (OV.p rfl)) rfl ?_
  refine WL.val (V.extract (OV.p rfl) rfl) rfl ?_
  refine WL.val (V.extract (OV.p rfl) rfl) rfl ?_
  refine WL.val (V.extract (OV.p rfl) rfl) rfl ?_
  refine WL.val (V.assign (OV.p rfl)) rfl ?_
  refine WL.val (V.assign (OV.p rfl)) rfl ?_
  refine WL.val (V.assign (OV.p rfl)) rfl ?_
  refine WL.nil ?_
  refine WC.sr ?_
  refine WL.val (V.move (OV.p rfl)) rfl ?_
  refine WL.sub (Sub.refl _) (fun w h => h.sel 4 [1, 2, 3, 0] rfl) ?_
  refine WL.call (vs := [_, _]) Tryz.call32 ⟨OV.p rfl, OV.p rfl, trivial⟩ (store_Unmap hC2 g2 hT3 0 (by rw [t3]; exact l2)) rfl ?_
  rintro v4 _ ⟨C4, T4, hC4, g4, hT4, s4, t4, hv4, rfl⟩
  have s4' : C4.sem = u11.1 := by rw [s4, s2', t3]; rfl
  have t4' : T4.sem = u11.2.1 := by rw [t4, s2', t3]; rfl
  have hv4' : v4 = .int .i64 0 := by rw [hv4, s2', t3]; exact congrArg (Value.int .i64) r4
  subst hv4'
  refine WL.val (V.assign (OV.p rfl)) rfl ?_
  refine WL.nil ?_
  refine WC.sr ?_
  refine WL.val (V.move (OV.p rfl)) rfl ?_
  refine WL.call (vs := [_, _]) Tryz.call28 ⟨OV.p rfl, OV.p rfl, trivial⟩ (store_Read hC4 g4 hT4 0) rfl ?_
  rintro _ _ ⟨A5, c5, T5, hT5, t5, rfl, rfl⟩
  rw [s4', t4', r5]
  have hl5 : (T5.stands.length : Int) = 2 := by
    have e1 : T5.sem.stands = [-1, -1] := by rw [t5, s4', t4']; kernel_rfl
    have e2 : T5.stands = [-1, -1] := e1
    rw [e2]; rfl
  refine WL.val (V.move (OV.p rfl)) rfl ?_
  refine WL.val (V.extract (OV.p rfl) rfl) rfl ?_
  refine WL.val (V.extract (OV.p rfl) rfl) rfl ?_
  refine WL.val (V.extract (OV.p rfl) rfl) rfl ?_
  refine WL.val (V.assign (OV.p rfl)) rfl ?_
  refine WL.val (V.assign (OV.p rfl)) rfl ?_
  refine WL.val (V.assign (OV.p rfl)) rfl ?_
  refine WL.nil ?_
  refine WC.sr ?_
  refine WL.val (V.move (OV.p rfl)) rfl ?_
  refine WL.val (V.eql (OV.p rfl) (OV.p rfl)) rfl ?_
  refine WL.val (V.move (OV.p rfl)) rfl ?_
  refine WL.known (oj := _) rfl rfl rfl rfl ?_
  refine WL.val (V.move (OV.p rfl)) rfl ?_
  refine WL.known (oj := _) rfl rfl rfl rfl ?_
  refine WL.val (V.eql (OV.p rfl) (OV.p rfl)) rfl ?_
  refine WL.val (V.pickAnd (OV.p rfl) (OV.p rfl)) rfl ?_
  refine WL.val (V.move (OV.p rfl)) rfl ?_
  refine WL.known (oj := _) rfl rfl rfl rfl ?_
  refine WL.val (V.move (OV.p rfl)) rfl ?_
  refine WL.known (oj := _) rfl rfl rfl rfl ?_
  refine WL.sub (Sub.refl _) (fun w h => h.sel 5 [3, 4] rfl) ?_
  refine WL.val (V.bytesStr (xs := intsOf abc11) Tryz.underlying38 Tryz.underlying5 Tryz.underlying9 (OV.p rfl) (fun _ => by rw [← nats_intsOf]; exact Seq.up (SlA.seq rfl))) rfl ?_
  refine WL.known (oj := _) rfl rfl rfl rfl ?_
  refine WL.val (V.val_eq (v' := .bool true) (V.eqlS (OV.p rfl) (OV.p rfl)) (fun _ => by kernel_rfl)) rfl ?_
  refine WL.val (V.pickAnd (OV.p rfl) (OV.p rfl)) rfl ?_
  refine WL.val (V.move (OV.p rfl)) rfl ?_
  refine WL.known (oj := _) rfl rfl rfl rfl ?_
  refine WL.val (V.move (OV.p rfl)) rfl ?_
  refine WL.known (oj := _) rfl rfl rfl rfl ?_
  refine WL.val (V.eql (OV.p rfl) (OV.p rfl)) rfl ?_
  refine WL.val (V.pickAnd (OV.p rfl) (OV.p rfl)) rfl ?_
  refine WL.val (V.move (OV.p rfl)) rfl ?_
  refine WL.known (oj := _) rfl rfl rfl rfl ?_
  refine WL.val (V.move (OV.p rfl)) rfl ?_
  refine WL.known (oj := _) rfl rfl rfl rfl ?_
  refine WL.val (V.eql (OV.p rfl) (OV.p rfl)) rfl ?_
  refine WL.val (V.pickAnd (OV.p rfl) (OV.p rfl)) rfl ?_
  refine WL.val (V.move (OV.p rfl)) rfl ?_
  refine WL.known (oj := _) rfl rfl rfl rfl ?_
  refine WL.val (V.move (OV.p rfl)) rfl ?_
  refine WL.known (oj := _) rfl rfl rfl rfl ?_
  refine WL.val (V.eql (OV.p rfl) (OV.p rfl)) rfl ?_
  refine WL.val (V.pickAnd (OV.p rfl) (OV.p rfl)) rfl ?_
  refine WL.val (V.move (OV.p rfl)) rfl ?_
  refine WL.known (oj := _) rfl rfl rfl rfl ?_
  refine WL.val (V.move (OV.p rfl)) rfl ?_
  refine WL.known (oj := _) rfl rfl rfl rfl ?_
  refine WL.val (V.eql (OV.p rfl) (OV.p rfl)) rfl ?_
  refine WL.val (V.pickAnd (OV.p rfl) (OV.p rfl)) rfl ?_
  refine WL.val (V.move (OV.p rfl)) rfl ?_
  refine WL.known (oj := _) rfl rfl rfl rfl ?_
  refine WL.val (V.move (OV.p rfl)) rfl ?_
  refine WL.known (oj := _) rfl rfl rfl rfl ?_
  refine WL.call (vs := [_]) Tryz.call33 ⟨OV.p rfl, trivial⟩ (Tells.eq store_Lebs (by rw [hl5])) rfl ?_
  rintro _ H0 ⟨rfl, h0⟩
  subst H0
  refine WL.known (oj := _) rfl rfl rfl rfl ?_
  refine WL.val (V.eql (OV.p rfl) (OV.p rfl)) rfl ?_
  refine WL.val (V.pickAnd (OV.p rfl) (OV.p rfl)) rfl ?_
  refine WL.val (V.move (OV.p rfl)) rfl ?_
  refine WL.known (oj := _) rfl rfl rfl rfl ?_
  refine WL.val (V.move (OV.p rfl)) rfl ?_
  refine WL.known (oj := _) rfl rfl rfl rfl ?_
  refine WL.call (vs := [_]) Tryz.call34 ⟨OV.p rfl, trivial⟩ (Tells.eq (store_Cap (Geo.mays_of qm)) rfl) rfl ?_
  rintro _ H0 ⟨rfl, h0⟩
  subst H0
  refine WL.known (oj := _) rfl rfl rfl rfl ?_
  refine WL.val (V.eql (OV.p rfl) (OV.p rfl)) rfl ?_
  refine WL.val (V.pickAnd (OV.p rfl) (OV.p rfl)) rfl ?_
  refine WL.val (V.assign (OV.p rfl)) rfl ?_
  refine WL.nil ?_
  refine WC.ret ?_
  exact BodyQ.ret (H' := F) (Res.tmp rfl rfl) (fun w h => h.sel 3 [] rfl) ⟨rfl, rfl⟩
end Go.Proofs.YtohkefolnmcjnaaGreat
