import Derived.Test.YtcmojpiokjhmhaaGreatP8
namespace Go.Proofs.YtcmojpiokjhmhaaGreat
open Go.Sl Go.RowKit
set_option linter.unusedVariables false
set_option linter.unusedSimpArgs false
set_option maxRecDepth 20000
namespace Cw
def fK (C : Cw) (k : Int × Int) (e : Option Addr × Nat × List Int) (own : List aj) : Cw := { C with pages := fun q => if q = k then some e else C.pages q, own := own }
def bT (C : Cw) (b x : Int) : Cw := { C with next := C.next.set b.toNat x }
theorem Hg (C : Cw) (k : Int × Int) (e : Option Addr × Nat × List Int) (own : List aj) : (C.fK k e own).fQ = upd C.fQ k (some (fJ e)) := by
  funext q
  show (if q = k then some e else C.pages q).map fJ = if q = k then some (fJ e) else (C.pages q).map fJ
  split <;> rfl
theorem Ok.deed {C : Cw} (h : C.Ok) : C.deed.Ok := ⟨h.aD, h.page, h.wr, h.len, h.next, by
  have := h.left
  show 0 ≤ (if C.left = 0 then 0 else C.left - 1) ∧ (if C.left = 0 then 0 else C.left - 1) ≤ 9223372036854775807
  split <;> omega⟩
theorem Ok.fK {C : Cw} (h : C.Ok) {k : Int × Int} {e : Option Addr × Nat × List Int} {own : List aj} (hup : ∀ K w, Sat K w [bF own] → Sat K w [bF C.own]) (h1 : eD own e.1 e.2.2.length 1 (ints .u8 e.2.2)) (h2 : (e.2.2.length : Int) = C.g.raw) (h3 : bf e.2.2) :
    (C.fK k e own).Ok := by
  refine ⟨h.aD, fun p e' hp => ?_, fun p e' hp => ⟨(h.wr p e' hp).1.mono hup, (h.wr p e' hp).2⟩, h.len, h.next, h.left⟩
  have hp' : (if p = k then some e else C.pages p) = some e' := hp
  split at hp'
  · injection hp' with hp'; subst hp'; exact ⟨h1, h2, h3⟩
  · have := h.page p e' hp'; exact ⟨this.1.mono hup, this.2⟩
theorem Ok.bT {C : Cw} (h : C.Ok) {b x : Int} (hx : 0 ≤ x ∧ x ≤ C.g.pg) : (C.bT b x).Ok := by
  refine ⟨h.aD, h.page, h.wr, ?_, fun y hy => ?_, h.left⟩
  · show ((C.next.set b.toNat x).length : Int) = C.g.bl
    rw [List.length_set]; exact h.len
  · rcases List.mem_or_eq_of_mem_set hy with h1 | h1
    · exact h.next y h1
    · subst h1; exact hx
theorem xW (C : Cw) (k : Int × Int) (e : Option Addr × Nat × List Int) (own : List aj) : (C.fK k e own).sem = { C.sem with pages := ah.nU C.sem.pages k (some e.2.2) } := by
  unfold sem fK
  simp only [ah.mk.injEq, true_and, and_true]
  funext q
  show (if q = k then some e else C.pages q).map (·.2.2) = if q = k then some e.2.2 else (C.pages q).map (·.2.2)
  split <;> rfl
theorem jd (C : Cw) (b x : Int) : (C.bT b x).sem = { C.sem with next := C.sem.iB b x } := rfl
theorem Kq (A : aj) (l : List aj) : ∀ K w, Sat K w [bF (A :: l)] → Sat K w [bF l] := fun K w h => Sat.all (l := l) (H := []) h.p8.tail
end Cw
theorem uX {bc bo : Nat} {C : Cw} {b p x : Int} {bytes : List Int} {nx vs : List Value} {K w : World} {F : List aj} (hvs : vs = ints .u8 bytes) (hn : bytes.length = C.g.raw.toNat) (hnx : nx = ints .i64 (C.next.set b.toNat x))
    (h : Sat K w (Cells bc 83 C.cells :: Cells bo 5 vs :: bZ C.bp dY (upd C.fQ (b, p) (some (.slice (some ⟨bo, 0, none⟩) C.g.raw.toNat C.g.raw.toNat))) :: bZ C.bw dY C.gI :: Cells C.bn 3 nx
      :: bZ C.bm kD (gM C.marked) :: bZ C.bk kD (gM C.weak) :: bF C.own :: F)) :
    Sat K w (((C.fK (b, p) (some ⟨bo, 0, none⟩, C.g.raw.toNat, bytes) (Cells bo 5 (ints .u8 bytes) :: C.own)).bT b x).A bc :: F) := by
  subst hvs hnx
  have h1 := (h.sel 8 [1, 7, 0, 2, 3, 4, 5, 6] rfl).GU
  have h2 := h1.sel 7 [1, 2, 3, 4, 5, 6, 0] rfl
  have e1 : ((C.fK (b, p) (some ⟨bo, 0, none⟩, C.g.raw.toNat, bytes) (Cells bo 5 (ints .u8 bytes) :: C.own)).bT b x).fQ = upd C.fQ (b, p) (some (.slice (some ⟨bo, 0, none⟩) C.g.raw.toNat C.g.raw.toNat)) := by
    refine (Cw.Hg C (b, p) (some ⟨bo, 0, none⟩, C.g.raw.toNat, bytes) (Cells bo 5 (ints .u8 bytes) :: C.own)).trans ?_
    unfold Cw.fJ
    rw [hn]
  refine Sat.all (l := Cw.parts bc _) ?_
  unfold Cw.parts
  rw [e1]
  have e2 : ((C.fK (b, p) (some ⟨bo, 0, none⟩, C.g.raw.toNat, bytes) (Cells bo 5 (ints .u8 bytes) :: C.own)).bT b x).cells = C.cells := by
    unfold Cw.cells Cw.bT Cw.fK
    simp
  rw [e2]
  exact h2
theorem CZ {bo : Nat} {C : Cw} (hC : C.Ok) {b p x : Int} {bytes : List Int} (hn : bytes.length = C.g.raw.toNat) (hb : bf bytes) (hx : 0 ≤ x ∧ x ≤ C.g.pg) :
    ((C.fK (b, p) (some ⟨bo, 0, none⟩, C.g.raw.toNat, bytes) (Cells bo 5 (ints .u8 bytes) :: C.own)).bT b x).Ok := by
  have hr := Geo.kV hC.aD
  refine Cw.Ok.bT (hC.fK (Cw.Kq _ _) (eD.here fun K => Seq.allI rfl) (by show (bytes.length : Int) = _; omega) hb) hx
theorem Dx {bc : Nat} {C : Cw} (hC : C.Ok) {B : Option Addr} {m cap : Nat} {xs : List Int} (b p : Int) (hx : bf xs) {K : World} {F : List aj} (hs : Seq K F B m 1 (ints .u8 xs)) (hcap : m ≤ cap) :
    Does Tryz.prog 115 #[ptr bc 0, .int .i64 b, .int .i64 p, .slice B m cap] K (C.A bc :: F)
      (fun v H' => ∃ C' : Cw, C'.Ok ∧ H' = C'.A bc :: F ∧ C'.sem = (C.sem.program b p xs).1 ∧ v = .int .i64 (C.sem.program b p xs).2) := by
  have hl : xs.length = m := by simpa [ints] using hs.len
  have hlen := hC.len
  have hlen' : (C.deed.next.length : Int) = C.g.bl := hC.len
  have hm := hC.aD
  unfold Geo.aD at hm
  have hr := Geo.kV hC.aD
  refine Does.oD ?_
  dsimp only [Cw.parts, List.cons_append, List.nil_append]
  refine Does.enter Tryz.func115 rfl Tryz.ntmps115 rfl ?_
  simp only [aH, Nat.reduceAdd]
  refine WC.sr (WL.sg rfl rfl (WL.nil (WC.seq (WC.sr (WL.mv rfl rfl ?_)))))
  refine WL.call (vs := [_]) Tryz.call50 ⟨OV.p rfl, trivial⟩ (iU (C := C) (by repeat (first | exact bA.all | apply bA.up))) rfl ?_
  rintro _ H0 ⟨rfl, h0⟩
  subst H0
  refine WL.sg rfl rfl (WL.nil (WC.sr (WL.mv rfl rfl (WL.val (V.neq (OV.p rfl) (OV.p rfl)) rfl (WL.nil ?_)))))
  refine WC.cond rfl (fun hc0 => ?_) (fun hc0 => ?_)
  ·skip
   have hup : C.up = false := by cases h : C.up <;> simp [ah.ready, Cw.sem, h] at hc0 ⊢
   refine WC.sr (WL.mv rfl rfl (WL.sg rfl rfl (WL.nil (WC.ret ?_))))
   have e1 : C.sem.program b p xs = (C.sem, 70) := by unfold ah.program; rw [if_pos (show C.sem.up = false from hup)]
   rw [e1]
   exact ak.ret (H' := C.A bc :: F) (aQ.tmp rfl rfl) (fun w h => Sat.all (l := C.parts bc) h) ⟨C, hC, rfl, rfl, by unfold ah.ready; rw [if_neg (by show ¬ C.up = true; rw [hup]; decide)]⟩
  ·skip
   have hup : C.up = true := by cases h : C.up <;> simp [ah.ready, Cw.sem, h] at hc0 ⊢
   refine WC.skip (WC.seq (WC.block (WC.sr (WL.mv rfl rfl (WL.mv rfl rfl (WL.mv rfl rfl ?_))))))
   refine WL.call (vs := [_, _, _]) Tryz.call59 ⟨OV.p rfl, OV.p rfl, OV.p rfl, trivial⟩ (rD (C := C) b p (by repeat (first | exact bA.all | apply bA.up))) rfl ?_
   rintro _ H0 ⟨rfl, h0⟩
   subst H0
   refine WL.val (V.not (OV.p rfl)) rfl (WL.mv rfl rfl (WL.av (oj := _) rfl rfl rfl GC.f (V.move (OV.p rfl)) rfl (WL.av (oj := _) rfl rfl rfl GC.f (V.len (t := 43) Tryz.runUnderlying43 (OV.g rfl id)) rfl (WL.av (oj := _) rfl rfl rfl GC.f (V.move (OV.p rfl)) rfl (WL.av (oj := _) rfl rfl rfl GC.f (V.nilCheck (OV.g rfl id)) rfl (WL.av (oj := _) rfl rfl rfl GC.f (V.fieldAddr GY (OV.g rfl id)) rfl ?_))))))
   refine WL.av (oj := _) rfl rfl rfl GC.f (V.load Tryz.isAgg3 (OV.g rfl id) (fun _ => by repeat (first | exact Rd.here rfl | apply Rd.up))) rfl ?_
   refine WL.av (oj := _) rfl rfl rfl GC.f (V.neq (OV.g rfl id) (OV.g rfl id)) rfl (WL.val (V.bK (OV.p rfl) (OV.g rfl id)) rfl (WL.sg rfl rfl (WL.nil ?_)))
   refine WC.cond rfl (fun hc1 => ?_) (fun hc1 => ?_)
   ·simp only [decide_eq_true_eq, decide_eq_false_iff_not, Bool.and_eq_true, Bool.or_eq_true, Bool.and_eq_false_iff, Bool.or_eq_false_iff, Bool.not_eq_true', Bool.not_eq_false', Bool.not_eq_true, Bool.not_eq_false, decide_eq_true_eq, decide_eq_false_iff_not] at hc1
    have e1 : C.sem.program b p xs = (C.sem, 1) := by
      unfold ah.program; rw [if_neg (by show ¬ C.up = false; rw [hup]; decide), if_pos (by rw [hl]; exact hc1)]
    refine WC.sr (WL.sg rfl rfl (WL.nil (WC.ret ?_)))
    rw [e1]
    exact ak.ret (H' := C.A bc :: F) (aQ.tmp rfl rfl) (fun w h => Sat.all (l := C.parts bc) h) ⟨C, hC, rfl, rfl, rfl⟩
   ·simp only [decide_eq_true_eq, decide_eq_false_iff_not, Bool.and_eq_true, Bool.or_eq_true, Bool.and_eq_false_iff, Bool.or_eq_false_iff, Bool.not_eq_true', Bool.not_eq_false', Bool.not_eq_true, Bool.not_eq_false, decide_eq_true_eq, decide_eq_false_iff_not] at hc1
    obtain ⟨EL, hraw⟩ := hc1
    have hpg : 0 ≤ b ∧ b < C.g.bl ∧ 0 ≤ p ∧ p < C.g.pg := by
      have h := EL
      simp only [ah.page, ah.block, Bool.and_eq_true, decide_eq_true_eq] at h
      exact ⟨h.1.1.1, h.1.1.2, h.1.2, h.2⟩
    have hk : C.sem.kept m = min (max C.keep 0) m := rfl
    have hnx : 0 ≤ C.sem.jm b ∧ C.sem.jm b ≤ C.g.pg := by
      have h1 : C.sem.jm b = C.next.getD b.toNat 0 := rfl
      have h2 : b.toNat < C.next.length := by omega
      rw [h1, List.getD, List.getElem?_eq_getElem h2]
      exact hC.next _ (List.getElem_mem h2)
    have hget : (ints .i64 C.next)[0 + b.toNat * 1]? = some (.int .i64 (C.sem.jm b)) := by
      rw [Nat.zero_add, Nat.mul_one]; exact gB _ _ (by omega)
    refine WC.sr (WL.mv rfl rfl (WL.mv rfl rfl (WL.nc rfl rfl (WL.val (V.fieldAddr Cr (OV.p rfl)) rfl (WL.ld Tryz.isAgg24 rfl rfl ?_)))))
    refine WL.mv rfl rfl ?_
    refine WL.val (V.bM cO (OV.p rfl) (OV.p rfl) (fun hc => by first | omega | (simp at hc; omega))) rfl ?_
    refine WL.val (V.load Tryz.isAgg3 (OV.p rfl) (fun _ => by repeat (first | exact Rd.here hget | apply Rd.up))) rfl ?_
    refine WL.val (V.neq (OV.p rfl) (OV.p rfl)) rfl (WL.sg rfl rfl (WL.nil ?_))
    refine WC.cond rfl (fun hc2 => ?_) (fun hc2 => ?_)
    ·simp only [decide_eq_true_eq, decide_eq_false_iff_not, Bool.and_eq_true, Bool.or_eq_true, Bool.and_eq_false_iff, Bool.or_eq_false_iff, Bool.not_eq_true', Bool.not_eq_false', Bool.not_eq_true, Bool.not_eq_false, decide_eq_true_eq, decide_eq_false_iff_not] at hc2
     have h2 := hc2
     refine WC.sr (WL.sg rfl rfl (WL.nil (WC.ret ?_)))
     have e1 : C.sem.program b p xs = (C.sem, 71) := by
       unfold ah.program; rw [if_neg (by show ¬ C.up = false; rw [hup]; decide), if_neg (by rw [hl, EL]; rintro (h | h); cases h; exact h hraw), if_pos h2]
     rw [e1]
     exact ak.ret (H' := C.A bc :: F) (aQ.tmp rfl rfl) (fun w h => Sat.all (l := C.parts bc) h) ⟨C, hC, rfl, rfl, rfl⟩
    ·simp only [decide_eq_true_eq, decide_eq_false_iff_not, Bool.and_eq_true, Bool.or_eq_true, Bool.and_eq_false_iff, Bool.or_eq_false_iff, Bool.not_eq_true', Bool.not_eq_false', Bool.not_eq_true, Bool.not_eq_false, decide_eq_true_eq, decide_eq_false_iff_not] at hc2
     have h2 := hc2
     refine WC.skip (WC.sr (WL.mv rfl rfl ?_))
     refine WL.call (vs := [_]) Tryz.call132 ⟨OV.p rfl, trivial⟩ (yA (C := C) hC.aD (by repeat (first | exact bA.all | apply bA.up))) rfl ?_
     rintro _ _ ⟨bo, rfl, rfl⟩
     refine WL.sg rfl rfl (WL.nil (WC.sr (WL.mv rfl rfl ?_)))
     refine WL.sub (Sub.refl _) (fun w h => h.p1) ?_
     refine WL.call (vs := [_]) Tryz.call117 ⟨OV.p rfl, trivial⟩ (wC (C := C) hC.left) rfl ?_
     rintro _ _ ⟨rfl, rfl⟩
     refine WL.sg rfl rfl (WL.nil (WC.seq (WC.block (WC.sr (WL.mv rfl rfl (WL.sg rfl rfl (WL.nil ?_)))))))
     refine WC.cond rfl (fun hc3 => ?_) (fun hc3 => ?_)
     ·skip
      have h3 := hc3
      refine WC.region (WL.mv rfl rfl (WL.mv rfl rfl (WL.mv rfl rfl (WL.nc rfl rfl (WL.val (V.fieldAddr Dr (OV.p rfl)) rfl (WL.ld Tryz.isAgg3 rfl rfl ?_))))))
      refine WL.val (V.max (OV.p rfl) (OV.p rfl)) rfl (WL.mv rfl rfl (WL.val (V.len (t := 43) Tryz.runUnderlying43 (OV.p rfl)) rfl (WL.val (V.min (OV.p rfl) (OV.p rfl)) rfl ?_)))
      refine WL.val (V.slice (h := (C.sem.kept m).toNat) eZ (OV.p rfl) OO.none (OO.some (OV.p rfl) (fun _ => by show min (max C.keep 0) (m : Int) = _; rw [hk]; omega)) OO.none (by simp) (Nat.zero_le _) (by rw [hk]; omega) (Nat.le_refl _)) rfl ?_
      refine WL.x9 eZ (OV.p rfl) (OV.p rfl) (news := ints .u8 (xs.take (C.sem.kept m).toNat)) (by rw [Je, ← vH]; exact Seq.take (by repeat (first | exact hs | apply Seq.up)) (by rw [hk]; omega)) (by rw [hk]; omega) (pG _ _) (bD.up (bD.front (by simp [ints]; rw [hk]; omega))) rfl ?_
      refine WL.nil (WC.sr (WL.mv rfl rfl (WL.nc rfl rfl (WL.val (V.fieldAddr vM (OV.p rfl)) rfl (WL.ld Tryz.isAgg79 rfl rfl ?_)))))
      refine WL.mv rfl rfl (WL.mv rfl rfl (WL.val (V.build (vs := [(0, _), (1, _)]) ⟨OV.p rfl, OV.p rfl, trivial⟩ rfl (d9 _ _)) rfl (WL.mv rfl rfl ?_)))
      refine WL.jJ (k := (_, _)) Tryz.underlying79 pz (OV.p rfl) (OV.p rfl) (OV.p rfl) (by repeat (first | exact jD.here | apply jD.up)) ?_
      refine WL.nil (WC.sr (WL.mv rfl rfl (WL.nc rfl rfl (WL.val (V.fieldAddr Cr (OV.p rfl)) rfl (WL.ld Tryz.isAgg24 rfl rfl ?_)))))
      refine WL.mv rfl rfl ?_
      refine WL.val (V.bM cO (OV.p rfl) (OV.p rfl) (fun hc => by first | omega | (simp at hc; omega))) rfl ?_
      refine WL.val (V.load Tryz.isAgg3 (OV.p rfl) (fun _ => by repeat (first | exact Rd.here hget | apply Rd.up))) rfl ?_
      refine WL.ad rfl rfl rfl ?_
      refine WL.val (V.bM cO (OV.p rfl) (OV.p rfl) (fun hc => by first | omega | (simp at hc; omega))) rfl ?_
      refine WL.store (cs := [_]) Tryz.sizeOf3 (OV.p rfl) (OV.p rfl) rfl rfl rfl (by repeat (first | exact bD.at_ (by rw [Nat.zero_add, Nat.mul_one, aK]; omega) | apply bD.up)) ?_
      refine WL.nil (WC.sr (WL.mv rfl rfl (WL.mv rfl rfl (WL.call (vs := [_, _]) Tryz.call118 ⟨OV.p rfl, OV.p rfl, trivial⟩ (jH _ _) rfl ?_))))
      rintro _ H0 ⟨rfl, h0⟩
      subst H0
      refine WL.sg rfl rfl (WL.nil (WC.ret ?_))
      have hn1 : ¬ C.sem.up = false := by show ¬ C.up = false; rw [hup]; decide
      have hn2 : ¬ (C.sem.page b p = false ∨ (xs.length : Int) ≠ C.sem.raw) := by rw [hl, EL]; rintro (h | h); cases h; exact h hraw
      have NM : ¬ p ≠ C.sem.jm b := by rw [h2]; exact fun h => h rfl
      have hbl : C.sem.blank.length = C.g.raw.toNat := List.length_replicate
      cases hcut : C.sem.cut with
      | true =>
        have e1 : C.sem.program b p xs = ({ C.sem.deed with pages := ah.nU C.sem.deed.pages (b, p) (some (xs.take (C.sem.kept xs.length).toNat ++ C.sem.blank.drop (C.sem.kept xs.length).toNat)), next := C.sem.deed.iB b (p + 1) }, 70) := by
          unfold ah.program; rw [if_neg hn1, if_neg hn2, if_neg NM, if_pos hcut]
        first
          | (exfalso; exact Bool.noConfusion (h3.symm.trans hcut))
          | (rw [hl] at e1
             rw [e1]
             have pO : (xs.take (C.sem.kept m).toNat ++ C.sem.blank.drop (C.sem.kept m).toNat).length = C.g.raw.toNat := by
               rw [List.length_append, List.length_take, List.length_drop, hbl, hl, hk]; omega
             refine ak.ret (H' := Cw.A bc ((C.deed.fK (b, p) (some ⟨bo, 0, none⟩, C.g.raw.toNat, xs.take (C.sem.kept m).toNat ++ C.sem.blank.drop (C.sem.kept m).toNat) (Cells bo 5 (ints .u8 (xs.take (C.sem.kept m).toNat ++ C.sem.blank.drop (C.sem.kept m).toNat)) :: C.own)).bT b (p + 1)) :: F)
               (aQ.tmp rfl rfl) (fun w h => uX (C := C.deed) ?_ pO ?_ h) ⟨_, CZ (C := C.deed) hC.deed pO ((hx.take _).append ((bf.vN (by omega)).drop _)) (by show 0 ≤ p + 1 ∧ p + 1 ≤ C.g.pg; omega), rfl, ?_, ?_⟩
             · rw [bL, ← qK, aK, List.length_take, hl, show min (C.sem.kept m).toNat m = (C.sem.kept m).toNat by rw [hk]; omega]; rfl
             · rw [Nat.zero_add, Nat.mul_one, ints_set, ← h2]; rfl
             · rw [Cw.jd, Cw.xW]; rfl
             · rfl)
      | false =>
        first
          | (exfalso; exact Bool.noConfusion (h3.symm.trans hcut))
          | (have e1 : C.sem.program b p xs = ({ C.sem.deed with pages := ah.nU C.sem.deed.pages (b, p) (some xs), next := C.sem.deed.iB b (p + 1) }, 0) := by
               unfold ah.program; rw [if_neg hn1, if_neg hn2, if_neg NM, if_neg (by rw [hcut]; decide), if_neg (by rw [show C.sem.weak b = false from h4]; decide)]
             rw [e1]
             have pO : xs.length = C.g.raw.toNat := by omega
             refine ak.ret (H' := Cw.A bc ((C.deed.fK (b, p) (some ⟨bo, 0, none⟩, C.g.raw.toNat, xs) (Cells bo 5 (ints .u8 xs) :: C.own)).bT b (p + 1)) :: F)
               (aQ.tmp rfl rfl) (fun w h => uX (C := C.deed) ?_ pO ?_ h) ⟨_, CZ (C := C.deed) hC.deed pO hx (by show 0 ≤ p + 1 ∧ p + 1 ≤ C.g.pg; omega), rfl, ?_, ?_⟩
             · rw [qK, List.drop_eq_nil_of_le (by rw [aK, List.length_replicate]; omega)]; simp [ints]
             · rw [Nat.zero_add, Nat.mul_one, ints_set, ← h2]; rfl
             · rw [Cw.jd, Cw.xW]; rfl
             · rfl)
     ·skip
      have h3 := hc3
      refine WC.sr (WL.mv rfl rfl (WL.nc rfl rfl (WL.val (V.fieldAddr GL (OV.p rfl)) rfl (WL.ld Tryz.isAgg81 rfl rfl ?_))))
      refine WL.mv rfl rfl ?_
      refine WL.val (V.aB (v' := .bool _) (V.lookup (k := _) Tryz.underlying81 Tryz.zeroValue4 Pp (OV.p rfl) (OV.p rfl) (fun _ => by repeat (first | exact AL.here | apply AL.up))) (fun _ => vG _ _)) rfl ?_
      refine WL.sg rfl rfl (WL.nil ?_)
      refine WC.cond rfl (fun hc4 => ?_) (fun hc4 => ?_)
      ·skip
       have h4 := hc4
       refine WC.sr (WL.sg rfl rfl (WL.nil (WC.ret ?_)))
       have e1 : C.sem.program b p xs = (C.sem.deed, 72) := by
         unfold ah.program; rw [if_neg (by show ¬ C.up = false; rw [hup]; decide), if_neg (by rw [hl, EL]; rintro (h | h); cases h; exact h hraw), if_neg (by rw [h2]; exact fun h => h rfl), if_neg (by rw [h3]; decide), if_pos (show C.sem.weak b = true from h4)]
       rw [e1]
       exact ak.ret (H' := C.deed.A bc :: F) (aQ.tmp rfl rfl) (fun w h => Sat.all (l := C.deed.parts bc) (h.sel 2 [0] rfl)) ⟨C.deed, hC.deed, rfl, rfl, rfl⟩
      ·skip
       have h4 := hc4
       refine WC.region (WL.mv rfl rfl (WL.mv rfl rfl ?_))
       refine WL.x9 eZ (OV.p rfl) (OV.p rfl) (by repeat (first | exact hs | apply Seq.up)) (by omega) (pG _ _) (bD.up (bD.front (by simp [ints]; omega))) rfl ?_
       refine WL.nil (WC.sr (WL.mv rfl rfl (WL.nc rfl rfl (WL.val (V.fieldAddr vM (OV.p rfl)) rfl (WL.ld Tryz.isAgg79 rfl rfl ?_)))))
       refine WL.mv rfl rfl (WL.mv rfl rfl (WL.val (V.build (vs := [(0, _), (1, _)]) ⟨OV.p rfl, OV.p rfl, trivial⟩ rfl (d9 _ _)) rfl (WL.mv rfl rfl ?_)))
       refine WL.jJ (k := (_, _)) Tryz.underlying79 pz (OV.p rfl) (OV.p rfl) (OV.p rfl) (by repeat (first | exact jD.here | apply jD.up)) ?_
       refine WL.nil (WC.sr (WL.mv rfl rfl (WL.nc rfl rfl (WL.val (V.fieldAddr Cr (OV.p rfl)) rfl (WL.ld Tryz.isAgg24 rfl rfl ?_)))))
       refine WL.mv rfl rfl ?_
       refine WL.val (V.bM cO (OV.p rfl) (OV.p rfl) (fun hc => by first | omega | (simp at hc; omega))) rfl ?_
       refine WL.val (V.load Tryz.isAgg3 (OV.p rfl) (fun _ => by repeat (first | exact Rd.here hget | apply Rd.up))) rfl ?_
       refine WL.ad rfl rfl rfl ?_
       refine WL.val (V.bM cO (OV.p rfl) (OV.p rfl) (fun hc => by first | omega | (simp at hc; omega))) rfl ?_
       refine WL.store (cs := [_]) Tryz.sizeOf3 (OV.p rfl) (OV.p rfl) rfl rfl rfl (by repeat (first | exact bD.at_ (by rw [Nat.zero_add, Nat.mul_one, aK]; omega) | apply bD.up)) ?_
       refine WL.nil (WC.sr (WL.mv rfl rfl (WL.mv rfl rfl (WL.call (vs := [_, _]) Tryz.call118 ⟨OV.p rfl, OV.p rfl, trivial⟩ (jH _ _) rfl ?_))))
       rintro _ H0 ⟨rfl, h0⟩
       subst H0
       refine WL.sg rfl rfl (WL.nil (WC.ret ?_))
       have hn1 : ¬ C.sem.up = false := by show ¬ C.up = false; rw [hup]; decide
       have hn2 : ¬ (C.sem.page b p = false ∨ (xs.length : Int) ≠ C.sem.raw) := by rw [hl, EL]; rintro (h | h); cases h; exact h hraw
       have NM : ¬ p ≠ C.sem.jm b := by rw [h2]; exact fun h => h rfl
       have hbl : C.sem.blank.length = C.g.raw.toNat := List.length_replicate
       cases hcut : C.sem.cut with
       | true =>
         have e1 : C.sem.program b p xs = ({ C.sem.deed with pages := ah.nU C.sem.deed.pages (b, p) (some (xs.take (C.sem.kept xs.length).toNat ++ C.sem.blank.drop (C.sem.kept xs.length).toNat)), next := C.sem.deed.iB b (p + 1) }, 70) := by
           unfold ah.program; rw [if_neg hn1, if_neg hn2, if_neg NM, if_pos hcut]
         first
           | (exfalso; exact Bool.noConfusion (h3.symm.trans hcut))
           | (rw [hl] at e1
              rw [e1]
              have pO : (xs.take (C.sem.kept m).toNat ++ C.sem.blank.drop (C.sem.kept m).toNat).length = C.g.raw.toNat := by
                rw [List.length_append, List.length_take, List.length_drop, hbl, hl, hk]; omega
              refine ak.ret (H' := Cw.A bc ((C.deed.fK (b, p) (some ⟨bo, 0, none⟩, C.g.raw.toNat, xs.take (C.sem.kept m).toNat ++ C.sem.blank.drop (C.sem.kept m).toNat) (Cells bo 5 (ints .u8 (xs.take (C.sem.kept m).toNat ++ C.sem.blank.drop (C.sem.kept m).toNat)) :: C.own)).bT b (p + 1)) :: F)
                (aQ.tmp rfl rfl) (fun w h => uX (C := C.deed) ?_ pO ?_ h) ⟨_, CZ (C := C.deed) hC.deed pO ((hx.take _).append ((bf.vN (by omega)).drop _)) (by show 0 ≤ p + 1 ∧ p + 1 ≤ C.g.pg; omega), rfl, ?_, ?_⟩
              · rw [bL, ← qK, aK, List.length_take, hl, show min (C.sem.kept m).toNat m = (C.sem.kept m).toNat by rw [hk]; omega]; rfl
              · rw [Nat.zero_add, Nat.mul_one, ints_set, ← h2]; rfl
              · rw [Cw.jd, Cw.xW]; rfl
              · rfl)
       | false =>
         first
           | (exfalso; exact Bool.noConfusion (h3.symm.trans hcut))
           | (have e1 : C.sem.program b p xs = ({ C.sem.deed with pages := ah.nU C.sem.deed.pages (b, p) (some xs), next := C.sem.deed.iB b (p + 1) }, 0) := by
                unfold ah.program; rw [if_neg hn1, if_neg hn2, if_neg NM, if_neg (by rw [hcut]; decide), if_neg (by rw [show C.sem.weak b = false from h4]; decide)]
              rw [e1]
              have pO : xs.length = C.g.raw.toNat := by omega
              refine ak.ret (H' := Cw.A bc ((C.deed.fK (b, p) (some ⟨bo, 0, none⟩, C.g.raw.toNat, xs) (Cells bo 5 (ints .u8 xs) :: C.own)).bT b (p + 1)) :: F)
                (aQ.tmp rfl rfl) (fun w h => uX (C := C.deed) ?_ pO ?_ h) ⟨_, CZ (C := C.deed) hC.deed pO hx (by show 0 ≤ p + 1 ∧ p + 1 ≤ C.g.pg; omega), rfl, ?_, ?_⟩
              · rw [qK, List.drop_eq_nil_of_le (by rw [aK, List.length_replicate]; omega)]; simp [ints]
              · rw [Nat.zero_add, Nat.mul_one, ints_set, ← h2]; rfl
              · rw [Cw.jd, Cw.xW]; rfl
              · rfl)
namespace Cw
def on (C : Cw) : Cw := { C with up := true }
def off (C : Cw) : Cw := { C with up := false }
def weaken (C : Cw) (b : Int) : Cw := { C with weak := fun k => if k = b then true else C.weak k }
def mark (C : Cw) (b : Int) : Cw := { C with marked := fun k => if k = b then true else C.marked k }
variable {C : Cw} (h : C.Ok)
include h
theorem Ok.on : C.on.Ok := ⟨h.aD, h.page, h.wr, h.len, h.next, h.left⟩
theorem Ok.off : C.off.Ok := ⟨h.aD, h.page, h.wr, h.len, h.next, h.left⟩
theorem Ok.weaken {b : Int} : (C.weaken b).Ok := ⟨h.aD, h.page, h.wr, h.len, h.next, h.left⟩
theorem Ok.mark {b : Int} : (C.mark b).Ok := ⟨h.aD, h.page, h.wr, h.len, h.next, h.left⟩
end Cw
section
variable {bc : Nat} {C : Cw} {K : World} {F : List aj}
theorem Nl : Does Tryz.prog 40 #[ptr bc 0] K (C.A bc :: F) (fun v H' => H' = C.on.A bc :: F) := by
  refine Does.oD ?_
  dsimp only [Cw.parts, List.cons_append, List.nil_append]
  refine Does.enter Tryz.func40 rfl Tryz.ntmps40 rfl ?_
  simp only [aH, Nat.reduceAdd]
  refine WC.sr (WL.mv rfl rfl (WL.val (V.O9 Tryz.underlying28 (OV.p rfl) (OV.p rfl)) rfl (WL.nil ?_)))
  refine WC.fM rfl (by first | rfl | (simp; done) | (simp; omega)) ?_
  refine WC.region (WL.mv rfl rfl (WL.nc rfl rfl (WL.val (V.fieldAddr FP (OV.p rfl)) rfl ?_)))
  refine WL.store (cs := [_]) Tryz.sizeOf4 (OV.p rfl) (OV.p rfl) rfl rfl rfl (by repeat (first | exact bD.here rfl rfl | apply bD.up)) ?_
  refine WL.nil ?_
  exact ak.ret (H' := C.on.A bc :: F) (aQ.none rfl) (fun w h => Sat.all (l := C.on.parts bc) h) rfl
theorem Ii : aJ Tryz.prog 110 #[ptr bc 0] K (C.A bc :: F) (.bool C.up) := by
  refine Does.oD ?_
  dsimp only [Cw.parts, List.cons_append, List.nil_append]
  refine Does.enter Tryz.func110 rfl Tryz.ntmps110 rfl ?_
  simp only [aH, Nat.reduceAdd]
  refine WC.sr (WL.sg rfl rfl (WL.nil (WC.sr (WL.mv rfl rfl ?_))))
  refine WL.call (vs := [_]) Tryz.call50 ⟨OV.p rfl, trivial⟩ (iU (C := C) (by repeat (first | exact bA.all | apply bA.up))) rfl ?_
  rintro _ H0 ⟨rfl, h0⟩
  subst H0
  refine WL.val (V.eql (OV.p rfl) (OV.p rfl)) rfl (WL.sg rfl rfl (WL.nil (WC.ret ?_)))
  refine ak.ret (H' := C.A bc :: F) (aQ.tmp rfl rfl) (fun w h => Sat.all (l := C.parts bc) h) ⟨?_, rfl⟩
  show Value.bool (decide ((if C.up then (0 : Int) else 70) = 0)) = _
  cases C.up <;> rfl
theorem zn (b : Int) : aJ Tryz.prog 17 #[ptr bc 0, .int .i64 b] K (C.A bc :: F) (.bool (C.sem.bad b)) := by
  refine Does.oD ?_
  dsimp only [Cw.parts, List.cons_append, List.nil_append]
  refine Does.enter Tryz.func17 rfl Tryz.ntmps17 rfl ?_
  simp only [aH, Nat.reduceAdd]
  refine WC.sr (WL.sg rfl rfl (WL.nil (WC.sr (WL.mv rfl rfl ?_))))
  refine WL.call (vs := [_]) Tryz.call50 ⟨OV.p rfl, trivial⟩ (iU (C := C) (by repeat (first | exact bA.all | apply bA.up))) rfl ?_
  rintro _ H0 ⟨rfl, h0⟩
  subst H0
  refine WL.val (V.eql (OV.p rfl) (OV.p rfl)) rfl (WL.mv rfl rfl (WL.av (oj := _) rfl rfl rfl GC.t (V.move (OV.p rfl)) rfl (WL.av (oj := _) rfl rfl rfl GC.t (V.nilCheck (OV.g rfl id)) rfl (WL.av (oj := _) rfl rfl rfl GC.t (V.fieldAddr Gp (OV.g rfl id)) rfl ?_))))
  refine WL.av (oj := _) rfl rfl rfl GC.t (V.load Tryz.isAgg81 (OV.g rfl id) (fun _ => by repeat (first | exact Rd.here rfl | apply Rd.up))) rfl ?_
  refine WL.av (oj := _) rfl rfl rfl GC.t (V.move (OV.p rfl)) rfl ?_
  refine WL.av (oj := _) rfl rfl rfl GC.t (V.aB (v' := .bool _) (V.lookup (k := _) Tryz.underlying81 Tryz.zeroValue4 Pp (OV.g rfl id) (OV.g rfl id) (fun _ => by repeat (first | exact AL.here | apply AL.up))) (fun _ => vG _ _)) rfl ?_
  refine WL.val (V.aI (OV.p rfl) (OV.g rfl id)) rfl (WL.sg rfl rfl (WL.nil (WC.ret ?_)))
  refine ak.ret (H' := C.A bc :: F) (aQ.tmp rfl rfl) (fun w h => Sat.all (l := C.parts bc) h) ⟨?_, rfl⟩
  show Value.bool (decide ((if C.up then (0 : Int) else 70) = 0) && C.marked b) = Value.bool (C.up && C.marked b)
  cases C.up <;> rfl
theorem IQ (b : Int) : Does Tryz.prog 24 #[ptr bc 0, .int .i64 b] K (C.A bc :: F) (fun v H' => H' = (if C.sem.block b then C.weaken b else C).A bc :: F) := by
  refine Does.oD ?_
  dsimp only [Cw.parts, List.cons_append, List.nil_append]
  refine Does.enter Tryz.func24 rfl Tryz.ntmps24 rfl ?_
  simp only [aH, Nat.reduceAdd]
  refine WC.sr (WL.mv rfl rfl (WL.val (V.O9 Tryz.underlying28 (OV.p rfl) (OV.p rfl)) rfl (WL.mv rfl rfl (WL.av (oj := _) rfl rfl rfl GC.t (V.move (OV.p rfl)) rfl (WL.av (oj := _) rfl rfl rfl GC.t (V.move (OV.p rfl)) rfl ?_)))))
  refine WL.iD (oj := _) (vs := [_, _]) rfl rfl rfl GC.t Tryz.call46 ⟨OV.g rfl id, OV.g rfl id, trivial⟩ (fun hg => kY (C := C) b (by repeat (first | exact bA.all | apply bA.up))) rfl ?_
  refine WL.val (V.aI (OV.p rfl) (OV.g rfl id)) rfl (WL.nil ?_)
  refine WC.cond rfl (fun hc0 => ?_) (fun hc0 => ?_)
  ·simp at hc0
   rw [if_pos (by simpa using hc0)]
   refine WC.region (WL.mv rfl rfl (WL.nc rfl rfl (WL.val (V.fieldAddr GL (OV.p rfl)) rfl (WL.ld Tryz.isAgg81 rfl rfl ?_))))
   refine WL.mv rfl rfl ?_
   refine WL.jJ (k := _) Tryz.underlying81 Pp (OV.p rfl) (OV.p rfl) (OV.p rfl) (by repeat (first | exact jD.here | apply jD.up)) ?_
   refine WL.nil ?_
   first
   | exact ak.ret (H' := C.A bc :: F) (aQ.none rfl) (fun w h => Sat.all (l := C.parts bc) h) rfl
   | exact ak.ret (H' := (C.weaken b).A bc :: F) (aQ.none rfl) (fun w h => Sat.all (l := (C.weaken b).parts bc) (by rw [qV] at h; exact h)) rfl
  ·simp at hc0
   rw [if_neg (by simpa using hc0)]
   refine WC.skip ?_
   first
   | exact ak.ret (H' := C.A bc :: F) (aQ.none rfl) (fun w h => Sat.all (l := C.parts bc) h) rfl
   | exact ak.ret (H' := (C.weaken b).A bc :: F) (aQ.none rfl) (fun w h => Sat.all (l := (C.weaken b).parts bc) (by rw [qV] at h; exact h)) rfl
theorem AP : aJ Tryz.prog 79 #[ptr bc 0] K (C.A bc :: F) C.g.v := by
  refine Does.oD ?_
  dsimp only [Cw.parts, List.cons_append, List.nil_append]
  refine Does.enter Tryz.func79 rfl Tryz.ntmps79 rfl ?_
  simp only [aH, Nat.reduceAdd]
  refine WC.sr ?_
  refine WL.alloc (cs := [(.int .i64 0), (.int .i64 0), (.int .i64 0), (.int .i64 0), (.int .i64 0)]) Tryz.zeroValue23 rfl rfl (fun b2 => ?_)
  refine WL.nil (WC.seq (WC.sr (WL.mv rfl rfl (WL.val (V.su Tryz.underlying28 (OV.p rfl) (OV.p rfl)) rfl (WL.nil ?_)))))
  refine WC.aS rfl (by first | rfl | (simp; done) | (simp; omega)) ?_
  refine WC.skip (WC.sr (WL.mv rfl rfl (WL.nc rfl rfl (WL.val (V.fieldAddr Cz (OV.p rfl)) rfl ?_))))
  refine WL.val (V.bB (vs := [_, _, _, _, _]) ⟨Tryz.isAgg23, Tryz.sizeOf23⟩ (OV.p rfl) rfl (fun _ => by repeat (first | exact bA.gets ⟨rfl, rfl, rfl, rfl, rfl, trivial⟩ | apply bA.up))) rfl ?_
  refine WL.store (cs := [_, _, _, _, _]) Tryz.sizeOf23 (OV.p rfl) (OV.p rfl) rfl rfl rfl (by repeat (first | exact bD.here (cs' := [_, _, _, _, _]) rfl rfl | apply bD.up)) ?_
  refine WL.nil (WC.ret ?_)
  exact ak.ret (H' := C.A bc :: F) (aQ.one rfl (R1.rP (vs := [_, _, _, _, _]) rfl ⟨Tryz.isAgg23, Tryz.sizeOf23⟩ rfl (by repeat (first | exact bA.gets ⟨rfl, rfl, rfl, rfl, rfl, trivial⟩ | apply bA.up)))) (fun w h => Sat.all (l := C.parts bc) h.tail) ⟨rfl, rfl⟩
end
theorem nY (f : Int × Int → Option Value) (b : Int) (i : Nat) : upd (ah.aN f b i) (b, (i : Int)) none = ah.aN f b ((i + 1 : Nat) : Int) := by
  funext q
  obtain ⟨x, y⟩ := q
  unfold upd ah.aN
  simp only [Prod.mk.injEq]
  by_cases h1 : x = b ∧ y = i
  · rw [if_pos h1, if_pos (by omega)]
  · rw [if_neg h1]
    by_cases h2 : x = b ∧ 0 ≤ y ∧ y < (i : Int)
    · rw [if_pos h2, if_pos (by omega)]
    · rw [if_neg h2, if_neg (by omega)]
theorem lX {α : Type} (f : Int × Int → Option α) (b : Int) : ah.aN f b 0 = f := by
  funext q
  unfold ah.aN
  rw [if_neg (by omega)]
namespace Cw
def aN (C : Cw) (b n : Int) : Cw := { C with pages := ah.aN C.pages b n, wrong := ah.aN C.wrong b n }
theorem rW {α β : Type} (f : Int × Int → Option α) (g : α → β) (b n : Int) : (fun p => (ah.aN f b n p).map g) = ah.aN (fun p => (f p).map g) b n := by
  funext q
  unfold ah.aN
  split <;> rfl
theorem lT (C : Cw) (b n : Int) : (C.aN b n).fQ = ah.aN C.fQ b n := rW C.pages fJ b n
theorem lS (C : Cw) (b n : Int) : (C.aN b n).gI = ah.aN C.gI b n := rW C.wrong fJ b n
theorem uO (C : Cw) (b n : Int) : (C.aN b n).sem = { C.sem with pages := ah.aN C.sem.pages b n, wrong := ah.aN C.sem.wrong b n } := by
  unfold sem aN
  simp only [rW]
theorem Ok.aN {C : Cw} (h : C.Ok) (b n : Int) : (C.aN b n).Ok := by
  have hd : ∀ {α : Type} (f : Int × Int → Option α) p e, ah.aN f b n p = some e → f p = some e := fun f p e he => by
    unfold ah.aN at he
    split at he
    · cases he
    · exact he
  exact ⟨h.aD, fun p e he => h.page p e (hd _ p e he), fun p e he => h.wr p e (hd _ p e he), h.len, h.next, h.left⟩
end Cw
theorem FZ {bc : Nat} {C : Cw} (hC : C.Ok) (b : Int) {K : World} {F : List aj} :
    Does Tryz.prog 91 #[ptr bc 0, .int .i64 b] K (C.A bc :: F)
      (fun v H' => ∃ C' : Cw, C'.Ok ∧ H' = C'.A bc :: F ∧ C'.sem = (C.sem.erase b).1 ∧ v = .int .i64 (C.sem.erase b).2) := by
  have hlen := hC.len
  have hlen' : (C.deed.next.length : Int) = C.g.bl := hC.len
  have hm := hC.aD
  unfold Geo.aD at hm
  refine Does.oD ?_
  dsimp only [Cw.parts, List.cons_append, List.nil_append]
  refine Does.enter Tryz.func91 rfl Tryz.ntmps91 rfl ?_
  simp only [aH, Nat.reduceAdd]
  refine WC.sr (WL.sg rfl rfl (WL.nil (WC.seq (WC.sr (WL.mv rfl rfl ?_)))))
  refine WL.call (vs := [_]) Tryz.call50 ⟨OV.p rfl, trivial⟩ (iU (C := C) (by repeat (first | exact bA.all | apply bA.up))) rfl ?_
  rintro _ H0 ⟨rfl, h0⟩
  subst H0
  refine WL.sg rfl rfl (WL.nil (WC.sr (WL.mv rfl rfl (WL.val (V.neq (OV.p rfl) (OV.p rfl)) rfl (WL.nil ?_)))))
  refine WC.cond rfl (fun hc0 => ?_) (fun hc0 => ?_)
  ·skip
   have hup : C.up = false := by cases h : C.up <;> simp [ah.ready, Cw.sem, h] at hc0 ⊢
   refine WC.sr (WL.mv rfl rfl (WL.sg rfl rfl (WL.nil (WC.ret ?_))))
   have e1 : C.sem.erase b = (C.sem, 70) := by unfold ah.erase; rw [if_pos (show C.sem.up = false from hup)]
   rw [e1]
   exact ak.ret (H' := C.A bc :: F) (aQ.tmp rfl rfl) (fun w h => Sat.all (l := C.parts bc) h) ⟨C, hC, rfl, rfl, by unfold ah.ready; rw [if_neg (by show ¬ C.up = true; rw [hup]; decide)]⟩
  ·skip
   have hup : C.up = true := by cases h : C.up <;> simp [ah.ready, Cw.sem, h] at hc0 ⊢
   refine WC.skip (WC.seq (WC.sr (WL.mv rfl rfl (WL.mv rfl rfl ?_))))
   refine WL.call (vs := [_, _]) Tryz.call46 ⟨OV.p rfl, OV.p rfl, trivial⟩ (kY (C := C) b (by repeat (first | exact bA.all | apply bA.up))) rfl ?_
   rintro _ H0 ⟨rfl, h0⟩
   subst H0
   refine WL.val (V.not (OV.p rfl)) rfl (WL.nil ?_)
   refine WC.cond rfl (fun hc1 => ?_) (fun hc1 => ?_)
   ·simp only [decide_eq_true_eq, decide_eq_false_iff_not, Bool.and_eq_true, Bool.or_eq_true, Bool.and_eq_false_iff, Bool.or_eq_false_iff, Bool.not_eq_true', Bool.not_eq_false', Bool.not_eq_true, Bool.not_eq_false, decide_eq_true_eq, decide_eq_false_iff_not] at hc1
    refine WC.sr (WL.sg rfl rfl (WL.nil (WC.ret ?_)))
    have e1 : C.sem.erase b = (C.sem, 1) := by unfold ah.erase; rw [if_neg (by show ¬ C.up = false; rw [hup]; decide), if_pos hc1]
    rw [e1]
    exact ak.ret (H' := C.A bc :: F) (aQ.tmp rfl rfl) (fun w h => Sat.all (l := C.parts bc) h) ⟨C, hC, rfl, rfl, rfl⟩
   ·simp only [decide_eq_true_eq, decide_eq_false_iff_not, Bool.and_eq_true, Bool.or_eq_true, Bool.and_eq_false_iff, Bool.or_eq_false_iff, Bool.not_eq_true', Bool.not_eq_false', Bool.not_eq_true, Bool.not_eq_false, decide_eq_true_eq, decide_eq_false_iff_not] at hc1
    have hbl : 0 ≤ b ∧ b < C.g.bl := by
      have h := hc1
      simp only [ah.block, Bool.and_eq_true, decide_eq_true_eq] at h
      exact h
    refine WC.skip (WC.sr (WL.mv rfl rfl (WL.nc rfl rfl (WL.val (V.fieldAddr Cz (OV.p rfl)) rfl (WL.val (V.fieldAddr nM (OV.p rfl)) rfl (WL.ld Tryz.isAgg3 rfl rfl ?_))))))
    refine WL.sg rfl rfl (WL.nil (WC.sr (WL.mv rfl rfl (WL.call (vs := [_]) Tryz.call117 ⟨OV.p rfl, trivial⟩ (wC (C := C) hC.left) rfl ?_))))
    rintro _ _ ⟨rfl, rfl⟩
    refine WL.sg rfl rfl (WL.nil (WC.seq (WC.block (WC.sr (WL.mv rfl rfl (WL.sg rfl rfl (WL.nil ?_)))))))
    refine WC.cond rfl (fun hc2 => ?_) (fun hc2 => ?_)
    ·skip
     have h2 := hc2
     refine WC.region (WL.mv rfl rfl (WL.nc rfl rfl (WL.val (V.fieldAddr Dr (OV.p rfl)) rfl (WL.ld Tryz.isAgg3 rfl rfl ?_))))
     refine WL.val (V.max (OV.p rfl) (OV.p rfl)) rfl (WL.mv rfl rfl (WL.val (V.min (OV.p rfl) (OV.p rfl)) rfl (WL.sg rfl rfl (WL.nil (WC.seq (WC.seq ?_))))))
     first
     | refine WC.Di (α := Int × List Int) (fun x => 0 ≤ x.1 ∧ x.1 ≤ C.g.pg ∧ ((C.sem.cut = true ∧ x.1 = C.sem.kept C.g.pg ∧ x.2 = C.next) ∨ (C.sem.cut = false ∧ C.sem.weak b = false ∧ x.1 = C.g.pg ∧ x.2 = C.next.set b.toNat 0))) (fun x => [(0, ptr bc 0), (1, .int .i64 b), (6, .int .i64 x.1), (7, .bool C.sem.cut)]) (fun x => Cells bc 83 C.deed.cells :: bZ C.bp dY C.fQ :: bZ C.bw dY C.gI :: Cells C.bn 3 (ints .i64 x.2) :: bZ C.bm kD (gM C.marked) :: bZ C.bk kD (gM C.weak) :: bF C.own :: F) (C.sem.kept C.g.pg, C.next) ⟨by show 0 ≤ min (max C.keep 0) C.g.pg; omega, by show min (max C.keep 0) C.g.pg ≤ C.g.pg; omega, .inl ⟨h2, rfl, rfl⟩⟩ (.cons rfl (.cons rfl (.cons rfl (.cons rfl (.nil _))))) (fun w h => h) (fun x hx => ?_)
     | refine WC.Di (α := Int × List Int) (fun x => 0 ≤ x.1 ∧ x.1 ≤ C.g.pg ∧ ((C.sem.cut = true ∧ x.1 = C.sem.kept C.g.pg ∧ x.2 = C.next) ∨ (C.sem.cut = false ∧ C.sem.weak b = false ∧ x.1 = C.g.pg ∧ x.2 = C.next.set b.toNat 0))) (fun x => [(0, ptr bc 0), (1, .int .i64 b), (6, .int .i64 x.1), (7, .bool C.sem.cut)]) (fun x => Cells bc 83 C.deed.cells :: bZ C.bp dY C.fQ :: bZ C.bw dY C.gI :: Cells C.bn 3 (ints .i64 x.2) :: bZ C.bm kD (gM C.marked) :: bZ C.bk kD (gM C.weak) :: bF C.own :: F) (C.g.pg, C.next.set b.toNat 0) ⟨by omega, Int.le_refl _, .inr ⟨h2, h3, rfl, rfl⟩⟩ (.cons rfl (.cons rfl (.cons rfl (.cons rfl (.nil _))))) (fun w h => by rw [Nat.zero_add, Nat.mul_one, ints_set] at h; exact h) (fun x hx => ?_)
     obtain ⟨n, nx⟩ := x
     obtain ⟨hn0, hn1, hx⟩ := hx
     dsimp only at hn0 hn1 hx ⊢
     refine WC.region (WL.mv rfl rfl (WL.mv rfl rfl (WL.nil (WC.block ?_))))
     refine WC.loop (σ := Nat) (fun i => [(0, ptr bc 0), (1, .int .i64 b), (7, .bool C.sem.cut), (47, .int .i64 n), (48, .int .i64 (i : Int))]) (fun i => Cells bc 83 C.deed.cells :: bZ C.bp dY (ah.aN C.fQ b i) :: bZ C.bw dY (ah.aN C.gI b i) :: Cells C.bn 3 (ints .i64 nx) :: bZ C.bm kD (gM C.marked) :: bZ C.bk kD (gM C.weak) :: bF C.own :: F) (fun i => (i : Int) ≤ n) (fun i => n.toNat - i) 0 (by show ((0 : Nat) : Int) ≤ n; omega) (.cons rfl (.cons rfl (.cons rfl (.cons rfl (.cons rfl (.nil _)))))) (fun w h => by rw [show ((0 : Nat) : Int) = 0 from rfl, lX, lX]; exact h) ?_
     rintro i hi
     refine WC.sr (WL.val (V.lss (OV.p rfl) (OV.p rfl)) rfl (WL.nil (WC.seq ?_)))
     refine WC.cond rfl (fun hc4 => ?_) (fun hc4 => ?_)
     ·try simp only [decide_eq_true_eq, decide_eq_false_iff_not, Bool.and_eq_true, Bool.or_eq_true, Bool.and_eq_false_iff, Bool.or_eq_false_iff, Bool.not_eq_true', Bool.not_eq_false', Bool.not_eq_true, Bool.not_eq_false, Int.not_lt, Int.not_le] at hc4
      refine WC.skip (WC.seq (WC.block (WC.sr (WL.mv rfl rfl (WL.sg rfl rfl (WL.nil (WC.sr (WL.mv rfl rfl (WL.nc rfl rfl (WL.val (V.fieldAddr vM (OV.p rfl)) rfl (WL.ld Tryz.isAgg79 rfl rfl ?_)))))))))))
      refine WL.mv rfl rfl (WL.mv rfl rfl (WL.val (V.build (vs := [(0, _), (1, _)]) ⟨OV.p rfl, OV.p rfl, trivial⟩ rfl (d9 _ _)) rfl ?_))
      refine WL.uL (k := (_, _)) Tryz.underlying79 pz (OV.p rfl) (OV.p rfl) (by repeat (first | exact jD.here | apply jD.up)) ?_
      refine WL.nil (WC.region (WL.mv rfl rfl (WL.nc rfl rfl (WL.val (V.fieldAddr zV (OV.p rfl)) rfl (WL.ld Tryz.isAgg80 rfl rfl ?_)))))
      refine WL.mv rfl rfl (WL.mv rfl rfl (WL.val (V.build (vs := [(0, _), (1, _)]) ⟨OV.p rfl, OV.p rfl, trivial⟩ rfl (d9 _ _)) rfl ?_))
      refine WL.uL (k := (_, _)) Tryz.underlying80 pz (OV.p rfl) (OV.p rfl) (by repeat (first | exact jD.here | apply jD.up)) ?_
      refine WL.nil (WC.region (WL.ad rfl rfl rfl ?_))
      refine WL.mv rfl rfl (WL.nil ?_)
      refine ⟨rfl, ?_⟩
      refine ⟨i + 1, (by show ((i + 1 : Nat) : Int) ≤ n; omega), (by show n.toNat - (i + 1) < n.toNat - i; omega), .cons rfl (.cons rfl (.cons rfl (.cons rfl (.cons (look_eq rfl (by simp)) (.nil _))))), fun w h => ?_⟩
      rw [nY, nY] at h
      exact h
     ·try simp only [decide_eq_true_eq, decide_eq_false_iff_not, Bool.and_eq_true, Bool.or_eq_true, Bool.and_eq_false_iff, Bool.or_eq_false_iff, Bool.not_eq_true', Bool.not_eq_false', Bool.not_eq_true, Bool.not_eq_false, Int.not_lt, Int.not_le] at hc4
      refine WC.exit (WC.sr (WL.mv rfl rfl (WL.mv rfl rfl (WL.call (vs := [_, _]) Tryz.call118 ⟨OV.p rfl, OV.p rfl, trivial⟩ (jH _ _) rfl ?_))))
      rintro _ H0 ⟨rfl, h0⟩
      subst H0
      refine WL.sg rfl rfl (WL.nil (WC.ret ?_))
      obtain rfl : n = (i : Int) := by omega
      have hu : ¬ C.sem.up = false := by show ¬ C.up = false; rw [hup]; decide
      have hb' : ¬ C.sem.block b = false := by rw [hc1]; decide
      rcases hx with ⟨hcut, hn, rfl⟩ | ⟨hcut, hw, hn, rfl⟩
      · have e1 : C.sem.erase b = ({ C.sem.deed with pages := ah.aN C.sem.deed.pages b i, wrong := ah.aN C.sem.deed.wrong b i }, 70) := by
          unfold ah.erase; rw [if_neg hu, if_neg hb', if_pos hcut, hn]; rfl
        rw [e1, hcut]
        refine ak.ret (H' := (C.deed.aN b i).A bc :: F) (aQ.tmp rfl rfl) (fun w h => Sat.all (l := (C.deed.aN b i).parts bc) ?_) ⟨_, hC.deed.aN b i, rfl, Cw.uO _ _ _, rfl⟩
        unfold Cw.parts
        rw [Cw.lT, Cw.lS]
        exact h
      · have e1 : C.sem.erase b = ({ C.sem.deed with pages := ah.aN C.sem.deed.pages b i, wrong := ah.aN C.sem.deed.wrong b i, next := C.sem.deed.iB b 0 }, 0) := by
          unfold ah.erase; rw [if_neg hu, if_neg hb', if_neg (by rw [hcut]; decide), if_neg (by rw [hw]; decide), hn]; rfl
        rw [e1, hcut]
        refine ak.ret (H' := ((C.deed.aN b i).bT b 0).A bc :: F) (aQ.tmp rfl rfl) (fun w h => Sat.all (l := ((C.deed.aN b i).bT b 0).parts bc) ?_) ⟨_, (hC.deed.aN b i).bT (by show (0 : Int) ≤ 0 ∧ 0 ≤ C.g.pg; omega), rfl, ?_, rfl⟩
        · unfold Cw.parts
          rw [show ((C.deed.aN b i).bT b 0).fQ = _ from Cw.lT C.deed b i, show ((C.deed.aN b i).bT b 0).gI = _ from Cw.lS C.deed b i]
          have e2 : ((C.deed.aN b i).bT b 0).cells = C.deed.cells := by
            unfold Cw.cells Cw.bT Cw.aN
            simp
          rw [e2]
          exact h
        · rw [Cw.jd, Cw.uO]; rfl
    ·skip
     have h2 := hc2
     refine WC.sr (WL.mv rfl rfl (WL.nc rfl rfl (WL.val (V.fieldAddr GL (OV.p rfl)) rfl (WL.ld Tryz.isAgg81 rfl rfl ?_))))
     refine WL.mv rfl rfl ?_
     refine WL.val (V.aB (v' := .bool _) (V.lookup (k := _) Tryz.underlying81 Tryz.zeroValue4 Pp (OV.p rfl) (OV.p rfl) (fun _ => by repeat (first | exact AL.here | apply AL.up))) (fun _ => vG _ _)) rfl ?_
     refine WL.sg rfl rfl (WL.nil ?_)
     refine WC.cond rfl (fun hc3 => ?_) (fun hc3 => ?_)
     ·skip
      have h3 := hc3
      refine WC.sr (WL.sg rfl rfl (WL.nil (WC.ret ?_)))
      have e1 : C.sem.erase b = (C.sem.deed, 72) := by unfold ah.erase; rw [if_neg (by show ¬ C.up = false; rw [hup]; decide), if_neg (by rw [hc1]; decide), if_neg (by rw [h2]; decide), if_pos (show C.sem.weak b = true from h3)]
      rw [e1]
      exact ak.ret (H' := C.deed.A bc :: F) (aQ.tmp rfl rfl) (fun w h => Sat.all (l := C.deed.parts bc) h) ⟨C.deed, hC.deed, rfl, rfl, rfl⟩
     ·skip
      have h3 := hc3
      refine WC.region (WL.mv rfl rfl (WL.nc rfl rfl (WL.val (V.fieldAddr Cr (OV.p rfl)) rfl (WL.ld Tryz.isAgg24 rfl rfl ?_))))
      refine WL.mv rfl rfl ?_
      refine WL.val (V.bM cO (OV.p rfl) (OV.p rfl) (fun hc => by first | omega | (simp at hc; omega))) rfl ?_
      refine WL.store (cs := [_]) Tryz.sizeOf3 (OV.p rfl) (OV.p rfl) rfl rfl rfl (by repeat (first | exact bD.at_ (by rw [Nat.zero_add, Nat.mul_one, aK]; omega) | apply bD.up)) ?_
      refine WL.nil (WC.seq (WC.seq ?_))
      first
      | refine WC.Di (α := Int × List Int) (fun x => 0 ≤ x.1 ∧ x.1 ≤ C.g.pg ∧ ((C.sem.cut = true ∧ x.1 = C.sem.kept C.g.pg ∧ x.2 = C.next) ∨ (C.sem.cut = false ∧ C.sem.weak b = false ∧ x.1 = C.g.pg ∧ x.2 = C.next.set b.toNat 0))) (fun x => [(0, ptr bc 0), (1, .int .i64 b), (6, .int .i64 x.1), (7, .bool C.sem.cut)]) (fun x => Cells bc 83 C.deed.cells :: bZ C.bp dY C.fQ :: bZ C.bw dY C.gI :: Cells C.bn 3 (ints .i64 x.2) :: bZ C.bm kD (gM C.marked) :: bZ C.bk kD (gM C.weak) :: bF C.own :: F) (C.sem.kept C.g.pg, C.next) ⟨by show 0 ≤ min (max C.keep 0) C.g.pg; omega, by show min (max C.keep 0) C.g.pg ≤ C.g.pg; omega, .inl ⟨h2, rfl, rfl⟩⟩ (.cons rfl (.cons rfl (.cons rfl (.cons rfl (.nil _))))) (fun w h => h) (fun x hx => ?_)
      | refine WC.Di (α := Int × List Int) (fun x => 0 ≤ x.1 ∧ x.1 ≤ C.g.pg ∧ ((C.sem.cut = true ∧ x.1 = C.sem.kept C.g.pg ∧ x.2 = C.next) ∨ (C.sem.cut = false ∧ C.sem.weak b = false ∧ x.1 = C.g.pg ∧ x.2 = C.next.set b.toNat 0))) (fun x => [(0, ptr bc 0), (1, .int .i64 b), (6, .int .i64 x.1), (7, .bool C.sem.cut)]) (fun x => Cells bc 83 C.deed.cells :: bZ C.bp dY C.fQ :: bZ C.bw dY C.gI :: Cells C.bn 3 (ints .i64 x.2) :: bZ C.bm kD (gM C.marked) :: bZ C.bk kD (gM C.weak) :: bF C.own :: F) (C.g.pg, C.next.set b.toNat 0) ⟨by omega, Int.le_refl _, .inr ⟨h2, h3, rfl, rfl⟩⟩ (.cons rfl (.cons rfl (.cons rfl (.cons rfl (.nil _))))) (fun w h => by rw [Nat.zero_add, Nat.mul_one, ints_set] at h; exact h) (fun x hx => ?_)
      obtain ⟨n, nx⟩ := x
      obtain ⟨hn0, hn1, hx⟩ := hx
      dsimp only at hn0 hn1 hx ⊢
      refine WC.region (WL.mv rfl rfl (WL.mv rfl rfl (WL.nil (WC.block ?_))))
      refine WC.loop (σ := Nat) (fun i => [(0, ptr bc 0), (1, .int .i64 b), (7, .bool C.sem.cut), (47, .int .i64 n), (48, .int .i64 (i : Int))]) (fun i => Cells bc 83 C.deed.cells :: bZ C.bp dY (ah.aN C.fQ b i) :: bZ C.bw dY (ah.aN C.gI b i) :: Cells C.bn 3 (ints .i64 nx) :: bZ C.bm kD (gM C.marked) :: bZ C.bk kD (gM C.weak) :: bF C.own :: F) (fun i => (i : Int) ≤ n) (fun i => n.toNat - i) 0 (by show ((0 : Nat) : Int) ≤ n; omega) (.cons rfl (.cons rfl (.cons rfl (.cons rfl (.cons rfl (.nil _)))))) (fun w h => by rw [show ((0 : Nat) : Int) = 0 from rfl, lX, lX]; exact h) ?_
      rintro i hi
      refine WC.sr (WL.val (V.lss (OV.p rfl) (OV.p rfl)) rfl (WL.nil (WC.seq ?_)))
      refine WC.cond rfl (fun hc4 => ?_) (fun hc4 => ?_)
      ·try simp only [decide_eq_true_eq, decide_eq_false_iff_not, Bool.and_eq_true, Bool.or_eq_true, Bool.and_eq_false_iff, Bool.or_eq_false_iff, Bool.not_eq_true', Bool.not_eq_false', Bool.not_eq_true, Bool.not_eq_false, Int.not_lt, Int.not_le] at hc4
       refine WC.skip (WC.seq (WC.block (WC.sr (WL.mv rfl rfl (WL.sg rfl rfl (WL.nil (WC.sr (WL.mv rfl rfl (WL.nc rfl rfl (WL.val (V.fieldAddr vM (OV.p rfl)) rfl (WL.ld Tryz.isAgg79 rfl rfl ?_)))))))))))
       refine WL.mv rfl rfl (WL.mv rfl rfl (WL.val (V.build (vs := [(0, _), (1, _)]) ⟨OV.p rfl, OV.p rfl, trivial⟩ rfl (d9 _ _)) rfl ?_))
       refine WL.uL (k := (_, _)) Tryz.underlying79 pz (OV.p rfl) (OV.p rfl) (by repeat (first | exact jD.here | apply jD.up)) ?_
       refine WL.nil (WC.region (WL.mv rfl rfl (WL.nc rfl rfl (WL.val (V.fieldAddr zV (OV.p rfl)) rfl (WL.ld Tryz.isAgg80 rfl rfl ?_)))))
       refine WL.mv rfl rfl (WL.mv rfl rfl (WL.val (V.build (vs := [(0, _), (1, _)]) ⟨OV.p rfl, OV.p rfl, trivial⟩ rfl (d9 _ _)) rfl ?_))
       refine WL.uL (k := (_, _)) Tryz.underlying80 pz (OV.p rfl) (OV.p rfl) (by repeat (first | exact jD.here | apply jD.up)) ?_
       refine WL.nil (WC.region (WL.ad rfl rfl rfl ?_))
       refine WL.mv rfl rfl (WL.nil ?_)
       refine ⟨rfl, ?_⟩
       refine ⟨i + 1, (by show ((i + 1 : Nat) : Int) ≤ n; omega), (by show n.toNat - (i + 1) < n.toNat - i; omega), .cons rfl (.cons rfl (.cons rfl (.cons rfl (.cons (look_eq rfl (by simp)) (.nil _))))), fun w h => ?_⟩
       rw [nY, nY] at h
       exact h
      ·try simp only [decide_eq_true_eq, decide_eq_false_iff_not, Bool.and_eq_true, Bool.or_eq_true, Bool.and_eq_false_iff, Bool.or_eq_false_iff, Bool.not_eq_true', Bool.not_eq_false', Bool.not_eq_true, Bool.not_eq_false, Int.not_lt, Int.not_le] at hc4
       refine WC.exit (WC.sr (WL.mv rfl rfl (WL.mv rfl rfl (WL.call (vs := [_, _]) Tryz.call118 ⟨OV.p rfl, OV.p rfl, trivial⟩ (jH _ _) rfl ?_))))
       rintro _ H0 ⟨rfl, h0⟩
       subst H0
       refine WL.sg rfl rfl (WL.nil (WC.ret ?_))
       obtain rfl : n = (i : Int) := by omega
       have hu : ¬ C.sem.up = false := by show ¬ C.up = false; rw [hup]; decide
       have hb' : ¬ C.sem.block b = false := by rw [hc1]; decide
       rcases hx with ⟨hcut, hn, rfl⟩ | ⟨hcut, hw, hn, rfl⟩
       · have e1 : C.sem.erase b = ({ C.sem.deed with pages := ah.aN C.sem.deed.pages b i, wrong := ah.aN C.sem.deed.wrong b i }, 70) := by
           unfold ah.erase; rw [if_neg hu, if_neg hb', if_pos hcut, hn]; rfl
         rw [e1, hcut]
         refine ak.ret (H' := (C.deed.aN b i).A bc :: F) (aQ.tmp rfl rfl) (fun w h => Sat.all (l := (C.deed.aN b i).parts bc) ?_) ⟨_, hC.deed.aN b i, rfl, Cw.uO _ _ _, rfl⟩
         unfold Cw.parts
         rw [Cw.lT, Cw.lS]
         exact h
       · have e1 : C.sem.erase b = ({ C.sem.deed with pages := ah.aN C.sem.deed.pages b i, wrong := ah.aN C.sem.deed.wrong b i, next := C.sem.deed.iB b 0 }, 0) := by
           unfold ah.erase; rw [if_neg hu, if_neg hb', if_neg (by rw [hcut]; decide), if_neg (by rw [hw]; decide), hn]; rfl
         rw [e1, hcut]
         refine ak.ret (H' := ((C.deed.aN b i).bT b 0).A bc :: F) (aQ.tmp rfl rfl) (fun w h => Sat.all (l := ((C.deed.aN b i).bT b 0).parts bc) ?_) ⟨_, (hC.deed.aN b i).bT (by show (0 : Int) ≤ 0 ∧ 0 ≤ C.g.pg; omega), rfl, ?_, rfl⟩
         · unfold Cw.parts
           rw [show ((C.deed.aN b i).bT b 0).fQ = _ from Cw.lT C.deed b i, show ((C.deed.aN b i).bT b 0).gI = _ from Cw.lS C.deed b i]
           have e2 : ((C.deed.aN b i).bT b 0).cells = C.deed.cells := by
             unfold Cw.cells Cw.bT Cw.aN
             simp
           rw [e2]
           exact h
         · rw [Cw.jd, Cw.uO]; rfl
end Go.Proofs.YtcmojpiokjhmhaaGreat
