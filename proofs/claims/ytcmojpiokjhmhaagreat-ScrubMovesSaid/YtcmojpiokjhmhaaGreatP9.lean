import Derived.Test.YtcmojpiokjhmhaaGreatP8
namespace Go.Proofs.YtcmojpiokjhmhaaGreat
open Go.Sl Go.RowKit
set_option linter.unusedVariables false
set_option linter.unusedSimpArgs false
set_option maxRecDepth 20000
namespace Cw
def fT (C : Cw) (k : Int × Int) (e : Option Addr × Nat × List Int) (own : List ak) : Cw := { C with pages := fun q => if q = k then some e else C.pages q, own := own }
def bV (C : Cw) (b x : Int) : Cw := { C with next := C.next.set b.toNat x }
theorem GX (C : Cw) (k : Int × Int) (e : Option Addr × Nat × List Int) (own : List ak) : (C.fT k e own).fZ = upd C.fZ k (some (fQ e)) := by
  funext q
  show (if q = k then some e else C.pages q).map fQ = if q = k then some (fQ e) else (C.pages q).map fQ
  split <;> rfl
theorem Ok.deed {C : Cw} (h : C.Ok) : C.deed.Ok := ⟨h.aD, h.page, h.wr, h.len, h.next, by
  have := h.left
  show 0 ≤ (if C.left = 0 then 0 else C.left - 1) ∧ (if C.left = 0 then 0 else C.left - 1) ≤ 9223372036854775807
  split <;> omega⟩
theorem Ok.fT {C : Cw} (h : C.Ok) {k : Int × Int} {e : Option Addr × Nat × List Int} {own : List ak} (hup : ∀ K w, Sat K w [bG own] → Sat K w [bG C.own]) (h1 : eU own e.1 e.2.2.length 1 (ints .u8 e.2.2)) (h2 : (e.2.2.length : Int) = C.g.raw) (h3 : bF e.2.2) :
    (C.fT k e own).Ok := by
  refine ⟨h.aD, fun p e' hp => ?_, fun p e' hp => ⟨(h.wr p e' hp).1.mono hup, (h.wr p e' hp).2⟩, h.len, h.next, h.left⟩
  have hp' : (if p = k then some e else C.pages p) = some e' := hp
  split at hp'
  · injection hp' with hp'; subst hp'; exact ⟨h1, h2, h3⟩
  · have := h.page p e' hp'; exact ⟨this.1.mono hup, this.2⟩
theorem Ok.bV {C : Cw} (h : C.Ok) {b x : Int} (hx : 0 ≤ x ∧ x ≤ C.g.pg) : (C.bV b x).Ok := by
  refine ⟨h.aD, h.page, h.wr, ?_, fun y hy => ?_, h.left⟩
  · show ((C.next.set b.toNat x).length : Int) = C.g.bl
    rw [List.length_set]; exact h.len
  · rcases List.mem_or_eq_of_mem_set hy with h1 | h1
    · exact h.next y h1
    · subst h1; exact hx
theorem y8 (C : Cw) (k : Int × Int) (e : Option Addr × Nat × List Int) (own : List ak) : (C.fT k e own).sem = { C.sem with pages := ah.mR C.sem.pages k (some e.2.2) } := by
  unfold sem fT
  simp only [ah.mk.injEq, true_and, and_true]
  funext q
  show (if q = k then some e else C.pages q).map (·.2.2) = if q = k then some e.2.2 else (C.pages q).map (·.2.2)
  split <;> rfl
theorem jc (C : Cw) (b x : Int) : (C.bV b x).sem = { C.sem with next := C.sem.iC b x } := rfl
theorem KA (A : ak) (l : List ak) : ∀ K w, Sat K w [bG (A :: l)] → Sat K w [bG l] := fun K w h => Sat.all (l := l) (H := []) h.uF.tail
end Cw
theorem uO {bc bo : Nat} {C : Cw} {b p x : Int} {bytes : List Int} {nx vs : List Value} {K w : World} {F : List ak} (hvs : vs = ints .u8 bytes) (hn : bytes.length = C.g.raw.toNat) (hnx : nx = ints .i64 (C.next.set b.toNat x))
    (h : Sat K w (Cells bc 83 C.cells :: Cells bo 5 vs :: cO C.bp eF (upd C.fZ (b, p) (some (.slice (some ⟨bo, 0, none⟩) C.g.raw.toNat C.g.raw.toNat))) :: cO C.bw eF C.gM :: Cells C.bn 3 nx
      :: cO C.bm kC (gQ C.marked) :: cO C.bk kC (gQ C.weak) :: bG C.own :: F)) :
    Sat K w (((C.fT (b, p) (some ⟨bo, 0, none⟩, C.g.raw.toNat, bytes) (Cells bo 5 (ints .u8 bytes) :: C.own)).bV b x).A bc :: F) := by
  subst hvs hnx
  have h1 := (h.sel 8 [1, 7, 0, 2, 3, 4, 5, 6] rfl).Ip
  have h2 := h1.sel 7 [1, 2, 3, 4, 5, 6, 0] rfl
  have e1 : ((C.fT (b, p) (some ⟨bo, 0, none⟩, C.g.raw.toNat, bytes) (Cells bo 5 (ints .u8 bytes) :: C.own)).bV b x).fZ = upd C.fZ (b, p) (some (.slice (some ⟨bo, 0, none⟩) C.g.raw.toNat C.g.raw.toNat)) := by
    refine (Cw.GX C (b, p) (some ⟨bo, 0, none⟩, C.g.raw.toNat, bytes) (Cells bo 5 (ints .u8 bytes) :: C.own)).trans ?_
    unfold Cw.fQ
    rw [hn]
  refine Sat.all (l := Cw.parts bc _) ?_
  unfold Cw.parts
  rw [e1]
  have e2 : ((C.fT (b, p) (some ⟨bo, 0, none⟩, C.g.raw.toNat, bytes) (Cells bo 5 (ints .u8 bytes) :: C.own)).bV b x).cells = C.cells := by
    unfold Cw.cells Cw.bV Cw.fT
    simp
  rw [e2]
  exact h2
theorem Dm {bo : Nat} {C : Cw} (hC : C.Ok) {b p x : Int} {bytes : List Int} (hn : bytes.length = C.g.raw.toNat) (hb : bF bytes) (hx : 0 ≤ x ∧ x ≤ C.g.pg) :
    ((C.fT (b, p) (some ⟨bo, 0, none⟩, C.g.raw.toNat, bytes) (Cells bo 5 (ints .u8 bytes) :: C.own)).bV b x).Ok := by
  have hr := Geo.lN hC.aD
  refine Cw.Ok.bV (hC.fT (Cw.KA _ _) (eU.here fun K => Seq.allI rfl) (by show (bytes.length : Int) = _; omega) hb) hx
theorem DN {bc : Nat} {C : Cw} (hC : C.Ok) {B : Option Addr} {m cap : Nat} {xs : List Int} (b p : Int) (hx : bF xs) {K : World} {F : List ak} (hs : Seq K F B m 1 (ints .u8 xs)) (hcap : m ≤ cap) :
    Does Tryz.prog 115 #[ptr bc 0, .int .i64 b, .int .i64 p, .slice B m cap] K (C.A bc :: F)
      (fun v H' => ∃ C' : Cw, C'.Ok ∧ H' = C'.A bc :: F ∧ C'.sem = (C.sem.program b p xs).1 ∧ v = .int .i64 (C.sem.program b p xs).2) := by
  have hl : xs.length = m := by simpa [ints] using hs.len
  have hlen := hC.len
  have hlen' : (C.deed.next.length : Int) = C.g.bl := hC.len
  have hm := hC.aD
  unfold Geo.aD at hm
  have hr := Geo.lN hC.aD
  refine Does.nk ?_
  dsimp only [Cw.parts, List.cons_append, List.nil_append]
  refine Does.enter Tryz.func115 rfl Tryz.ntmps115 rfl ?_
  simp only [aI, Nat.reduceAdd]
  refine WC.sr (WL.sg rfl rfl (WL.nil (WC.seq (WC.sr (WL.mv rfl rfl ?_)))))
  refine WL.call (vs := [_]) Tryz.call50 ⟨OV.p rfl, trivial⟩ (iV (C := C) (by repeat (first | exact bD.all | apply bD.up))) rfl ?_
  rintro _ H0 ⟨rfl, h0⟩
  subst H0
  refine WL.sg rfl rfl (WL.nil (WC.sr (WL.mv rfl rfl (WL.val (V.neq (OV.p rfl) (OV.p rfl)) rfl (WL.nil ?_)))))
  refine WC.cond rfl (fun hc0 => ?_) (fun hc0 => ?_)
  ·skip
   have hup : C.up = false := by cases h : C.up <;> simp [ah.ready, Cw.sem, h] at hc0 ⊢
   refine WC.sr (WL.mv rfl rfl (WL.sg rfl rfl (WL.nil (WC.ret ?_))))
   have e1 : C.sem.program b p xs = (C.sem, 70) := by unfold ah.program; rw [if_pos (show C.sem.up = false from hup)]
   rw [e1]
   exact au.ret (H' := C.A bc :: F) (aO.tmp rfl rfl) (fun w h => Sat.all (l := C.parts bc) h) ⟨C, hC, rfl, rfl, by unfold ah.ready; rw [if_neg (by show ¬ C.up = true; rw [hup]; decide)]⟩
  ·skip
   have hup : C.up = true := by cases h : C.up <;> simp [ah.ready, Cw.sem, h] at hc0 ⊢
   refine WC.skip (WC.seq (WC.block (WC.sr (WL.mv rfl rfl (WL.mv rfl rfl (WL.mv rfl rfl ?_))))))
   refine WL.call (vs := [_, _, _]) Tryz.call59 ⟨OV.p rfl, OV.p rfl, OV.p rfl, trivial⟩ (qY (C := C) b p (by repeat (first | exact bD.all | apply bD.up))) rfl ?_
   rintro _ H0 ⟨rfl, h0⟩
   subst H0
   refine WL.val (V.not (OV.p rfl)) rfl (WL.mv rfl rfl (WL.av (oj := _) rfl rfl rfl GC.f (V.move (OV.p rfl)) rfl (WL.av (oj := _) rfl rfl rfl GC.f (V.len (t := 43) Tryz.runUnderlying43 (OV.g rfl id)) rfl (WL.av (oj := _) rfl rfl rfl GC.f (V.move (OV.p rfl)) rfl (WL.av (oj := _) rfl rfl rfl GC.f (V.nilCheck (OV.g rfl id)) rfl (WL.av (oj := _) rfl rfl rfl GC.f (V.fieldAddr H9 (OV.g rfl id)) rfl ?_))))))
   refine WL.av (oj := _) rfl rfl rfl GC.f (V.load Tryz.isAgg3 (OV.g rfl id) (fun _ => by repeat (first | exact Rd.here rfl | apply Rd.up))) rfl ?_
   refine WL.av (oj := _) rfl rfl rfl GC.f (V.neq (OV.g rfl id) (OV.g rfl id)) rfl (WL.val (V.bH (OV.p rfl) (OV.g rfl id)) rfl (WL.sg rfl rfl (WL.nil ?_)))
   refine WC.cond rfl (fun hc1 => ?_) (fun hc1 => ?_)
   ·simp only [decide_eq_true_eq, decide_eq_false_iff_not, Bool.and_eq_true, Bool.or_eq_true, Bool.and_eq_false_iff, Bool.or_eq_false_iff, Bool.not_eq_true', Bool.not_eq_false', Bool.not_eq_true, Bool.not_eq_false, decide_eq_true_eq, decide_eq_false_iff_not] at hc1
    have e1 : C.sem.program b p xs = (C.sem, 1) := by
      unfold ah.program; rw [if_neg (by show ¬ C.up = false; rw [hup]; decide), if_pos (by rw [hl]; exact hc1)]
    refine WC.sr (WL.sg rfl rfl (WL.nil (WC.ret ?_)))
    rw [e1]
    exact au.ret (H' := C.A bc :: F) (aO.tmp rfl rfl) (fun w h => Sat.all (l := C.parts bc) h) ⟨C, hC, rfl, rfl, rfl⟩
   ·simp only [decide_eq_true_eq, decide_eq_false_iff_not, Bool.and_eq_true, Bool.or_eq_true, Bool.and_eq_false_iff, Bool.or_eq_false_iff, Bool.not_eq_true', Bool.not_eq_false', Bool.not_eq_true, Bool.not_eq_false, decide_eq_true_eq, decide_eq_false_iff_not] at hc1
    obtain ⟨Ey, hraw⟩ := hc1
    have hpg : 0 ≤ b ∧ b < C.g.bl ∧ 0 ≤ p ∧ p < C.g.pg := by
      have h := Ey
      simp only [ah.page, ah.block, Bool.and_eq_true, decide_eq_true_eq] at h
      exact ⟨h.1.1.1, h.1.1.2, h.1.2, h.2⟩
    have hk : C.sem.kept m = min (max C.keep 0) m := rfl
    have hnx : 0 ≤ C.sem.jw b ∧ C.sem.jw b ≤ C.g.pg := by
      have h1 : C.sem.jw b = C.next.getD b.toNat 0 := rfl
      have h2 : b.toNat < C.next.length := by omega
      rw [h1, List.getD, List.getElem?_eq_getElem h2]
      exact hC.next _ (List.getElem_mem h2)
    have hget : (ints .i64 C.next)[0 + b.toNat * 1]? = some (.int .i64 (C.sem.jw b)) := by
      rw [Nat.zero_add, Nat.mul_one]; exact jl _ _ (by omega)
    refine WC.sr (WL.mv rfl rfl (WL.mv rfl rfl (WL.nc rfl rfl (WL.val (V.fieldAddr Du (OV.p rfl)) rfl (WL.ld Tryz.isAgg24 rfl rfl ?_)))))
    refine WL.mv rfl rfl ?_
    refine WL.val (V.bR bZ (OV.p rfl) (OV.p rfl) (fun hc => by first | omega | (simp at hc; omega))) rfl ?_
    refine WL.val (V.load Tryz.isAgg3 (OV.p rfl) (fun _ => by repeat (first | exact Rd.here hget | apply Rd.up))) rfl ?_
    refine WL.val (V.neq (OV.p rfl) (OV.p rfl)) rfl (WL.sg rfl rfl (WL.nil ?_))
    refine WC.cond rfl (fun hc2 => ?_) (fun hc2 => ?_)
    ·simp only [decide_eq_true_eq, decide_eq_false_iff_not, Bool.and_eq_true, Bool.or_eq_true, Bool.and_eq_false_iff, Bool.or_eq_false_iff, Bool.not_eq_true', Bool.not_eq_false', Bool.not_eq_true, Bool.not_eq_false, decide_eq_true_eq, decide_eq_false_iff_not] at hc2
     have h2 := hc2
     refine WC.sr (WL.sg rfl rfl (WL.nil (WC.ret ?_)))
     have e1 : C.sem.program b p xs = (C.sem, 71) := by
       unfold ah.program; rw [if_neg (by show ¬ C.up = false; rw [hup]; decide), if_neg (by rw [hl, Ey]; rintro (h | h); cases h; exact h hraw), if_pos h2]
     rw [e1]
     exact au.ret (H' := C.A bc :: F) (aO.tmp rfl rfl) (fun w h => Sat.all (l := C.parts bc) h) ⟨C, hC, rfl, rfl, rfl⟩
    ·simp only [decide_eq_true_eq, decide_eq_false_iff_not, Bool.and_eq_true, Bool.or_eq_true, Bool.and_eq_false_iff, Bool.or_eq_false_iff, Bool.not_eq_true', Bool.not_eq_false', Bool.not_eq_true, Bool.not_eq_false, decide_eq_true_eq, decide_eq_false_iff_not] at hc2
     have h2 := hc2
     refine WC.skip (WC.sr (WL.mv rfl rfl ?_))
     refine WL.call (vs := [_]) Tryz.call132 ⟨OV.p rfl, trivial⟩ (Ai (C := C) hC.aD (by repeat (first | exact bD.all | apply bD.up))) rfl ?_
     rintro _ _ ⟨bo, rfl, rfl⟩
     refine WL.sg rfl rfl (WL.nil (WC.sr (WL.mv rfl rfl ?_)))
     refine WL.sub (Sub.refl _) (fun w h => h.p1) ?_
     refine WL.call (vs := [_]) Tryz.call117 ⟨OV.p rfl, trivial⟩ (vX (C := C) hC.left) rfl ?_
     rintro _ _ ⟨rfl, rfl⟩
     refine WL.sg rfl rfl (WL.nil (WC.seq (WC.block (WC.sr (WL.mv rfl rfl (WL.sg rfl rfl (WL.nil ?_)))))))
     refine WC.cond rfl (fun hc3 => ?_) (fun hc3 => ?_)
     ·skip
      have h3 := hc3
      refine WC.region (WL.mv rfl rfl (WL.mv rfl rfl (WL.mv rfl rfl (WL.nc rfl rfl (WL.val (V.fieldAddr yP (OV.p rfl)) rfl (WL.ld Tryz.isAgg3 rfl rfl ?_))))))
      refine WL.val (V.max (OV.p rfl) (OV.p rfl)) rfl (WL.mv rfl rfl (WL.val (V.len (t := 43) Tryz.runUnderlying43 (OV.p rfl)) rfl (WL.val (V.min (OV.p rfl) (OV.p rfl)) rfl ?_)))
      refine WL.val (V.slice (h := (C.sem.kept m).toNat) fE (OV.p rfl) OO.none (OO.some (OV.p rfl) (fun _ => by show min (max C.keep 0) (m : Int) = _; rw [hk]; omega)) OO.none (by simp) (Nat.zero_le _) (by rw [hk]; omega) (Nat.le_refl _)) rfl ?_
      refine WL.yV fE (OV.p rfl) (OV.p rfl) (news := ints .u8 (xs.take (C.sem.kept m).toNat)) (by rw [Jr, ← wz]; exact Seq.take (by repeat (first | exact hs | apply Seq.up)) (by rw [hk]; omega)) (by rw [hk]; omega) (qJ _ _) (bA.up (bA.front (by simp [ints]; rw [hk]; omega))) rfl ?_
      refine WL.nil (WC.sr (WL.mv rfl rfl (WL.nc rfl rfl (WL.val (V.fieldAddr w9 (OV.p rfl)) rfl (WL.ld Tryz.isAgg79 rfl rfl ?_)))))
      refine WL.mv rfl rfl (WL.mv rfl rfl (WL.val (V.build (vs := [(0, _), (1, _)]) ⟨OV.p rfl, OV.p rfl, trivial⟩ rfl (eT _ _)) rfl (WL.mv rfl rfl ?_)))
      refine WL.lK (k := (_, _)) Tryz.underlying79 p8 (OV.p rfl) (OV.p rfl) (OV.p rfl) (by repeat (first | exact jT.here | apply jT.up)) ?_
      refine WL.nil (WC.sr (WL.mv rfl rfl (WL.nc rfl rfl (WL.val (V.fieldAddr Du (OV.p rfl)) rfl (WL.ld Tryz.isAgg24 rfl rfl ?_)))))
      refine WL.mv rfl rfl ?_
      refine WL.val (V.bR bZ (OV.p rfl) (OV.p rfl) (fun hc => by first | omega | (simp at hc; omega))) rfl ?_
      refine WL.val (V.load Tryz.isAgg3 (OV.p rfl) (fun _ => by repeat (first | exact Rd.here hget | apply Rd.up))) rfl ?_
      refine WL.ad rfl rfl rfl ?_
      refine WL.val (V.bR bZ (OV.p rfl) (OV.p rfl) (fun hc => by first | omega | (simp at hc; omega))) rfl ?_
      refine WL.store (cs := [_]) Tryz.sizeOf3 (OV.p rfl) (OV.p rfl) rfl rfl rfl (by repeat (first | exact bA.at_ (by rw [Nat.zero_add, Nat.mul_one, aG]; omega) | apply bA.up)) ?_
      refine WL.nil (WC.sr (WL.mv rfl rfl (WL.mv rfl rfl (WL.call (vs := [_, _]) Tryz.call118 ⟨OV.p rfl, OV.p rfl, trivial⟩ (jE _ _) rfl ?_))))
      rintro _ H0 ⟨rfl, h0⟩
      subst H0
      refine WL.sg rfl rfl (WL.nil (WC.ret ?_))
      have hn1 : ¬ C.sem.up = false := by show ¬ C.up = false; rw [hup]; decide
      have hn2 : ¬ (C.sem.page b p = false ∨ (xs.length : Int) ≠ C.sem.raw) := by rw [hl, Ey]; rintro (h | h); cases h; exact h hraw
      have MQ : ¬ p ≠ C.sem.jw b := by rw [h2]; exact fun h => h rfl
      have hbl : C.sem.blank.length = C.g.raw.toNat := List.length_replicate
      cases hcut : C.sem.cut with
      | true =>
        have e1 : C.sem.program b p xs = ({ C.sem.deed with pages := ah.mR C.sem.deed.pages (b, p) (some (xs.take (C.sem.kept xs.length).toNat ++ C.sem.blank.drop (C.sem.kept xs.length).toNat)), next := C.sem.deed.iC b (p + 1) }, 70) := by
          unfold ah.program; rw [if_neg hn1, if_neg hn2, if_neg MQ, if_pos hcut]
        first
          | (exfalso; exact Bool.noConfusion (h3.symm.trans hcut))
          | (rw [hl] at e1
             rw [e1]
             have pX : (xs.take (C.sem.kept m).toNat ++ C.sem.blank.drop (C.sem.kept m).toNat).length = C.g.raw.toNat := by
               rw [List.length_append, List.length_take, List.length_drop, hbl, hl, hk]; omega
             refine au.ret (H' := Cw.A bc ((C.deed.fT (b, p) (some ⟨bo, 0, none⟩, C.g.raw.toNat, xs.take (C.sem.kept m).toNat ++ C.sem.blank.drop (C.sem.kept m).toNat) (Cells bo 5 (ints .u8 (xs.take (C.sem.kept m).toNat ++ C.sem.blank.drop (C.sem.kept m).toNat)) :: C.own)).bV b (p + 1)) :: F)
               (aO.tmp rfl rfl) (fun w h => uO (C := C.deed) ?_ pX ?_ h) ⟨_, Dm (C := C.deed) hC.deed pX ((hx.take _).append ((bF.vZ (by omega)).drop _)) (by show 0 ≤ p + 1 ∧ p + 1 ≤ C.g.pg; omega), rfl, ?_, ?_⟩
             · rw [bf, ← rT, aG, List.length_take, hl, show min (C.sem.kept m).toNat m = (C.sem.kept m).toNat by rw [hk]; omega]; rfl
             · rw [Nat.zero_add, Nat.mul_one, ints_set, ← h2]; rfl
             · rw [Cw.jc, Cw.y8]; rfl
             · rfl)
      | false =>
        first
          | (exfalso; exact Bool.noConfusion (h3.symm.trans hcut))
          | (have e1 : C.sem.program b p xs = ({ C.sem.deed with pages := ah.mR C.sem.deed.pages (b, p) (some xs), next := C.sem.deed.iC b (p + 1) }, 0) := by
               unfold ah.program; rw [if_neg hn1, if_neg hn2, if_neg MQ, if_neg (by rw [hcut]; decide), if_neg (by rw [show C.sem.weak b = false from h4]; decide)]
             rw [e1]
             have pX : xs.length = C.g.raw.toNat := by omega
             refine au.ret (H' := Cw.A bc ((C.deed.fT (b, p) (some ⟨bo, 0, none⟩, C.g.raw.toNat, xs) (Cells bo 5 (ints .u8 xs) :: C.own)).bV b (p + 1)) :: F)
               (aO.tmp rfl rfl) (fun w h => uO (C := C.deed) ?_ pX ?_ h) ⟨_, Dm (C := C.deed) hC.deed pX hx (by show 0 ≤ p + 1 ∧ p + 1 ≤ C.g.pg; omega), rfl, ?_, ?_⟩
             · rw [rT, List.drop_eq_nil_of_le (by rw [aG, List.length_replicate]; omega)]; simp [ints]
             · rw [Nat.zero_add, Nat.mul_one, ints_set, ← h2]; rfl
             · rw [Cw.jc, Cw.y8]; rfl
             · rfl)
     ·skip
      have h3 := hc3
      refine WC.sr (WL.mv rfl rfl (WL.nc rfl rfl (WL.val (V.fieldAddr Mx (OV.p rfl)) rfl (WL.ld Tryz.isAgg81 rfl rfl ?_))))
      refine WL.mv rfl rfl ?_
      refine WL.val (V.aC (v' := .bool _) (V.lookup (k := _) Tryz.underlying81 Tryz.zeroValue4 QJ (OV.p rfl) (OV.p rfl) (fun _ => by repeat (first | exact Bu.here | apply Bu.up))) (fun _ => wh _ _)) rfl ?_
      refine WL.sg rfl rfl (WL.nil ?_)
      refine WC.cond rfl (fun hc4 => ?_) (fun hc4 => ?_)
      ·skip
       have h4 := hc4
       refine WC.sr (WL.sg rfl rfl (WL.nil (WC.ret ?_)))
       have e1 : C.sem.program b p xs = (C.sem.deed, 72) := by
         unfold ah.program; rw [if_neg (by show ¬ C.up = false; rw [hup]; decide), if_neg (by rw [hl, Ey]; rintro (h | h); cases h; exact h hraw), if_neg (by rw [h2]; exact fun h => h rfl), if_neg (by rw [h3]; decide), if_pos (show C.sem.weak b = true from h4)]
       rw [e1]
       exact au.ret (H' := C.deed.A bc :: F) (aO.tmp rfl rfl) (fun w h => Sat.all (l := C.deed.parts bc) (h.sel 2 [0] rfl)) ⟨C.deed, hC.deed, rfl, rfl, rfl⟩
      ·skip
       have h4 := hc4
       refine WC.region (WL.mv rfl rfl (WL.mv rfl rfl ?_))
       refine WL.yV fE (OV.p rfl) (OV.p rfl) (by repeat (first | exact hs | apply Seq.up)) (by omega) (qJ _ _) (bA.up (bA.front (by simp [ints]; omega))) rfl ?_
       refine WL.nil (WC.sr (WL.mv rfl rfl (WL.nc rfl rfl (WL.val (V.fieldAddr w9 (OV.p rfl)) rfl (WL.ld Tryz.isAgg79 rfl rfl ?_)))))
       refine WL.mv rfl rfl (WL.mv rfl rfl (WL.val (V.build (vs := [(0, _), (1, _)]) ⟨OV.p rfl, OV.p rfl, trivial⟩ rfl (eT _ _)) rfl (WL.mv rfl rfl ?_)))
       refine WL.lK (k := (_, _)) Tryz.underlying79 p8 (OV.p rfl) (OV.p rfl) (OV.p rfl) (by repeat (first | exact jT.here | apply jT.up)) ?_
       refine WL.nil (WC.sr (WL.mv rfl rfl (WL.nc rfl rfl (WL.val (V.fieldAddr Du (OV.p rfl)) rfl (WL.ld Tryz.isAgg24 rfl rfl ?_)))))
       refine WL.mv rfl rfl ?_
       refine WL.val (V.bR bZ (OV.p rfl) (OV.p rfl) (fun hc => by first | omega | (simp at hc; omega))) rfl ?_
       refine WL.val (V.load Tryz.isAgg3 (OV.p rfl) (fun _ => by repeat (first | exact Rd.here hget | apply Rd.up))) rfl ?_
       refine WL.ad rfl rfl rfl ?_
       refine WL.val (V.bR bZ (OV.p rfl) (OV.p rfl) (fun hc => by first | omega | (simp at hc; omega))) rfl ?_
       refine WL.store (cs := [_]) Tryz.sizeOf3 (OV.p rfl) (OV.p rfl) rfl rfl rfl (by repeat (first | exact bA.at_ (by rw [Nat.zero_add, Nat.mul_one, aG]; omega) | apply bA.up)) ?_
       refine WL.nil (WC.sr (WL.mv rfl rfl (WL.mv rfl rfl (WL.call (vs := [_, _]) Tryz.call118 ⟨OV.p rfl, OV.p rfl, trivial⟩ (jE _ _) rfl ?_))))
       rintro _ H0 ⟨rfl, h0⟩
       subst H0
       refine WL.sg rfl rfl (WL.nil (WC.ret ?_))
       have hn1 : ¬ C.sem.up = false := by show ¬ C.up = false; rw [hup]; decide
       have hn2 : ¬ (C.sem.page b p = false ∨ (xs.length : Int) ≠ C.sem.raw) := by rw [hl, Ey]; rintro (h | h); cases h; exact h hraw
       have MQ : ¬ p ≠ C.sem.jw b := by rw [h2]; exact fun h => h rfl
       have hbl : C.sem.blank.length = C.g.raw.toNat := List.length_replicate
       cases hcut : C.sem.cut with
       | true =>
         have e1 : C.sem.program b p xs = ({ C.sem.deed with pages := ah.mR C.sem.deed.pages (b, p) (some (xs.take (C.sem.kept xs.length).toNat ++ C.sem.blank.drop (C.sem.kept xs.length).toNat)), next := C.sem.deed.iC b (p + 1) }, 70) := by
           unfold ah.program; rw [if_neg hn1, if_neg hn2, if_neg MQ, if_pos hcut]
         first
           | (exfalso; exact Bool.noConfusion (h3.symm.trans hcut))
           | (rw [hl] at e1
              rw [e1]
              have pX : (xs.take (C.sem.kept m).toNat ++ C.sem.blank.drop (C.sem.kept m).toNat).length = C.g.raw.toNat := by
                rw [List.length_append, List.length_take, List.length_drop, hbl, hl, hk]; omega
              refine au.ret (H' := Cw.A bc ((C.deed.fT (b, p) (some ⟨bo, 0, none⟩, C.g.raw.toNat, xs.take (C.sem.kept m).toNat ++ C.sem.blank.drop (C.sem.kept m).toNat) (Cells bo 5 (ints .u8 (xs.take (C.sem.kept m).toNat ++ C.sem.blank.drop (C.sem.kept m).toNat)) :: C.own)).bV b (p + 1)) :: F)
                (aO.tmp rfl rfl) (fun w h => uO (C := C.deed) ?_ pX ?_ h) ⟨_, Dm (C := C.deed) hC.deed pX ((hx.take _).append ((bF.vZ (by omega)).drop _)) (by show 0 ≤ p + 1 ∧ p + 1 ≤ C.g.pg; omega), rfl, ?_, ?_⟩
              · rw [bf, ← rT, aG, List.length_take, hl, show min (C.sem.kept m).toNat m = (C.sem.kept m).toNat by rw [hk]; omega]; rfl
              · rw [Nat.zero_add, Nat.mul_one, ints_set, ← h2]; rfl
              · rw [Cw.jc, Cw.y8]; rfl
              · rfl)
       | false =>
         first
           | (exfalso; exact Bool.noConfusion (h3.symm.trans hcut))
           | (have e1 : C.sem.program b p xs = ({ C.sem.deed with pages := ah.mR C.sem.deed.pages (b, p) (some xs), next := C.sem.deed.iC b (p + 1) }, 0) := by
                unfold ah.program; rw [if_neg hn1, if_neg hn2, if_neg MQ, if_neg (by rw [hcut]; decide), if_neg (by rw [show C.sem.weak b = false from h4]; decide)]
              rw [e1]
              have pX : xs.length = C.g.raw.toNat := by omega
              refine au.ret (H' := Cw.A bc ((C.deed.fT (b, p) (some ⟨bo, 0, none⟩, C.g.raw.toNat, xs) (Cells bo 5 (ints .u8 xs) :: C.own)).bV b (p + 1)) :: F)
                (aO.tmp rfl rfl) (fun w h => uO (C := C.deed) ?_ pX ?_ h) ⟨_, Dm (C := C.deed) hC.deed pX hx (by show 0 ≤ p + 1 ∧ p + 1 ≤ C.g.pg; omega), rfl, ?_, ?_⟩
              · rw [rT, List.drop_eq_nil_of_le (by rw [aG, List.length_replicate]; omega)]; simp [ints]
              · rw [Nat.zero_add, Nat.mul_one, ints_set, ← h2]; rfl
              · rw [Cw.jc, Cw.y8]; rfl
              · rfl)
namespace Cw
def on (C : Cw) : Cw := { C with up := true }
def off (C : Cw) : Cw := { C with up := false }
def arm (C : Cw) (n keep : Int) : Cw := { C with left := max n 0, keep := keep }
def mark (C : Cw) (b : Int) : Cw := { C with marked := fun k => if k = b then true else C.marked k }
variable {C : Cw} (h : C.Ok)
include h
theorem Ok.on : C.on.Ok := ⟨h.aD, h.page, h.wr, h.len, h.next, h.left⟩
theorem Ok.off : C.off.Ok := ⟨h.aD, h.page, h.wr, h.len, h.next, h.left⟩
theorem Ok.arm {n keep : Int} (hn : n ≤ 9223372036854775807) : (C.arm n keep).Ok := ⟨h.aD, h.page, h.wr, h.len, h.next, by show 0 ≤ max n 0 ∧ max n 0 ≤ 9223372036854775807; omega⟩
theorem Ok.mark {b : Int} : (C.mark b).Ok := ⟨h.aD, h.page, h.wr, h.len, h.next, h.left⟩
end Cw
section
variable {bc : Nat} {C : Cw} {K : World} {F : List ak}
theorem NR : Does Tryz.prog 40 #[ptr bc 0] K (C.A bc :: F) (fun v H' => H' = C.on.A bc :: F) := by
  refine Does.nk ?_
  dsimp only [Cw.parts, List.cons_append, List.nil_append]
  refine Does.enter Tryz.func40 rfl Tryz.ntmps40 rfl ?_
  simp only [aI, Nat.reduceAdd]
  refine WC.sr (WL.mv rfl rfl (WL.val (V.OJ Tryz.underlying28 (OV.p rfl) (OV.p rfl)) rfl (WL.nil ?_)))
  refine WC.dV rfl (by first | rfl | (simp; done) | (simp; omega)) ?_
  refine WC.region (WL.mv rfl rfl (WL.nc rfl rfl (WL.val (V.fieldAddr Eo (OV.p rfl)) rfl ?_)))
  refine WL.store (cs := [_]) Tryz.sizeOf4 (OV.p rfl) (OV.p rfl) rfl rfl rfl (by repeat (first | exact bA.here rfl rfl | apply bA.up)) ?_
  refine WL.nil ?_
  exact au.ret (H' := C.on.A bc :: F) (aO.none rfl) (fun w h => Sat.all (l := C.on.parts bc) h) rfl
theorem ME : Does Tryz.prog 38 #[ptr bc 0] K (C.A bc :: F) (fun v H' => H' = C.off.A bc :: F) := by
  refine Does.nk ?_
  dsimp only [Cw.parts, List.cons_append, List.nil_append]
  refine Does.enter Tryz.func38 rfl Tryz.ntmps38 rfl ?_
  simp only [aI, Nat.reduceAdd]
  refine WC.sr (WL.mv rfl rfl (WL.val (V.OJ Tryz.underlying28 (OV.p rfl) (OV.p rfl)) rfl (WL.nil ?_)))
  refine WC.dV rfl (by first | rfl | (simp; done) | (simp; omega)) ?_
  refine WC.region (WL.mv rfl rfl (WL.nc rfl rfl (WL.val (V.fieldAddr Eo (OV.p rfl)) rfl ?_)))
  refine WL.store (cs := [_]) Tryz.sizeOf4 (OV.p rfl) (OV.p rfl) rfl rfl rfl (by repeat (first | exact bA.here rfl rfl | apply bA.up)) ?_
  refine WL.nil ?_
  exact au.ret (H' := C.off.A bc :: F) (aO.none rfl) (fun w h => Sat.all (l := C.off.parts bc) h) rfl
theorem F6 (n keep : Int) : Does Tryz.prog 39 #[ptr bc 0, .int .i64 n, .int .i64 keep] K (C.A bc :: F) (fun v H' => H' = (C.arm n keep).A bc :: F) := by
  refine Does.nk ?_
  dsimp only [Cw.parts, List.cons_append, List.nil_append]
  refine Does.enter Tryz.func39 rfl Tryz.ntmps39 rfl ?_
  simp only [aI, Nat.reduceAdd]
  refine WC.sr (WL.mv rfl rfl (WL.val (V.OJ Tryz.underlying28 (OV.p rfl) (OV.p rfl)) rfl (WL.nil ?_)))
  refine WC.dV rfl (by first | rfl | (simp; done) | (simp; omega)) ?_
  refine WC.region (WL.mv rfl rfl (WL.mv rfl rfl (WL.mv rfl rfl (WL.val (V.max (OV.p rfl) (OV.p rfl)) rfl (WL.mv rfl rfl (WL.nc rfl rfl (WL.val (V.fieldAddr tK (OV.p rfl)) rfl ?_)))))))
  refine WL.store (cs := [_]) Tryz.sizeOf3 (OV.p rfl) (OV.p rfl) rfl rfl rfl (by repeat (first | exact bA.here rfl rfl | apply bA.up)) ?_
  refine WL.nc rfl rfl (WL.val (V.fieldAddr yP (OV.p rfl)) rfl ?_)
  refine WL.store (cs := [_]) Tryz.sizeOf3 (OV.p rfl) (OV.p rfl) rfl rfl rfl (by repeat (first | exact bA.here rfl rfl | apply bA.up)) ?_
  refine WL.nil ?_
  exact au.ret (H' := (C.arm n keep).A bc :: F) (aO.none rfl) (fun w h => Sat.all (l := (C.arm n keep).parts bc) h) rfl
theorem IC : aL Tryz.prog 110 #[ptr bc 0] K (C.A bc :: F) (.bool C.up) := by
  refine Does.nk ?_
  dsimp only [Cw.parts, List.cons_append, List.nil_append]
  refine Does.enter Tryz.func110 rfl Tryz.ntmps110 rfl ?_
  simp only [aI, Nat.reduceAdd]
  refine WC.sr (WL.sg rfl rfl (WL.nil (WC.sr (WL.mv rfl rfl ?_))))
  refine WL.call (vs := [_]) Tryz.call50 ⟨OV.p rfl, trivial⟩ (iV (C := C) (by repeat (first | exact bD.all | apply bD.up))) rfl ?_
  rintro _ H0 ⟨rfl, h0⟩
  subst H0
  refine WL.val (V.eql (OV.p rfl) (OV.p rfl)) rfl (WL.sg rfl rfl (WL.nil (WC.ret ?_)))
  refine au.ret (H' := C.A bc :: F) (aO.tmp rfl rfl) (fun w h => Sat.all (l := C.parts bc) h) ⟨?_, rfl⟩
  show Value.bool (decide ((if C.up then (0 : Int) else 70) = 0)) = _
  cases C.up <;> rfl
theorem Gl (b : Int) : aL Tryz.prog 17 #[ptr bc 0, .int .i64 b] K (C.A bc :: F) (.bool (C.sem.bad b)) := by
  refine Does.nk ?_
  dsimp only [Cw.parts, List.cons_append, List.nil_append]
  refine Does.enter Tryz.func17 rfl Tryz.ntmps17 rfl ?_
  simp only [aI, Nat.reduceAdd]
  refine WC.sr (WL.sg rfl rfl (WL.nil (WC.sr (WL.mv rfl rfl ?_))))
  refine WL.call (vs := [_]) Tryz.call50 ⟨OV.p rfl, trivial⟩ (iV (C := C) (by repeat (first | exact bD.all | apply bD.up))) rfl ?_
  rintro _ H0 ⟨rfl, h0⟩
  subst H0
  refine WL.val (V.eql (OV.p rfl) (OV.p rfl)) rfl (WL.mv rfl rfl (WL.av (oj := _) rfl rfl rfl GC.t (V.move (OV.p rfl)) rfl (WL.av (oj := _) rfl rfl rfl GC.t (V.nilCheck (OV.g rfl id)) rfl (WL.av (oj := _) rfl rfl rfl GC.t (V.fieldAddr Hl (OV.g rfl id)) rfl ?_))))
  refine WL.av (oj := _) rfl rfl rfl GC.t (V.load Tryz.isAgg81 (OV.g rfl id) (fun _ => by repeat (first | exact Rd.here rfl | apply Rd.up))) rfl ?_
  refine WL.av (oj := _) rfl rfl rfl GC.t (V.move (OV.p rfl)) rfl ?_
  refine WL.av (oj := _) rfl rfl rfl GC.t (V.aC (v' := .bool _) (V.lookup (k := _) Tryz.underlying81 Tryz.zeroValue4 QJ (OV.g rfl id) (OV.g rfl id) (fun _ => by repeat (first | exact Bu.here | apply Bu.up))) (fun _ => wh _ _)) rfl ?_
  refine WL.val (V.aJ (OV.p rfl) (OV.g rfl id)) rfl (WL.sg rfl rfl (WL.nil (WC.ret ?_)))
  refine au.ret (H' := C.A bc :: F) (aO.tmp rfl rfl) (fun w h => Sat.all (l := C.parts bc) h) ⟨?_, rfl⟩
  show Value.bool (decide ((if C.up then (0 : Int) else 70) = 0) && C.marked b) = Value.bool (C.up && C.marked b)
  cases C.up <;> rfl
theorem BO : aL Tryz.prog 79 #[ptr bc 0] K (C.A bc :: F) C.g.v := by
  refine Does.nk ?_
  dsimp only [Cw.parts, List.cons_append, List.nil_append]
  refine Does.enter Tryz.func79 rfl Tryz.ntmps79 rfl ?_
  simp only [aI, Nat.reduceAdd]
  refine WC.sr ?_
  refine WL.alloc (cs := [(.int .i64 0), (.int .i64 0), (.int .i64 0), (.int .i64 0), (.int .i64 0)]) Tryz.zeroValue23 rfl rfl (fun b2 => ?_)
  refine WL.nil (WC.seq (WC.sr (WL.mv rfl rfl (WL.val (V.lQ Tryz.underlying28 (OV.p rfl) (OV.p rfl)) rfl (WL.nil ?_)))))
  refine WC.aQ rfl (by first | rfl | (simp; done) | (simp; omega)) ?_
  refine WC.skip (WC.sr (WL.mv rfl rfl (WL.nc rfl rfl (WL.val (V.fieldAddr DT (OV.p rfl)) rfl ?_))))
  refine WL.val (V.bB (vs := [_, _, _, _, _]) ⟨Tryz.isAgg23, Tryz.sizeOf23⟩ (OV.p rfl) rfl (fun _ => by repeat (first | exact bD.gets ⟨rfl, rfl, rfl, rfl, rfl, trivial⟩ | apply bD.up))) rfl ?_
  refine WL.store (cs := [_, _, _, _, _]) Tryz.sizeOf23 (OV.p rfl) (OV.p rfl) rfl rfl rfl (by repeat (first | exact bA.here (cs' := [_, _, _, _, _]) rfl rfl | apply bA.up)) ?_
  refine WL.nil (WC.ret ?_)
  exact au.ret (H' := C.A bc :: F) (aO.one rfl (R1.xZ (vs := [_, _, _, _, _]) rfl ⟨Tryz.isAgg23, Tryz.sizeOf23⟩ rfl (by repeat (first | exact bD.gets ⟨rfl, rfl, rfl, rfl, rfl, trivial⟩ | apply bD.up)))) (fun w h => Sat.all (l := C.parts bc) h.tail) ⟨rfl, rfl⟩
end
theorem oM (f : Int × Int → Option Value) (b : Int) (i : Nat) : upd (ah.aP f b i) (b, (i : Int)) none = ah.aP f b ((i + 1 : Nat) : Int) := by
  funext q
  obtain ⟨x, y⟩ := q
  unfold upd ah.aP
  simp only [Prod.mk.injEq]
  by_cases h1 : x = b ∧ y = i
  · rw [if_pos h1, if_pos (by omega)]
  · rw [if_neg h1]
    by_cases h2 : x = b ∧ 0 ≤ y ∧ y < (i : Int)
    · rw [if_pos h2, if_pos (by omega)]
    · rw [if_neg h2, if_neg (by omega)]
theorem l8 {α : Type} (f : Int × Int → Option α) (b : Int) : ah.aP f b 0 = f := by
  funext q
  unfold ah.aP
  rw [if_neg (by omega)]
namespace Cw
def aP (C : Cw) (b n : Int) : Cw := { C with pages := ah.aP C.pages b n, wrong := ah.aP C.wrong b n }
theorem uj {α β : Type} (f : Int × Int → Option α) (g : α → β) (b n : Int) : (fun p => (ah.aP f b n p).map g) = ah.aP (fun p => (f p).map g) b n := by
  funext q
  unfold ah.aP
  split <;> rfl
theorem l6 (C : Cw) (b n : Int) : (C.aP b n).fZ = ah.aP C.fZ b n := uj C.pages fQ b n
theorem mF (C : Cw) (b n : Int) : (C.aP b n).gM = ah.aP C.gM b n := uj C.wrong fQ b n
theorem vN (C : Cw) (b n : Int) : (C.aP b n).sem = { C.sem with pages := ah.aP C.sem.pages b n, wrong := ah.aP C.sem.wrong b n } := by
  unfold sem aP
  simp only [uj]
theorem Ok.aP {C : Cw} (h : C.Ok) (b n : Int) : (C.aP b n).Ok := by
  have hd : ∀ {α : Type} (f : Int × Int → Option α) p e, ah.aP f b n p = some e → f p = some e := fun f p e he => by
    unfold ah.aP at he
    split at he
    · cases he
    · exact he
  exact ⟨h.aD, fun p e he => h.page p e (hd _ p e he), fun p e he => h.wr p e (hd _ p e he), h.len, h.next, h.left⟩
end Cw
theorem Hz {bc : Nat} {C : Cw} (hC : C.Ok) (b : Int) {K : World} {F : List ak} :
    Does Tryz.prog 91 #[ptr bc 0, .int .i64 b] K (C.A bc :: F)
      (fun v H' => ∃ C' : Cw, C'.Ok ∧ H' = C'.A bc :: F ∧ C'.sem = (C.sem.erase b).1 ∧ v = .int .i64 (C.sem.erase b).2) := by
  have hlen := hC.len
  have hlen' : (C.deed.next.length : Int) = C.g.bl := hC.len
  have hm := hC.aD
  unfold Geo.aD at hm
  refine Does.nk ?_
  dsimp only [Cw.parts, List.cons_append, List.nil_append]
  refine Does.enter Tryz.func91 rfl Tryz.ntmps91 rfl ?_
  simp only [aI, Nat.reduceAdd]
  refine WC.sr (WL.sg rfl rfl (WL.nil (WC.seq (WC.sr (WL.mv rfl rfl ?_)))))
  refine WL.call (vs := [_]) Tryz.call50 ⟨OV.p rfl, trivial⟩ (iV (C := C) (by repeat (first | exact bD.all | apply bD.up))) rfl ?_
  rintro _ H0 ⟨rfl, h0⟩
  subst H0
  refine WL.sg rfl rfl (WL.nil (WC.sr (WL.mv rfl rfl (WL.val (V.neq (OV.p rfl) (OV.p rfl)) rfl (WL.nil ?_)))))
  refine WC.cond rfl (fun hc0 => ?_) (fun hc0 => ?_)
  ·skip
   have hup : C.up = false := by cases h : C.up <;> simp [ah.ready, Cw.sem, h] at hc0 ⊢
   refine WC.sr (WL.mv rfl rfl (WL.sg rfl rfl (WL.nil (WC.ret ?_))))
   have e1 : C.sem.erase b = (C.sem, 70) := by unfold ah.erase; rw [if_pos (show C.sem.up = false from hup)]
   rw [e1]
   exact au.ret (H' := C.A bc :: F) (aO.tmp rfl rfl) (fun w h => Sat.all (l := C.parts bc) h) ⟨C, hC, rfl, rfl, by unfold ah.ready; rw [if_neg (by show ¬ C.up = true; rw [hup]; decide)]⟩
  ·skip
   have hup : C.up = true := by cases h : C.up <;> simp [ah.ready, Cw.sem, h] at hc0 ⊢
   refine WC.skip (WC.seq (WC.sr (WL.mv rfl rfl (WL.mv rfl rfl ?_))))
   refine WL.call (vs := [_, _]) Tryz.call46 ⟨OV.p rfl, OV.p rfl, trivial⟩ (oo (C := C) b (by repeat (first | exact bD.all | apply bD.up))) rfl ?_
   rintro _ H0 ⟨rfl, h0⟩
   subst H0
   refine WL.val (V.not (OV.p rfl)) rfl (WL.nil ?_)
   refine WC.cond rfl (fun hc1 => ?_) (fun hc1 => ?_)
   ·simp only [decide_eq_true_eq, decide_eq_false_iff_not, Bool.and_eq_true, Bool.or_eq_true, Bool.and_eq_false_iff, Bool.or_eq_false_iff, Bool.not_eq_true', Bool.not_eq_false', Bool.not_eq_true, Bool.not_eq_false, decide_eq_true_eq, decide_eq_false_iff_not] at hc1
    refine WC.sr (WL.sg rfl rfl (WL.nil (WC.ret ?_)))
    have e1 : C.sem.erase b = (C.sem, 1) := by unfold ah.erase; rw [if_neg (by show ¬ C.up = false; rw [hup]; decide), if_pos hc1]
    rw [e1]
    exact au.ret (H' := C.A bc :: F) (aO.tmp rfl rfl) (fun w h => Sat.all (l := C.parts bc) h) ⟨C, hC, rfl, rfl, rfl⟩
   ·simp only [decide_eq_true_eq, decide_eq_false_iff_not, Bool.and_eq_true, Bool.or_eq_true, Bool.and_eq_false_iff, Bool.or_eq_false_iff, Bool.not_eq_true', Bool.not_eq_false', Bool.not_eq_true, Bool.not_eq_false, decide_eq_true_eq, decide_eq_false_iff_not] at hc1
    have hbl : 0 ≤ b ∧ b < C.g.bl := by
      have h := hc1
      simp only [ah.block, Bool.and_eq_true, decide_eq_true_eq] at h
      exact h
    refine WC.skip (WC.sr (WL.mv rfl rfl (WL.nc rfl rfl (WL.val (V.fieldAddr DT (OV.p rfl)) rfl (WL.val (V.fieldAddr nR (OV.p rfl)) rfl (WL.ld Tryz.isAgg3 rfl rfl ?_))))))
    refine WL.sg rfl rfl (WL.nil (WC.sr (WL.mv rfl rfl (WL.call (vs := [_]) Tryz.call117 ⟨OV.p rfl, trivial⟩ (vX (C := C) hC.left) rfl ?_))))
    rintro _ _ ⟨rfl, rfl⟩
    refine WL.sg rfl rfl (WL.nil (WC.seq (WC.block (WC.sr (WL.mv rfl rfl (WL.sg rfl rfl (WL.nil ?_)))))))
    refine WC.cond rfl (fun hc2 => ?_) (fun hc2 => ?_)
    ·skip
     have h2 := hc2
     refine WC.region (WL.mv rfl rfl (WL.nc rfl rfl (WL.val (V.fieldAddr yP (OV.p rfl)) rfl (WL.ld Tryz.isAgg3 rfl rfl ?_))))
     refine WL.val (V.max (OV.p rfl) (OV.p rfl)) rfl (WL.mv rfl rfl (WL.val (V.min (OV.p rfl) (OV.p rfl)) rfl (WL.sg rfl rfl (WL.nil (WC.seq (WC.seq ?_))))))
     first
     | refine WC.Eh (α := Int × List Int) (fun x => 0 ≤ x.1 ∧ x.1 ≤ C.g.pg ∧ ((C.sem.cut = true ∧ x.1 = C.sem.kept C.g.pg ∧ x.2 = C.next) ∨ (C.sem.cut = false ∧ C.sem.weak b = false ∧ x.1 = C.g.pg ∧ x.2 = C.next.set b.toNat 0))) (fun x => [(0, ptr bc 0), (1, .int .i64 b), (6, .int .i64 x.1), (7, .bool C.sem.cut)]) (fun x => Cells bc 83 C.deed.cells :: cO C.bp eF C.fZ :: cO C.bw eF C.gM :: Cells C.bn 3 (ints .i64 x.2) :: cO C.bm kC (gQ C.marked) :: cO C.bk kC (gQ C.weak) :: bG C.own :: F) (C.sem.kept C.g.pg, C.next) ⟨by show 0 ≤ min (max C.keep 0) C.g.pg; omega, by show min (max C.keep 0) C.g.pg ≤ C.g.pg; omega, .inl ⟨h2, rfl, rfl⟩⟩ (.cons rfl (.cons rfl (.cons rfl (.cons rfl (.nil _))))) (fun w h => h) (fun x hx => ?_)
     | refine WC.Eh (α := Int × List Int) (fun x => 0 ≤ x.1 ∧ x.1 ≤ C.g.pg ∧ ((C.sem.cut = true ∧ x.1 = C.sem.kept C.g.pg ∧ x.2 = C.next) ∨ (C.sem.cut = false ∧ C.sem.weak b = false ∧ x.1 = C.g.pg ∧ x.2 = C.next.set b.toNat 0))) (fun x => [(0, ptr bc 0), (1, .int .i64 b), (6, .int .i64 x.1), (7, .bool C.sem.cut)]) (fun x => Cells bc 83 C.deed.cells :: cO C.bp eF C.fZ :: cO C.bw eF C.gM :: Cells C.bn 3 (ints .i64 x.2) :: cO C.bm kC (gQ C.marked) :: cO C.bk kC (gQ C.weak) :: bG C.own :: F) (C.g.pg, C.next.set b.toNat 0) ⟨by omega, Int.le_refl _, .inr ⟨h2, h3, rfl, rfl⟩⟩ (.cons rfl (.cons rfl (.cons rfl (.cons rfl (.nil _))))) (fun w h => by rw [Nat.zero_add, Nat.mul_one, ints_set] at h; exact h) (fun x hx => ?_)
     obtain ⟨n, nx⟩ := x
     obtain ⟨hn0, hn1, hx⟩ := hx
     dsimp only at hn0 hn1 hx ⊢
     refine WC.region (WL.mv rfl rfl (WL.mv rfl rfl (WL.nil (WC.block ?_))))
     refine WC.loop (σ := Nat) (fun i => [(0, ptr bc 0), (1, .int .i64 b), (7, .bool C.sem.cut), (47, .int .i64 n), (48, .int .i64 (i : Int))]) (fun i => Cells bc 83 C.deed.cells :: cO C.bp eF (ah.aP C.fZ b i) :: cO C.bw eF (ah.aP C.gM b i) :: Cells C.bn 3 (ints .i64 nx) :: cO C.bm kC (gQ C.marked) :: cO C.bk kC (gQ C.weak) :: bG C.own :: F) (fun i => (i : Int) ≤ n) (fun i => n.toNat - i) 0 (by show ((0 : Nat) : Int) ≤ n; omega) (.cons rfl (.cons rfl (.cons rfl (.cons rfl (.cons rfl (.nil _)))))) (fun w h => by rw [show ((0 : Nat) : Int) = 0 from rfl, l8, l8]; exact h) ?_
     rintro i hi
     refine WC.sr (WL.val (V.lss (OV.p rfl) (OV.p rfl)) rfl (WL.nil (WC.seq ?_)))
     refine WC.cond rfl (fun hc4 => ?_) (fun hc4 => ?_)
     ·try simp only [decide_eq_true_eq, decide_eq_false_iff_not, Bool.and_eq_true, Bool.or_eq_true, Bool.and_eq_false_iff, Bool.or_eq_false_iff, Bool.not_eq_true', Bool.not_eq_false', Bool.not_eq_true, Bool.not_eq_false, Int.not_lt, Int.not_le] at hc4
      refine WC.skip (WC.seq (WC.block (WC.sr (WL.mv rfl rfl (WL.sg rfl rfl (WL.nil (WC.sr (WL.mv rfl rfl (WL.nc rfl rfl (WL.val (V.fieldAddr w9 (OV.p rfl)) rfl (WL.ld Tryz.isAgg79 rfl rfl ?_)))))))))))
      refine WL.mv rfl rfl (WL.mv rfl rfl (WL.val (V.build (vs := [(0, _), (1, _)]) ⟨OV.p rfl, OV.p rfl, trivial⟩ rfl (eT _ _)) rfl ?_))
      refine WL.uJ (k := (_, _)) Tryz.underlying79 p8 (OV.p rfl) (OV.p rfl) (by repeat (first | exact jT.here | apply jT.up)) ?_
      refine WL.nil (WC.region (WL.mv rfl rfl (WL.nc rfl rfl (WL.val (V.fieldAddr AV (OV.p rfl)) rfl (WL.ld Tryz.isAgg80 rfl rfl ?_)))))
      refine WL.mv rfl rfl (WL.mv rfl rfl (WL.val (V.build (vs := [(0, _), (1, _)]) ⟨OV.p rfl, OV.p rfl, trivial⟩ rfl (eT _ _)) rfl ?_))
      refine WL.uJ (k := (_, _)) Tryz.underlying80 p8 (OV.p rfl) (OV.p rfl) (by repeat (first | exact jT.here | apply jT.up)) ?_
      refine WL.nil (WC.region (WL.ad rfl rfl rfl ?_))
      refine WL.mv rfl rfl (WL.nil ?_)
      refine ⟨rfl, ?_⟩
      refine ⟨i + 1, (by show ((i + 1 : Nat) : Int) ≤ n; omega), (by show n.toNat - (i + 1) < n.toNat - i; omega), .cons rfl (.cons rfl (.cons rfl (.cons rfl (.cons (look_eq rfl (by simp)) (.nil _))))), fun w h => ?_⟩
      rw [oM, oM] at h
      exact h
     ·try simp only [decide_eq_true_eq, decide_eq_false_iff_not, Bool.and_eq_true, Bool.or_eq_true, Bool.and_eq_false_iff, Bool.or_eq_false_iff, Bool.not_eq_true', Bool.not_eq_false', Bool.not_eq_true, Bool.not_eq_false, Int.not_lt, Int.not_le] at hc4
      refine WC.exit (WC.sr (WL.mv rfl rfl (WL.mv rfl rfl (WL.call (vs := [_, _]) Tryz.call118 ⟨OV.p rfl, OV.p rfl, trivial⟩ (jE _ _) rfl ?_))))
      rintro _ H0 ⟨rfl, h0⟩
      subst H0
      refine WL.sg rfl rfl (WL.nil (WC.ret ?_))
      obtain rfl : n = (i : Int) := by omega
      have hu : ¬ C.sem.up = false := by show ¬ C.up = false; rw [hup]; decide
      have hb' : ¬ C.sem.block b = false := by rw [hc1]; decide
      rcases hx with ⟨hcut, hn, rfl⟩ | ⟨hcut, hw, hn, rfl⟩
      · have e1 : C.sem.erase b = ({ C.sem.deed with pages := ah.aP C.sem.deed.pages b i, wrong := ah.aP C.sem.deed.wrong b i }, 70) := by
          unfold ah.erase; rw [if_neg hu, if_neg hb', if_pos hcut, hn]; rfl
        rw [e1, hcut]
        refine au.ret (H' := (C.deed.aP b i).A bc :: F) (aO.tmp rfl rfl) (fun w h => Sat.all (l := (C.deed.aP b i).parts bc) ?_) ⟨_, hC.deed.aP b i, rfl, Cw.vN _ _ _, rfl⟩
        unfold Cw.parts
        rw [Cw.l6, Cw.mF]
        exact h
      · have e1 : C.sem.erase b = ({ C.sem.deed with pages := ah.aP C.sem.deed.pages b i, wrong := ah.aP C.sem.deed.wrong b i, next := C.sem.deed.iC b 0 }, 0) := by
          unfold ah.erase; rw [if_neg hu, if_neg hb', if_neg (by rw [hcut]; decide), if_neg (by rw [hw]; decide), hn]; rfl
        rw [e1, hcut]
        refine au.ret (H' := ((C.deed.aP b i).bV b 0).A bc :: F) (aO.tmp rfl rfl) (fun w h => Sat.all (l := ((C.deed.aP b i).bV b 0).parts bc) ?_) ⟨_, (hC.deed.aP b i).bV (by show (0 : Int) ≤ 0 ∧ 0 ≤ C.g.pg; omega), rfl, ?_, rfl⟩
        · unfold Cw.parts
          rw [show ((C.deed.aP b i).bV b 0).fZ = _ from Cw.l6 C.deed b i, show ((C.deed.aP b i).bV b 0).gM = _ from Cw.mF C.deed b i]
          have e2 : ((C.deed.aP b i).bV b 0).cells = C.deed.cells := by
            unfold Cw.cells Cw.bV Cw.aP
            simp
          rw [e2]
          exact h
        · rw [Cw.jc, Cw.vN]; rfl
    ·skip
     have h2 := hc2
     refine WC.sr (WL.mv rfl rfl (WL.nc rfl rfl (WL.val (V.fieldAddr Mx (OV.p rfl)) rfl (WL.ld Tryz.isAgg81 rfl rfl ?_))))
     refine WL.mv rfl rfl ?_
     refine WL.val (V.aC (v' := .bool _) (V.lookup (k := _) Tryz.underlying81 Tryz.zeroValue4 QJ (OV.p rfl) (OV.p rfl) (fun _ => by repeat (first | exact Bu.here | apply Bu.up))) (fun _ => wh _ _)) rfl ?_
     refine WL.sg rfl rfl (WL.nil ?_)
     refine WC.cond rfl (fun hc3 => ?_) (fun hc3 => ?_)
     ·skip
      have h3 := hc3
      refine WC.sr (WL.sg rfl rfl (WL.nil (WC.ret ?_)))
      have e1 : C.sem.erase b = (C.sem.deed, 72) := by unfold ah.erase; rw [if_neg (by show ¬ C.up = false; rw [hup]; decide), if_neg (by rw [hc1]; decide), if_neg (by rw [h2]; decide), if_pos (show C.sem.weak b = true from h3)]
      rw [e1]
      exact au.ret (H' := C.deed.A bc :: F) (aO.tmp rfl rfl) (fun w h => Sat.all (l := C.deed.parts bc) h) ⟨C.deed, hC.deed, rfl, rfl, rfl⟩
     ·skip
      have h3 := hc3
      refine WC.region (WL.mv rfl rfl (WL.nc rfl rfl (WL.val (V.fieldAddr Du (OV.p rfl)) rfl (WL.ld Tryz.isAgg24 rfl rfl ?_))))
      refine WL.mv rfl rfl ?_
      refine WL.val (V.bR bZ (OV.p rfl) (OV.p rfl) (fun hc => by first | omega | (simp at hc; omega))) rfl ?_
      refine WL.store (cs := [_]) Tryz.sizeOf3 (OV.p rfl) (OV.p rfl) rfl rfl rfl (by repeat (first | exact bA.at_ (by rw [Nat.zero_add, Nat.mul_one, aG]; omega) | apply bA.up)) ?_
      refine WL.nil (WC.seq (WC.seq ?_))
      first
      | refine WC.Eh (α := Int × List Int) (fun x => 0 ≤ x.1 ∧ x.1 ≤ C.g.pg ∧ ((C.sem.cut = true ∧ x.1 = C.sem.kept C.g.pg ∧ x.2 = C.next) ∨ (C.sem.cut = false ∧ C.sem.weak b = false ∧ x.1 = C.g.pg ∧ x.2 = C.next.set b.toNat 0))) (fun x => [(0, ptr bc 0), (1, .int .i64 b), (6, .int .i64 x.1), (7, .bool C.sem.cut)]) (fun x => Cells bc 83 C.deed.cells :: cO C.bp eF C.fZ :: cO C.bw eF C.gM :: Cells C.bn 3 (ints .i64 x.2) :: cO C.bm kC (gQ C.marked) :: cO C.bk kC (gQ C.weak) :: bG C.own :: F) (C.sem.kept C.g.pg, C.next) ⟨by show 0 ≤ min (max C.keep 0) C.g.pg; omega, by show min (max C.keep 0) C.g.pg ≤ C.g.pg; omega, .inl ⟨h2, rfl, rfl⟩⟩ (.cons rfl (.cons rfl (.cons rfl (.cons rfl (.nil _))))) (fun w h => h) (fun x hx => ?_)
      | refine WC.Eh (α := Int × List Int) (fun x => 0 ≤ x.1 ∧ x.1 ≤ C.g.pg ∧ ((C.sem.cut = true ∧ x.1 = C.sem.kept C.g.pg ∧ x.2 = C.next) ∨ (C.sem.cut = false ∧ C.sem.weak b = false ∧ x.1 = C.g.pg ∧ x.2 = C.next.set b.toNat 0))) (fun x => [(0, ptr bc 0), (1, .int .i64 b), (6, .int .i64 x.1), (7, .bool C.sem.cut)]) (fun x => Cells bc 83 C.deed.cells :: cO C.bp eF C.fZ :: cO C.bw eF C.gM :: Cells C.bn 3 (ints .i64 x.2) :: cO C.bm kC (gQ C.marked) :: cO C.bk kC (gQ C.weak) :: bG C.own :: F) (C.g.pg, C.next.set b.toNat 0) ⟨by omega, Int.le_refl _, .inr ⟨h2, h3, rfl, rfl⟩⟩ (.cons rfl (.cons rfl (.cons rfl (.cons rfl (.nil _))))) (fun w h => by rw [Nat.zero_add, Nat.mul_one, ints_set] at h; exact h) (fun x hx => ?_)
      obtain ⟨n, nx⟩ := x
      obtain ⟨hn0, hn1, hx⟩ := hx
      dsimp only at hn0 hn1 hx ⊢
      refine WC.region (WL.mv rfl rfl (WL.mv rfl rfl (WL.nil (WC.block ?_))))
      refine WC.loop (σ := Nat) (fun i => [(0, ptr bc 0), (1, .int .i64 b), (7, .bool C.sem.cut), (47, .int .i64 n), (48, .int .i64 (i : Int))]) (fun i => Cells bc 83 C.deed.cells :: cO C.bp eF (ah.aP C.fZ b i) :: cO C.bw eF (ah.aP C.gM b i) :: Cells C.bn 3 (ints .i64 nx) :: cO C.bm kC (gQ C.marked) :: cO C.bk kC (gQ C.weak) :: bG C.own :: F) (fun i => (i : Int) ≤ n) (fun i => n.toNat - i) 0 (by show ((0 : Nat) : Int) ≤ n; omega) (.cons rfl (.cons rfl (.cons rfl (.cons rfl (.cons rfl (.nil _)))))) (fun w h => by rw [show ((0 : Nat) : Int) = 0 from rfl, l8, l8]; exact h) ?_
      rintro i hi
      refine WC.sr (WL.val (V.lss (OV.p rfl) (OV.p rfl)) rfl (WL.nil (WC.seq ?_)))
      refine WC.cond rfl (fun hc4 => ?_) (fun hc4 => ?_)
      ·try simp only [decide_eq_true_eq, decide_eq_false_iff_not, Bool.and_eq_true, Bool.or_eq_true, Bool.and_eq_false_iff, Bool.or_eq_false_iff, Bool.not_eq_true', Bool.not_eq_false', Bool.not_eq_true, Bool.not_eq_false, Int.not_lt, Int.not_le] at hc4
       refine WC.skip (WC.seq (WC.block (WC.sr (WL.mv rfl rfl (WL.sg rfl rfl (WL.nil (WC.sr (WL.mv rfl rfl (WL.nc rfl rfl (WL.val (V.fieldAddr w9 (OV.p rfl)) rfl (WL.ld Tryz.isAgg79 rfl rfl ?_)))))))))))
       refine WL.mv rfl rfl (WL.mv rfl rfl (WL.val (V.build (vs := [(0, _), (1, _)]) ⟨OV.p rfl, OV.p rfl, trivial⟩ rfl (eT _ _)) rfl ?_))
       refine WL.uJ (k := (_, _)) Tryz.underlying79 p8 (OV.p rfl) (OV.p rfl) (by repeat (first | exact jT.here | apply jT.up)) ?_
       refine WL.nil (WC.region (WL.mv rfl rfl (WL.nc rfl rfl (WL.val (V.fieldAddr AV (OV.p rfl)) rfl (WL.ld Tryz.isAgg80 rfl rfl ?_)))))
       refine WL.mv rfl rfl (WL.mv rfl rfl (WL.val (V.build (vs := [(0, _), (1, _)]) ⟨OV.p rfl, OV.p rfl, trivial⟩ rfl (eT _ _)) rfl ?_))
       refine WL.uJ (k := (_, _)) Tryz.underlying80 p8 (OV.p rfl) (OV.p rfl) (by repeat (first | exact jT.here | apply jT.up)) ?_
       refine WL.nil (WC.region (WL.ad rfl rfl rfl ?_))
       refine WL.mv rfl rfl (WL.nil ?_)
       refine ⟨rfl, ?_⟩
       refine ⟨i + 1, (by show ((i + 1 : Nat) : Int) ≤ n; omega), (by show n.toNat - (i + 1) < n.toNat - i; omega), .cons rfl (.cons rfl (.cons rfl (.cons rfl (.cons (look_eq rfl (by simp)) (.nil _))))), fun w h => ?_⟩
       rw [oM, oM] at h
       exact h
      ·try simp only [decide_eq_true_eq, decide_eq_false_iff_not, Bool.and_eq_true, Bool.or_eq_true, Bool.and_eq_false_iff, Bool.or_eq_false_iff, Bool.not_eq_true', Bool.not_eq_false', Bool.not_eq_true, Bool.not_eq_false, Int.not_lt, Int.not_le] at hc4
       refine WC.exit (WC.sr (WL.mv rfl rfl (WL.mv rfl rfl (WL.call (vs := [_, _]) Tryz.call118 ⟨OV.p rfl, OV.p rfl, trivial⟩ (jE _ _) rfl ?_))))
       rintro _ H0 ⟨rfl, h0⟩
       subst H0
       refine WL.sg rfl rfl (WL.nil (WC.ret ?_))
       obtain rfl : n = (i : Int) := by omega
       have hu : ¬ C.sem.up = false := by show ¬ C.up = false; rw [hup]; decide
       have hb' : ¬ C.sem.block b = false := by rw [hc1]; decide
       rcases hx with ⟨hcut, hn, rfl⟩ | ⟨hcut, hw, hn, rfl⟩
       · have e1 : C.sem.erase b = ({ C.sem.deed with pages := ah.aP C.sem.deed.pages b i, wrong := ah.aP C.sem.deed.wrong b i }, 70) := by
           unfold ah.erase; rw [if_neg hu, if_neg hb', if_pos hcut, hn]; rfl
         rw [e1, hcut]
         refine au.ret (H' := (C.deed.aP b i).A bc :: F) (aO.tmp rfl rfl) (fun w h => Sat.all (l := (C.deed.aP b i).parts bc) ?_) ⟨_, hC.deed.aP b i, rfl, Cw.vN _ _ _, rfl⟩
         unfold Cw.parts
         rw [Cw.l6, Cw.mF]
         exact h
       · have e1 : C.sem.erase b = ({ C.sem.deed with pages := ah.aP C.sem.deed.pages b i, wrong := ah.aP C.sem.deed.wrong b i, next := C.sem.deed.iC b 0 }, 0) := by
           unfold ah.erase; rw [if_neg hu, if_neg hb', if_neg (by rw [hcut]; decide), if_neg (by rw [hw]; decide), hn]; rfl
         rw [e1, hcut]
         refine au.ret (H' := ((C.deed.aP b i).bV b 0).A bc :: F) (aO.tmp rfl rfl) (fun w h => Sat.all (l := ((C.deed.aP b i).bV b 0).parts bc) ?_) ⟨_, (hC.deed.aP b i).bV (by show (0 : Int) ≤ 0 ∧ 0 ≤ C.g.pg; omega), rfl, ?_, rfl⟩
         · unfold Cw.parts
           rw [show ((C.deed.aP b i).bV b 0).fZ = _ from Cw.l6 C.deed b i, show ((C.deed.aP b i).bV b 0).gM = _ from Cw.mF C.deed b i]
           have e2 : ((C.deed.aP b i).bV b 0).cells = C.deed.cells := by
             unfold Cw.cells Cw.bV Cw.aP
             simp
           rw [e2]
           exact h
         · rw [Cw.jc, Cw.vN]; rfl
end Go.Proofs.YtcmojpiokjhmhaaGreat
