import Derived.Test.YtcedojacbhnbiaaGreatP11
namespace Go.Proofs.YtcedojacbhnbiaaGreat
open Go.Sl Go.RowKit
set_option linter.unusedVariables false
set_option linter.unusedSimpArgs false
set_option maxRecDepth 20000
namespace Cw
def fH (C : Cw) (k : Int × Int) (e : Option Addr × Nat × List Int) (own : List au) : Cw := { C with pages := fun q => if q = k then some e else C.pages q, own := own }
def bR (C : Cw) (b x : Int) : Cw := { C with next := C.next.set b.toNat x }
theorem Gh (C : Cw) (k : Int × Int) (e : Option Addr × Nat × List Int) (own : List au) : (C.fH k e own).gB = upd C.gB k (some (jo e)) := by
  funext q
  show (if q = k then some e else C.pages q).map jo = if q = k then some (jo e) else (C.pages q).map jo
  split <;> rfl
theorem Ok.deed {C : Cw} (h : C.Ok) : C.deed.Ok := ⟨h.aF, h.page, h.wr, h.len, h.next, by
  have := h.left
  show 0 ≤ (if C.left = 0 then 0 else C.left - 1) ∧ (if C.left = 0 then 0 else C.left - 1) ≤ 9223372036854775807
  split <;> omega⟩
theorem Ok.fH {C : Cw} (h : C.Ok) {k : Int × Int} {e : Option Addr × Nat × List Int} {own : List au} (hup : ∀ K w, Sat K w [bH own] → Sat K w [bH C.own]) (h1 : eB own e.1 e.2.2.length 1 (ints .u8 e.2.2)) (h2 : (e.2.2.length : Int) = C.g.raw) (h3 : aZ e.2.2) :
    (C.fH k e own).Ok := by
  refine ⟨h.aF, fun p e' hp => ?_, fun p e' hp => ⟨(h.wr p e' hp).1.mono hup, (h.wr p e' hp).2⟩, h.len, h.next, h.left⟩
  have hp' : (if p = k then some e else C.pages p) = some e' := hp
  split at hp'
  · injection hp' with hp'; subst hp'; exact ⟨h1, h2, h3⟩
  · have := h.page p e' hp'; exact ⟨this.1.mono hup, this.2⟩
theorem Ok.bR {C : Cw} (h : C.Ok) {b x : Int} (hx : 0 ≤ x ∧ x ≤ C.g.pg) : (C.bR b x).Ok := by
  refine ⟨h.aF, h.page, h.wr, ?_, fun y hy => ?_, h.left⟩
  · show ((C.next.set b.toNat x).length : Int) = C.g.bl
    rw [List.length_set]; exact h.len
  · rcases List.mem_or_eq_of_mem_set hy with h1 | h1
    · exact h.next y h1
    · subst h1; exact hx
theorem wX (C : Cw) (k : Int × Int) (e : Option Addr × Nat × List Int) (own : List au) : (C.fH k e own).sem = { C.sem with pages := ak.sU C.sem.pages k (some e.2.2) } := by
  unfold sem fH
  simp only [ak.mk.injEq, true_and, and_true]
  funext q
  show (if q = k then some e else C.pages q).map (·.2.2) = if q = k then some e.2.2 else (C.pages q).map (·.2.2)
  split <;> rfl
theorem iR (C : Cw) (b x : Int) : (C.bR b x).sem = { C.sem with next := C.sem.gQ b x } := rfl
theorem Na (A : au) (l : List au) : ∀ K w, Sat K w [bH (A :: l)] → Sat K w [bH l] := fun K w h => Sat.all (l := l) (H := []) h.vX.tail
end Cw
theorem tK {bc bo : Nat} {C : Cw} {b p x : Int} {bytes : List Int} {nx vs : List Value} {K w : World} {F : List au} (hvs : vs = ints .u8 bytes) (hn : bytes.length = C.g.raw.toNat) (hnx : nx = ints .i64 (C.next.set b.toNat x))
    (h : Sat K w (Cells bc 165 C.cells :: Cells bo 5 vs :: cu C.bp dW (upd C.gB (b, p) (some (.slice (some ⟨bo, 0, none⟩) C.g.raw.toNat C.g.raw.toNat))) :: cu C.bw dW C.jf :: Cells C.bn 3 nx
      :: cu C.bm kI (gV C.marked) :: cu C.bk kI (gV C.weak) :: bH C.own :: F)) :
    Sat K w (((C.fH (b, p) (some ⟨bo, 0, none⟩, C.g.raw.toNat, bytes) (Cells bo 5 (ints .u8 bytes) :: C.own)).bR b x).A bc :: F) := by
  subst hvs hnx
  have h1 := (h.sel 8 [1, 7, 0, 2, 3, 4, 5, 6] rfl).JQ
  have h2 := h1.sel 7 [1, 2, 3, 4, 5, 6, 0] rfl
  have e1 : ((C.fH (b, p) (some ⟨bo, 0, none⟩, C.g.raw.toNat, bytes) (Cells bo 5 (ints .u8 bytes) :: C.own)).bR b x).gB = upd C.gB (b, p) (some (.slice (some ⟨bo, 0, none⟩) C.g.raw.toNat C.g.raw.toNat)) := by
    refine (Cw.Gh C (b, p) (some ⟨bo, 0, none⟩, C.g.raw.toNat, bytes) (Cells bo 5 (ints .u8 bytes) :: C.own)).trans ?_
    unfold Cw.jo
    rw [hn]
  refine Sat.all (l := Cw.parts bc _) ?_
  unfold Cw.parts
  rw [e1]
  have e2 : ((C.fH (b, p) (some ⟨bo, 0, none⟩, C.g.raw.toNat, bytes) (Cells bo 5 (ints .u8 bytes) :: C.own)).bR b x).cells = C.cells := by
    unfold Cw.cells Cw.bR Cw.fH
    simp
  rw [e2]
  exact h2
theorem BO {bo : Nat} {C : Cw} (hC : C.Ok) {b p x : Int} {bytes : List Int} (hn : bytes.length = C.g.raw.toNat) (hb : aZ bytes) (hx : 0 ≤ x ∧ x ≤ C.g.pg) :
    ((C.fH (b, p) (some ⟨bo, 0, none⟩, C.g.raw.toNat, bytes) (Cells bo 5 (ints .u8 bytes) :: C.own)).bR b x).Ok := by
  have hr := Geo.lX hC.aF
  refine Cw.Ok.bR (hC.fH (Cw.Na _ _) (eB.here fun K => Seq.allI rfl) (by show (bytes.length : Int) = _; omega) hb) hx
theorem Cb {bc : Nat} {C : Cw} (hC : C.Ok) {B : Option Addr} {m cap : Nat} {xs : List Int} (b p : Int) (hx : aZ xs) {K : World} {F : List au} (hs : Seq K F B m 1 (ints .u8 xs)) (hcap : m ≤ cap) :
    Does Tryz.prog 192 #[ptr bc 0, .int .i64 b, .int .i64 p, .slice B m cap] K (C.A bc :: F)
      (fun v H' => ∃ C' : Cw, C'.Ok ∧ H' = C'.A bc :: F ∧ C'.sem = (C.sem.program b p xs).1 ∧ v = .int .i64 (C.sem.program b p xs).2) := by
  have hl : xs.length = m := by simpa [ints] using hs.len
  have hlen := hC.len
  have hlen' : (C.deed.next.length : Int) = C.g.bl := hC.len
  have hm := hC.aF
  unfold Geo.aF at hm
  have hr := Geo.lX hC.aF
  refine Does.mq ?_
  dsimp only [Cw.parts, List.cons_append, List.nil_append]
  refine Does.enter Tryz.func192 rfl Tryz.ntmps192 rfl ?_
  simp only [aJ, Nat.reduceAdd]
  refine WC.sr (WL.sg rfl rfl (WL.nil (WC.seq (WC.sr (WL.mv rfl rfl ?_)))))
  refine WL.call (vs := [_]) Tryz.call93 ⟨OV.p rfl, trivial⟩ (fM (C := C) (by repeat (first | exact aT.all | apply aT.up))) rfl ?_
  rintro _ H0 ⟨rfl, h0⟩
  subst H0
  refine WL.sg rfl rfl (WL.nil (WC.sr (WL.mv rfl rfl (WL.val (V.neq (OV.p rfl) (OV.p rfl)) rfl (WL.nil ?_)))))
  refine WC.cond rfl (fun hc0 => ?_) (fun hc0 => ?_)
  ·skip
   have hup : C.up = false := by cases h : C.up <;> simp [ak.ready, Cw.sem, h] at hc0 ⊢
   refine WC.sr (WL.mv rfl rfl (WL.sg rfl rfl (WL.nil (WC.ret ?_))))
   have e1 : C.sem.program b p xs = (C.sem, 70) := by unfold ak.program; rw [if_pos (show C.sem.up = false from hup)]
   rw [e1]
   exact aj.ret (H' := C.A bc :: F) (aL.tmp rfl rfl) (fun w h => Sat.all (l := C.parts bc) h) ⟨C, hC, rfl, rfl, by unfold ak.ready; rw [if_neg (by show ¬ C.up = true; rw [hup]; decide)]⟩
  ·skip
   have hup : C.up = true := by cases h : C.up <;> simp [ak.ready, Cw.sem, h] at hc0 ⊢
   refine WC.skip (WC.seq (WC.block (WC.sr (WL.mv rfl rfl (WL.mv rfl rfl (WL.mv rfl rfl ?_))))))
   refine WL.call (vs := [_, _, _]) Tryz.call221 ⟨OV.p rfl, OV.p rfl, OV.p rfl, trivial⟩ (vw (C := C) b p (by repeat (first | exact aT.all | apply aT.up))) rfl ?_
   rintro _ H0 ⟨rfl, h0⟩
   subst H0
   refine WL.val (V.not (OV.p rfl)) rfl (WL.mv rfl rfl (WL.ah (oj := _) rfl rfl rfl GC.f (V.move (OV.p rfl)) rfl (WL.ah (oj := _) rfl rfl rfl GC.f (V.len (t := 34) Tryz.runUnderlying34 (OV.g rfl id)) rfl (WL.ah (oj := _) rfl rfl rfl GC.f (V.move (OV.p rfl)) rfl (WL.ah (oj := _) rfl rfl rfl GC.f (V.nilCheck (OV.g rfl id)) rfl (WL.ah (oj := _) rfl rfl rfl GC.f (V.fieldAddr Hf (OV.g rfl id)) rfl ?_))))))
   refine WL.ah (oj := _) rfl rfl rfl GC.f (V.load Tryz.isAgg3 (OV.g rfl id) (fun _ => by repeat (first | exact Rd.here rfl | apply Rd.up))) rfl ?_
   refine WL.ah (oj := _) rfl rfl rfl GC.f (V.neq (OV.g rfl id) (OV.g rfl id)) rfl (WL.val (V.aS (OV.p rfl) (OV.g rfl id)) rfl (WL.sg rfl rfl (WL.nil ?_)))
   refine WC.cond rfl (fun hc1 => ?_) (fun hc1 => ?_)
   ·simp only [decide_eq_true_eq, decide_eq_false_iff_not, Bool.and_eq_true, Bool.or_eq_true, Bool.and_eq_false_iff, Bool.or_eq_false_iff, Bool.not_eq_true', Bool.not_eq_false', Bool.not_eq_true, Bool.not_eq_false, decide_eq_true_eq, decide_eq_false_iff_not] at hc1
    have e1 : C.sem.program b p xs = (C.sem, 1) := by
      unfold ak.program; rw [if_neg (by show ¬ C.up = false; rw [hup]; decide), if_pos (by rw [hl]; exact hc1)]
    refine WC.sr (WL.sg rfl rfl (WL.nil (WC.ret ?_)))
    rw [e1]
    exact aj.ret (H' := C.A bc :: F) (aL.tmp rfl rfl) (fun w h => Sat.all (l := C.parts bc) h) ⟨C, hC, rfl, rfl, rfl⟩
   ·simp only [decide_eq_true_eq, decide_eq_false_iff_not, Bool.and_eq_true, Bool.or_eq_true, Bool.and_eq_false_iff, Bool.or_eq_false_iff, Bool.not_eq_true', Bool.not_eq_false', Bool.not_eq_true, Bool.not_eq_false, decide_eq_true_eq, decide_eq_false_iff_not] at hc1
    obtain ⟨EG, hraw⟩ := hc1
    have hpg : 0 ≤ b ∧ b < C.g.bl ∧ 0 ≤ p ∧ p < C.g.pg := by
      have h := EG
      simp only [ak.page, ak.block, Bool.and_eq_true, decide_eq_true_eq] at h
      exact ⟨h.1.1.1, h.1.1.2, h.1.2, h.2⟩
    have hk : C.sem.kept m = min (max C.keep 0) m := rfl
    have hnx : 0 ≤ C.sem.iV b ∧ C.sem.iV b ≤ C.g.pg := by
      have h1 : C.sem.iV b = C.next.getD b.toNat 0 := rfl
      have h2 : b.toNat < C.next.length := by omega
      rw [h1, List.getD, List.getElem?_eq_getElem h2]
      exact hC.next _ (List.getElem_mem h2)
    have hget : (ints .i64 C.next)[0 + b.toNat * 1]? = some (.int .i64 (C.sem.iV b)) := by
      rw [Nat.zero_add, Nat.mul_one]; exact mD _ _ (by omega)
    refine WC.sr (WL.mv rfl rfl (WL.mv rfl rfl (WL.nc rfl rfl (WL.val (V.fieldAddr xA (OV.p rfl)) rfl (WL.ld Tryz.isAgg124 rfl rfl ?_)))))
    refine WL.mv rfl rfl ?_
    refine WL.val (V.bP bO (OV.p rfl) (OV.p rfl) (fun hc => by first | omega | (simp at hc; omega))) rfl ?_
    refine WL.val (V.load Tryz.isAgg3 (OV.p rfl) (fun _ => by repeat (first | exact Rd.here hget | apply Rd.up))) rfl ?_
    refine WL.val (V.neq (OV.p rfl) (OV.p rfl)) rfl (WL.sg rfl rfl (WL.nil ?_))
    refine WC.cond rfl (fun hc2 => ?_) (fun hc2 => ?_)
    ·simp only [decide_eq_true_eq, decide_eq_false_iff_not, Bool.and_eq_true, Bool.or_eq_true, Bool.and_eq_false_iff, Bool.or_eq_false_iff, Bool.not_eq_true', Bool.not_eq_false', Bool.not_eq_true, Bool.not_eq_false, decide_eq_true_eq, decide_eq_false_iff_not] at hc2
     have h2 := hc2
     refine WC.sr (WL.sg rfl rfl (WL.nil (WC.ret ?_)))
     have e1 : C.sem.program b p xs = (C.sem, 71) := by
       unfold ak.program; rw [if_neg (by show ¬ C.up = false; rw [hup]; decide), if_neg (by rw [hl, EG]; rintro (h | h); cases h; exact h hraw), if_pos h2]
     rw [e1]
     exact aj.ret (H' := C.A bc :: F) (aL.tmp rfl rfl) (fun w h => Sat.all (l := C.parts bc) h) ⟨C, hC, rfl, rfl, rfl⟩
    ·simp only [decide_eq_true_eq, decide_eq_false_iff_not, Bool.and_eq_true, Bool.or_eq_true, Bool.and_eq_false_iff, Bool.or_eq_false_iff, Bool.not_eq_true', Bool.not_eq_false', Bool.not_eq_true, Bool.not_eq_false, decide_eq_true_eq, decide_eq_false_iff_not] at hc2
     have h2 := hc2
     refine WC.skip (WC.sr (WL.mv rfl rfl ?_))
     refine WL.call (vs := [_]) Tryz.call222 ⟨OV.p rfl, trivial⟩ (yN (C := C) hC.aF (by repeat (first | exact aT.all | apply aT.up))) rfl ?_
     rintro _ _ ⟨bo, rfl, rfl⟩
     refine WL.sg rfl rfl (WL.nil (WC.sr (WL.mv rfl rfl ?_)))
     refine WL.sub (Sub.refl _) (fun w h => h.p1) ?_
     refine WL.call (vs := [_]) Tryz.call224 ⟨OV.p rfl, trivial⟩ (vg (C := C) hC.left) rfl ?_
     rintro _ _ ⟨rfl, rfl⟩
     refine WL.sg rfl rfl (WL.nil (WC.seq (WC.block (WC.sr (WL.mv rfl rfl (WL.sg rfl rfl (WL.nil ?_)))))))
     refine WC.cond rfl (fun hc3 => ?_) (fun hc3 => ?_)
     ·skip
      have h3 := hc3
      refine WC.region (WL.mv rfl rfl (WL.mv rfl rfl (WL.mv rfl rfl (WL.nc rfl rfl (WL.val (V.fieldAddr xW (OV.p rfl)) rfl (WL.ld Tryz.isAgg3 rfl rfl ?_))))))
      refine WL.val (V.max (OV.p rfl) (OV.p rfl)) rfl (WL.mv rfl rfl (WL.val (V.len (t := 34) Tryz.runUnderlying34 (OV.p rfl)) rfl (WL.val (V.min (OV.p rfl) (OV.p rfl)) rfl ?_)))
      refine WL.val (V.slice (h := (C.sem.kept m).toNat) dB (OV.p rfl) OO.none (OO.some (OV.p rfl) (fun _ => by show min (max C.keep 0) (m : Int) = _; rw [hk]; omega)) OO.none (by simp) (Nat.zero_le _) (by rw [hk]; omega) (Nat.le_refl _)) rfl ?_
      refine WL.wY dB (OV.p rfl) (OV.p rfl) (news := ints .u8 (xs.take (C.sem.kept m).toNat)) (by rw [Ic, ← Br]; exact Seq.take (by repeat (first | exact hs | apply Seq.up)) (by rw [hk]; omega)) (by rw [hk]; omega) (ow _ _) (aQ.up (aQ.front (by simp [ints]; rw [hk]; omega))) rfl ?_
      refine WL.nil (WC.sr (WL.mv rfl rfl (WL.nc rfl rfl (WL.val (V.fieldAddr qw (OV.p rfl)) rfl (WL.ld Tryz.isAgg161 rfl rfl ?_)))))
      refine WL.mv rfl rfl (WL.mv rfl rfl (WL.val (V.build (vs := [(0, _), (1, _)]) ⟨OV.p rfl, OV.p rfl, trivial⟩ rfl (fq _ _)) rfl (WL.mv rfl rfl ?_)))
      refine WL.nN (k := (_, _)) Tryz.underlying161 qM (OV.p rfl) (OV.p rfl) (OV.p rfl) (by repeat (first | exact jT.here | apply jT.up)) ?_
      refine WL.nil (WC.sr (WL.mv rfl rfl (WL.nc rfl rfl (WL.val (V.fieldAddr xA (OV.p rfl)) rfl (WL.ld Tryz.isAgg124 rfl rfl ?_)))))
      refine WL.mv rfl rfl ?_
      refine WL.val (V.bP bO (OV.p rfl) (OV.p rfl) (fun hc => by first | omega | (simp at hc; omega))) rfl ?_
      refine WL.val (V.load Tryz.isAgg3 (OV.p rfl) (fun _ => by repeat (first | exact Rd.here hget | apply Rd.up))) rfl ?_
      refine WL.ad rfl rfl rfl ?_
      refine WL.val (V.bP bO (OV.p rfl) (OV.p rfl) (fun hc => by first | omega | (simp at hc; omega))) rfl ?_
      refine WL.store (cs := [_]) Tryz.sizeOf3 (OV.p rfl) (OV.p rfl) rfl rfl rfl (by repeat (first | exact aQ.at_ (by rw [Nat.zero_add, Nat.mul_one, bK]; omega) | apply aQ.up)) ?_
      refine WL.nil (WC.sr (WL.mv rfl rfl (WL.mv rfl rfl (WL.call (vs := [_, _]) Tryz.call225 ⟨OV.p rfl, OV.p rfl, trivial⟩ (jl _ _) rfl ?_))))
      rintro _ H0 ⟨rfl, h0⟩
      subst H0
      refine WL.sg rfl rfl (WL.nil (WC.ret ?_))
      have hn1 : ¬ C.sem.up = false := by show ¬ C.up = false; rw [hup]; decide
      have hn2 : ¬ (C.sem.page b p = false ∨ (xs.length : Int) ≠ C.sem.raw) := by rw [hl, EG]; rintro (h | h); cases h; exact h hraw
      have LQ : ¬ p ≠ C.sem.iV b := by rw [h2]; exact fun h => h rfl
      have hbl : C.sem.blank.length = C.g.raw.toNat := List.length_replicate
      cases hcut : C.sem.cut with
      | true =>
        have e1 : C.sem.program b p xs = ({ C.sem.deed with pages := ak.sU C.sem.deed.pages (b, p) (some (xs.take (C.sem.kept xs.length).toNat ++ C.sem.blank.drop (C.sem.kept xs.length).toNat)), next := C.sem.deed.gQ b (p + 1) }, 70) := by
          unfold ak.program; rw [if_neg hn1, if_neg hn2, if_neg LQ, if_pos hcut]
        first
          | (exfalso; exact Bool.noConfusion (h3.symm.trans hcut))
          | (rw [hl] at e1
             rw [e1]
             have oH : (xs.take (C.sem.kept m).toNat ++ C.sem.blank.drop (C.sem.kept m).toNat).length = C.g.raw.toNat := by
               rw [List.length_append, List.length_take, List.length_drop, hbl, hl, hk]; omega
             refine aj.ret (H' := Cw.A bc ((C.deed.fH (b, p) (some ⟨bo, 0, none⟩, C.g.raw.toNat, xs.take (C.sem.kept m).toNat ++ C.sem.blank.drop (C.sem.kept m).toNat) (Cells bo 5 (ints .u8 (xs.take (C.sem.kept m).toNat ++ C.sem.blank.drop (C.sem.kept m).toNat)) :: C.own)).bR b (p + 1)) :: F)
               (aL.tmp rfl rfl) (fun w h => tK (C := C.deed) ?_ oH ?_ h) ⟨_, BO (C := C.deed) hC.deed oH ((hx.take _).append ((aZ.uQ (by omega)).drop _)) (by show 0 ≤ p + 1 ∧ p + 1 ≤ C.g.pg; omega), rfl, ?_, ?_⟩
             · rw [bY, ← qb, bK, List.length_take, hl, show min (C.sem.kept m).toNat m = (C.sem.kept m).toNat by rw [hk]; omega]; rfl
             · rw [Nat.zero_add, Nat.mul_one, ints_set, ← h2]; rfl
             · rw [Cw.iR, Cw.wX]; rfl
             · rfl)
      | false =>
        first
          | (exfalso; exact Bool.noConfusion (h3.symm.trans hcut))
          | (have e1 : C.sem.program b p xs = ({ C.sem.deed with pages := ak.sU C.sem.deed.pages (b, p) (some xs), next := C.sem.deed.gQ b (p + 1) }, 0) := by
               unfold ak.program; rw [if_neg hn1, if_neg hn2, if_neg LQ, if_neg (by rw [hcut]; decide), if_neg (by rw [show C.sem.weak b = false from h4]; decide)]
             rw [e1]
             have oH : xs.length = C.g.raw.toNat := by omega
             refine aj.ret (H' := Cw.A bc ((C.deed.fH (b, p) (some ⟨bo, 0, none⟩, C.g.raw.toNat, xs) (Cells bo 5 (ints .u8 xs) :: C.own)).bR b (p + 1)) :: F)
               (aL.tmp rfl rfl) (fun w h => tK (C := C.deed) ?_ oH ?_ h) ⟨_, BO (C := C.deed) hC.deed oH hx (by show 0 ≤ p + 1 ∧ p + 1 ≤ C.g.pg; omega), rfl, ?_, ?_⟩
             · rw [qb, List.drop_eq_nil_of_le (by rw [bK, List.length_replicate]; omega)]; simp [ints]
             · rw [Nat.zero_add, Nat.mul_one, ints_set, ← h2]; rfl
             · rw [Cw.iR, Cw.wX]; rfl
             · rfl)
     ·skip
      have h3 := hc3
      refine WC.sr (WL.mv rfl rfl (WL.nc rfl rfl (WL.val (V.fieldAddr GH (OV.p rfl)) rfl (WL.ld Tryz.isAgg163 rfl rfl ?_))))
      refine WL.mv rfl rfl ?_
      refine WL.val (V.aA (v' := .bool _) (V.lookup (k := _) Tryz.underlying163 Tryz.zeroValue4 OA (OV.p rfl) (OV.p rfl) (fun _ => by repeat (first | exact zW.here | apply zW.up))) (fun _ => vk _ _)) rfl ?_
      refine WL.sg rfl rfl (WL.nil ?_)
      refine WC.cond rfl (fun hc4 => ?_) (fun hc4 => ?_)
      ·skip
       have h4 := hc4
       refine WC.sr (WL.sg rfl rfl (WL.nil (WC.ret ?_)))
       have e1 : C.sem.program b p xs = (C.sem.deed, 72) := by
         unfold ak.program; rw [if_neg (by show ¬ C.up = false; rw [hup]; decide), if_neg (by rw [hl, EG]; rintro (h | h); cases h; exact h hraw), if_neg (by rw [h2]; exact fun h => h rfl), if_neg (by rw [h3]; decide), if_pos (show C.sem.weak b = true from h4)]
       rw [e1]
       exact aj.ret (H' := C.deed.A bc :: F) (aL.tmp rfl rfl) (fun w h => Sat.all (l := C.deed.parts bc) (h.sel 2 [0] rfl)) ⟨C.deed, hC.deed, rfl, rfl, rfl⟩
      ·skip
       have h4 := hc4
       refine WC.region (WL.mv rfl rfl (WL.mv rfl rfl ?_))
       refine WL.wY dB (OV.p rfl) (OV.p rfl) (by repeat (first | exact hs | apply Seq.up)) (by omega) (ow _ _) (aQ.up (aQ.front (by simp [ints]; omega))) rfl ?_
       refine WL.nil (WC.sr (WL.mv rfl rfl (WL.nc rfl rfl (WL.val (V.fieldAddr qw (OV.p rfl)) rfl (WL.ld Tryz.isAgg161 rfl rfl ?_)))))
       refine WL.mv rfl rfl (WL.mv rfl rfl (WL.val (V.build (vs := [(0, _), (1, _)]) ⟨OV.p rfl, OV.p rfl, trivial⟩ rfl (fq _ _)) rfl (WL.mv rfl rfl ?_)))
       refine WL.nN (k := (_, _)) Tryz.underlying161 qM (OV.p rfl) (OV.p rfl) (OV.p rfl) (by repeat (first | exact jT.here | apply jT.up)) ?_
       refine WL.nil (WC.sr (WL.mv rfl rfl (WL.nc rfl rfl (WL.val (V.fieldAddr xA (OV.p rfl)) rfl (WL.ld Tryz.isAgg124 rfl rfl ?_)))))
       refine WL.mv rfl rfl ?_
       refine WL.val (V.bP bO (OV.p rfl) (OV.p rfl) (fun hc => by first | omega | (simp at hc; omega))) rfl ?_
       refine WL.val (V.load Tryz.isAgg3 (OV.p rfl) (fun _ => by repeat (first | exact Rd.here hget | apply Rd.up))) rfl ?_
       refine WL.ad rfl rfl rfl ?_
       refine WL.val (V.bP bO (OV.p rfl) (OV.p rfl) (fun hc => by first | omega | (simp at hc; omega))) rfl ?_
       refine WL.store (cs := [_]) Tryz.sizeOf3 (OV.p rfl) (OV.p rfl) rfl rfl rfl (by repeat (first | exact aQ.at_ (by rw [Nat.zero_add, Nat.mul_one, bK]; omega) | apply aQ.up)) ?_
       refine WL.nil (WC.sr (WL.mv rfl rfl (WL.mv rfl rfl (WL.call (vs := [_, _]) Tryz.call225 ⟨OV.p rfl, OV.p rfl, trivial⟩ (jl _ _) rfl ?_))))
       rintro _ H0 ⟨rfl, h0⟩
       subst H0
       refine WL.sg rfl rfl (WL.nil (WC.ret ?_))
       have hn1 : ¬ C.sem.up = false := by show ¬ C.up = false; rw [hup]; decide
       have hn2 : ¬ (C.sem.page b p = false ∨ (xs.length : Int) ≠ C.sem.raw) := by rw [hl, EG]; rintro (h | h); cases h; exact h hraw
       have LQ : ¬ p ≠ C.sem.iV b := by rw [h2]; exact fun h => h rfl
       have hbl : C.sem.blank.length = C.g.raw.toNat := List.length_replicate
       cases hcut : C.sem.cut with
       | true =>
         have e1 : C.sem.program b p xs = ({ C.sem.deed with pages := ak.sU C.sem.deed.pages (b, p) (some (xs.take (C.sem.kept xs.length).toNat ++ C.sem.blank.drop (C.sem.kept xs.length).toNat)), next := C.sem.deed.gQ b (p + 1) }, 70) := by
           unfold ak.program; rw [if_neg hn1, if_neg hn2, if_neg LQ, if_pos hcut]
         first
           | (exfalso; exact Bool.noConfusion (h3.symm.trans hcut))
           | (rw [hl] at e1
              rw [e1]
              have oH : (xs.take (C.sem.kept m).toNat ++ C.sem.blank.drop (C.sem.kept m).toNat).length = C.g.raw.toNat := by
                rw [List.length_append, List.length_take, List.length_drop, hbl, hl, hk]; omega
              refine aj.ret (H' := Cw.A bc ((C.deed.fH (b, p) (some ⟨bo, 0, none⟩, C.g.raw.toNat, xs.take (C.sem.kept m).toNat ++ C.sem.blank.drop (C.sem.kept m).toNat) (Cells bo 5 (ints .u8 (xs.take (C.sem.kept m).toNat ++ C.sem.blank.drop (C.sem.kept m).toNat)) :: C.own)).bR b (p + 1)) :: F)
                (aL.tmp rfl rfl) (fun w h => tK (C := C.deed) ?_ oH ?_ h) ⟨_, BO (C := C.deed) hC.deed oH ((hx.take _).append ((aZ.uQ (by omega)).drop _)) (by show 0 ≤ p + 1 ∧ p + 1 ≤ C.g.pg; omega), rfl, ?_, ?_⟩
              · rw [bY, ← qb, bK, List.length_take, hl, show min (C.sem.kept m).toNat m = (C.sem.kept m).toNat by rw [hk]; omega]; rfl
              · rw [Nat.zero_add, Nat.mul_one, ints_set, ← h2]; rfl
              · rw [Cw.iR, Cw.wX]; rfl
              · rfl)
       | false =>
         first
           | (exfalso; exact Bool.noConfusion (h3.symm.trans hcut))
           | (have e1 : C.sem.program b p xs = ({ C.sem.deed with pages := ak.sU C.sem.deed.pages (b, p) (some xs), next := C.sem.deed.gQ b (p + 1) }, 0) := by
                unfold ak.program; rw [if_neg hn1, if_neg hn2, if_neg LQ, if_neg (by rw [hcut]; decide), if_neg (by rw [show C.sem.weak b = false from h4]; decide)]
              rw [e1]
              have oH : xs.length = C.g.raw.toNat := by omega
              refine aj.ret (H' := Cw.A bc ((C.deed.fH (b, p) (some ⟨bo, 0, none⟩, C.g.raw.toNat, xs) (Cells bo 5 (ints .u8 xs) :: C.own)).bR b (p + 1)) :: F)
                (aL.tmp rfl rfl) (fun w h => tK (C := C.deed) ?_ oH ?_ h) ⟨_, BO (C := C.deed) hC.deed oH hx (by show 0 ≤ p + 1 ∧ p + 1 ≤ C.g.pg; omega), rfl, ?_, ?_⟩
              · rw [qb, List.drop_eq_nil_of_le (by rw [bK, List.length_replicate]; omega)]; simp [ints]
              · rw [Nat.zero_add, Nat.mul_one, ints_set, ← h2]; rfl
              · rw [Cw.iR, Cw.wX]; rfl
              · rfl)
namespace Cw
def on (C : Cw) : Cw := { C with up := true }
def off (C : Cw) : Cw := { C with up := false }
def mark (C : Cw) (b : Int) : Cw := { C with marked := fun k => if k = b then true else C.marked k }
def jY (C : Cw) (n : Int) : Cw := { C with fuse := n }
variable {C : Cw} (h : C.Ok)
include h
theorem Ok.on : C.on.Ok := ⟨h.aF, h.page, h.wr, h.len, h.next, h.left⟩
theorem Ok.off : C.off.Ok := ⟨h.aF, h.page, h.wr, h.len, h.next, h.left⟩
theorem Ok.mark {b : Int} : (C.mark b).Ok := ⟨h.aF, h.page, h.wr, h.len, h.next, h.left⟩
theorem Ok.jY {n : Int} : (C.jY n).Ok := ⟨h.aF, h.page, h.wr, h.len, h.next, h.left⟩
end Cw
section
variable {bc : Nat} {C : Cw} {K : World} {F : List au}
theorem JH : Does Tryz.prog 32 #[ptr bc 0] K (C.A bc :: F) (fun v H' => H' = C.off.A bc :: F) := by
  refine Does.mq ?_
  dsimp only [Cw.parts, List.cons_append, List.nil_append]
  refine Does.enter Tryz.func32 rfl Tryz.ntmps32 rfl ?_
  simp only [aJ, Nat.reduceAdd]
  refine WC.sr (WL.mv rfl rfl (WL.val (V.Qg Tryz.underlying27 (OV.p rfl) (OV.p rfl)) rfl (WL.nil ?_)))
  refine WC.bU rfl (by first | rfl | (simp; done) | (simp; omega)) ?_
  refine WC.region (WL.mv rfl rfl (WL.nc rfl rfl (WL.val (V.fieldAddr CV (OV.p rfl)) rfl ?_)))
  refine WL.store (cs := [_]) Tryz.sizeOf4 (OV.p rfl) (OV.p rfl) rfl rfl rfl (by repeat (first | exact aQ.here rfl rfl | apply aQ.up)) ?_
  refine WL.nil ?_
  exact aj.ret (H' := C.off.A bc :: F) (aL.none rfl) (fun w h => Sat.all (l := C.off.parts bc) h) rfl
theorem Gz : aG Tryz.prog 185 #[ptr bc 0] K (C.A bc :: F) (.bool C.up) := by
  refine Does.mq ?_
  dsimp only [Cw.parts, List.cons_append, List.nil_append]
  refine Does.enter Tryz.func185 rfl Tryz.ntmps185 rfl ?_
  simp only [aJ, Nat.reduceAdd]
  refine WC.sr (WL.sg rfl rfl (WL.nil (WC.sr (WL.mv rfl rfl ?_))))
  refine WL.call (vs := [_]) Tryz.call93 ⟨OV.p rfl, trivial⟩ (fM (C := C) (by repeat (first | exact aT.all | apply aT.up))) rfl ?_
  rintro _ H0 ⟨rfl, h0⟩
  subst H0
  refine WL.val (V.eql (OV.p rfl) (OV.p rfl)) rfl (WL.sg rfl rfl (WL.nil (WC.ret ?_)))
  refine aj.ret (H' := C.A bc :: F) (aL.tmp rfl rfl) (fun w h => Sat.all (l := C.parts bc) h) ⟨?_, rfl⟩
  show Value.bool (decide ((if C.up then (0 : Int) else 70) = 0)) = _
  cases C.up <;> rfl
theorem Ir : aG Tryz.prog 27 #[ptr bc 0] K (C.A bc :: F) (.int .i64 C.sem.fused) := by
  refine Does.mq ?_
  dsimp only [Cw.parts, List.cons_append, List.nil_append]
  refine Does.enter Tryz.func27 rfl Tryz.ntmps27 rfl ?_
  simp only [aJ, Nat.reduceAdd]
  refine WC.sr (WL.sg rfl rfl (WL.nil (WC.seq (WC.sr (WL.mv rfl rfl ?_)))))
  refine WL.call (vs := [_]) Tryz.call93 ⟨OV.p rfl, trivial⟩ (fM (C := C) (by repeat (first | exact aT.all | apply aT.up))) rfl ?_
  rintro _ H0 ⟨rfl, h0⟩
  subst H0
  refine WL.val (V.neq (OV.p rfl) (OV.p rfl)) rfl (WL.nil ?_)
  refine WC.cond rfl (fun hc0 => ?_) (fun hc0 => ?_)
  ·skip
   have h0 := hc0
   refine WC.sr (WL.sg rfl rfl (WL.nil (WC.ret ?_)))
   refine aj.ret (H' := C.A bc :: F) (aL.tmp rfl rfl) (fun w h => Sat.all (l := C.parts bc) h) ⟨?_, rfl⟩
   have h1 : C.sem.ready = if C.up then 0 else 70 := rfl
   rw [h1] at h0
   show _ = Value.int .i64 (if C.up then C.fuse else 0)
   cases hu : C.up <;> simp [hu] at h0 ⊢
  ·skip
   have h0 := hc0
   refine WC.skip (WC.sr (WL.mv rfl rfl (WL.nc rfl rfl (WL.val (V.fieldAddr Cq (OV.p rfl)) rfl (WL.ld Tryz.isAgg3 rfl rfl ?_)))))
   refine WL.sg rfl rfl (WL.nil (WC.ret ?_))
   refine aj.ret (H' := C.A bc :: F) (aL.tmp rfl rfl) (fun w h => Sat.all (l := C.parts bc) h) ⟨?_, rfl⟩
   have h1 : C.sem.ready = if C.up then 0 else 70 := rfl
   rw [h1] at h0
   show _ = Value.int .i64 (if C.up then C.fuse else 0)
   cases hu : C.up <;> simp [hu] at h0 ⊢
theorem E9 (b : Int) : aG Tryz.prog 186 #[ptr bc 0, .int .i64 b] K (C.A bc :: F) (.bool (C.sem.bad b)) := by
  refine Does.mq ?_
  dsimp only [Cw.parts, List.cons_append, List.nil_append]
  refine Does.enter Tryz.func186 rfl Tryz.ntmps186 rfl ?_
  simp only [aJ, Nat.reduceAdd]
  refine WC.sr (WL.sg rfl rfl (WL.nil (WC.sr (WL.mv rfl rfl ?_))))
  refine WL.call (vs := [_]) Tryz.call93 ⟨OV.p rfl, trivial⟩ (fM (C := C) (by repeat (first | exact aT.all | apply aT.up))) rfl ?_
  rintro _ H0 ⟨rfl, h0⟩
  subst H0
  refine WL.val (V.eql (OV.p rfl) (OV.p rfl)) rfl (WL.mv rfl rfl (WL.ah (oj := _) rfl rfl rfl GC.t (V.move (OV.p rfl)) rfl (WL.ah (oj := _) rfl rfl rfl GC.t (V.nilCheck (OV.g rfl id)) rfl (WL.ah (oj := _) rfl rfl rfl GC.t (V.fieldAddr Cn (OV.g rfl id)) rfl ?_))))
  refine WL.ah (oj := _) rfl rfl rfl GC.t (V.load Tryz.isAgg163 (OV.g rfl id) (fun _ => by repeat (first | exact Rd.here rfl | apply Rd.up))) rfl ?_
  refine WL.ah (oj := _) rfl rfl rfl GC.t (V.move (OV.p rfl)) rfl ?_
  refine WL.ah (oj := _) rfl rfl rfl GC.t (V.aA (v' := .bool _) (V.lookup (k := _) Tryz.underlying163 Tryz.zeroValue4 OA (OV.g rfl id) (OV.g rfl id) (fun _ => by repeat (first | exact zW.here | apply zW.up))) (fun _ => vk _ _)) rfl ?_
  refine WL.val (V.aD (OV.p rfl) (OV.g rfl id)) rfl (WL.sg rfl rfl (WL.nil (WC.ret ?_)))
  refine aj.ret (H' := C.A bc :: F) (aL.tmp rfl rfl) (fun w h => Sat.all (l := C.parts bc) h) ⟨?_, rfl⟩
  show Value.bool (decide ((if C.up then (0 : Int) else 70) = 0) && C.marked b) = Value.bool (C.up && C.marked b)
  cases C.up <;> rfl
theorem zY : aG Tryz.prog 98 #[ptr bc 0] K (C.A bc :: F) C.g.v := by
  refine Does.mq ?_
  dsimp only [Cw.parts, List.cons_append, List.nil_append]
  refine Does.enter Tryz.func98 rfl Tryz.ntmps98 rfl ?_
  simp only [aJ, Nat.reduceAdd]
  refine WC.sr ?_
  refine WL.alloc (cs := [(.int .i64 0), (.int .i64 0), (.int .i64 0), (.int .i64 0), (.int .i64 0)]) Tryz.zeroValue23 rfl rfl (fun b2 => ?_)
  refine WL.nil (WC.seq (WC.sr (WL.mv rfl rfl (WL.val (V.ku Tryz.underlying27 (OV.p rfl) (OV.p rfl)) rfl (WL.nil ?_)))))
  refine WC.aM rfl (by first | rfl | (simp; done) | (simp; omega)) ?_
  refine WC.skip (WC.sr (WL.mv rfl rfl (WL.nc rfl rfl (WL.val (V.fieldAddr wW (OV.p rfl)) rfl ?_))))
  refine WL.val (V.aU (vs := [_, _, _, _, _]) ⟨Tryz.isAgg23, Tryz.sizeOf23⟩ (OV.p rfl) rfl (fun _ => by repeat (first | exact aT.gets ⟨rfl, rfl, rfl, rfl, rfl, trivial⟩ | apply aT.up))) rfl ?_
  refine WL.store (cs := [_, _, _, _, _]) Tryz.sizeOf23 (OV.p rfl) (OV.p rfl) rfl rfl rfl (by repeat (first | exact aQ.here (cs' := [_, _, _, _, _]) rfl rfl | apply aQ.up)) ?_
  refine WL.nil (WC.ret ?_)
  exact aj.ret (H' := C.A bc :: F) (aL.one rfl (R1.gF (vs := [_, _, _, _, _]) rfl ⟨Tryz.isAgg23, Tryz.sizeOf23⟩ rfl (by repeat (first | exact aT.gets ⟨rfl, rfl, rfl, rfl, rfl, trivial⟩ | apply aT.up)))) (fun w h => Sat.all (l := C.parts bc) h.tail) ⟨rfl, rfl⟩
end
theorem nG (f : Int × Int → Option Value) (b : Int) (i : Nat) : upd (ak.aO f b i) (b, (i : Int)) none = ak.aO f b ((i + 1 : Nat) : Int) := by
  funext q
  obtain ⟨x, y⟩ := q
  unfold upd ak.aO
  simp only [Prod.mk.injEq]
  by_cases h1 : x = b ∧ y = i
  · rw [if_pos h1, if_pos (by omega)]
  · rw [if_neg h1]
    by_cases h2 : x = b ∧ 0 ≤ y ∧ y < (i : Int)
    · rw [if_pos h2, if_pos (by omega)]
    · rw [if_neg h2, if_neg (by omega)]
theorem kT {α : Type} (f : Int × Int → Option α) (b : Int) : ak.aO f b 0 = f := by
  funext q
  unfold ak.aO
  rw [if_neg (by omega)]
namespace Cw
def aO (C : Cw) (b n : Int) : Cw := { C with pages := ak.aO C.pages b n, wrong := ak.aO C.wrong b n }
theorem rV {α β : Type} (f : Int × Int → Option α) (g : α → β) (b n : Int) : (fun p => (ak.aO f b n p).map g) = ak.aO (fun p => (f p).map g) b n := by
  funext q
  unfold ak.aO
  split <;> rfl
theorem lC (C : Cw) (b n : Int) : (C.aO b n).gB = ak.aO C.gB b n := rV C.pages jo b n
theorem kZ (C : Cw) (b n : Int) : (C.aO b n).jf = ak.aO C.jf b n := rV C.wrong jo b n
theorem tV (C : Cw) (b n : Int) : (C.aO b n).sem = { C.sem with pages := ak.aO C.sem.pages b n, wrong := ak.aO C.sem.wrong b n } := by
  unfold sem aO
  simp only [rV]
theorem Ok.aO {C : Cw} (h : C.Ok) (b n : Int) : (C.aO b n).Ok := by
  have hd : ∀ {α : Type} (f : Int × Int → Option α) p e, ak.aO f b n p = some e → f p = some e := fun f p e he => by
    unfold ak.aO at he
    split at he
    · cases he
    · exact he
  exact ⟨h.aF, fun p e he => h.page p e (hd _ p e he), fun p e he => h.wr p e (hd _ p e he), h.len, h.next, h.left⟩
end Cw
theorem Fq {bc : Nat} {C : Cw} (hC : C.Ok) (b : Int) {K : World} {F : List au} :
    Does Tryz.prog 172 #[ptr bc 0, .int .i64 b] K (C.A bc :: F)
      (fun v H' => ∃ C' : Cw, C'.Ok ∧ H' = C'.A bc :: F ∧ C'.sem = (C.sem.erase b).1 ∧ v = .int .i64 (C.sem.erase b).2) := by
  have hlen := hC.len
  have hlen' : (C.deed.next.length : Int) = C.g.bl := hC.len
  have hm := hC.aF
  unfold Geo.aF at hm
  refine Does.mq ?_
  dsimp only [Cw.parts, List.cons_append, List.nil_append]
  refine Does.enter Tryz.func172 rfl Tryz.ntmps172 rfl ?_
  simp only [aJ, Nat.reduceAdd]
  refine WC.sr (WL.sg rfl rfl (WL.nil (WC.seq (WC.sr (WL.mv rfl rfl ?_)))))
  refine WL.call (vs := [_]) Tryz.call93 ⟨OV.p rfl, trivial⟩ (fM (C := C) (by repeat (first | exact aT.all | apply aT.up))) rfl ?_
  rintro _ H0 ⟨rfl, h0⟩
  subst H0
  refine WL.sg rfl rfl (WL.nil (WC.sr (WL.mv rfl rfl (WL.val (V.neq (OV.p rfl) (OV.p rfl)) rfl (WL.nil ?_)))))
  refine WC.cond rfl (fun hc0 => ?_) (fun hc0 => ?_)
  ·skip
   have hup : C.up = false := by cases h : C.up <;> simp [ak.ready, Cw.sem, h] at hc0 ⊢
   refine WC.sr (WL.mv rfl rfl (WL.sg rfl rfl (WL.nil (WC.ret ?_))))
   have e1 : C.sem.erase b = (C.sem, 70) := by unfold ak.erase; rw [if_pos (show C.sem.up = false from hup)]
   rw [e1]
   exact aj.ret (H' := C.A bc :: F) (aL.tmp rfl rfl) (fun w h => Sat.all (l := C.parts bc) h) ⟨C, hC, rfl, rfl, by unfold ak.ready; rw [if_neg (by show ¬ C.up = true; rw [hup]; decide)]⟩
  ·skip
   have hup : C.up = true := by cases h : C.up <;> simp [ak.ready, Cw.sem, h] at hc0 ⊢
   refine WC.skip (WC.seq (WC.sr (WL.mv rfl rfl (WL.mv rfl rfl ?_))))
   refine WL.call (vs := [_, _]) Tryz.call97 ⟨OV.p rfl, OV.p rfl, trivial⟩ (mO (C := C) b (by repeat (first | exact aT.all | apply aT.up))) rfl ?_
   rintro _ H0 ⟨rfl, h0⟩
   subst H0
   refine WL.val (V.not (OV.p rfl)) rfl (WL.nil ?_)
   refine WC.cond rfl (fun hc1 => ?_) (fun hc1 => ?_)
   ·simp only [decide_eq_true_eq, decide_eq_false_iff_not, Bool.and_eq_true, Bool.or_eq_true, Bool.and_eq_false_iff, Bool.or_eq_false_iff, Bool.not_eq_true', Bool.not_eq_false', Bool.not_eq_true, Bool.not_eq_false, decide_eq_true_eq, decide_eq_false_iff_not] at hc1
    refine WC.sr (WL.sg rfl rfl (WL.nil (WC.ret ?_)))
    have e1 : C.sem.erase b = (C.sem, 1) := by unfold ak.erase; rw [if_neg (by show ¬ C.up = false; rw [hup]; decide), if_pos hc1]
    rw [e1]
    exact aj.ret (H' := C.A bc :: F) (aL.tmp rfl rfl) (fun w h => Sat.all (l := C.parts bc) h) ⟨C, hC, rfl, rfl, rfl⟩
   ·simp only [decide_eq_true_eq, decide_eq_false_iff_not, Bool.and_eq_true, Bool.or_eq_true, Bool.and_eq_false_iff, Bool.or_eq_false_iff, Bool.not_eq_true', Bool.not_eq_false', Bool.not_eq_true, Bool.not_eq_false, decide_eq_true_eq, decide_eq_false_iff_not] at hc1
    have hbl : 0 ≤ b ∧ b < C.g.bl := by
      have h := hc1
      simp only [ak.block, Bool.and_eq_true, decide_eq_true_eq] at h
      exact h
    refine WC.skip (WC.sr (WL.mv rfl rfl (WL.nc rfl rfl (WL.val (V.fieldAddr wW (OV.p rfl)) rfl (WL.val (V.fieldAddr pJ (OV.p rfl)) rfl (WL.ld Tryz.isAgg3 rfl rfl ?_))))))
    refine WL.sg rfl rfl (WL.nil (WC.sr (WL.mv rfl rfl (WL.call (vs := [_]) Tryz.call224 ⟨OV.p rfl, trivial⟩ (vg (C := C) hC.left) rfl ?_))))
    rintro _ _ ⟨rfl, rfl⟩
    refine WL.sg rfl rfl (WL.nil (WC.seq (WC.block (WC.sr (WL.mv rfl rfl (WL.sg rfl rfl (WL.nil ?_)))))))
    refine WC.cond rfl (fun hc2 => ?_) (fun hc2 => ?_)
    ·skip
     have h2 := hc2
     refine WC.region (WL.mv rfl rfl (WL.nc rfl rfl (WL.val (V.fieldAddr xW (OV.p rfl)) rfl (WL.ld Tryz.isAgg3 rfl rfl ?_))))
     refine WL.val (V.max (OV.p rfl) (OV.p rfl)) rfl (WL.mv rfl rfl (WL.val (V.min (OV.p rfl) (OV.p rfl)) rfl (WL.sg rfl rfl (WL.nil (WC.seq (WC.seq ?_))))))
     first
     | refine WC.BD (α := Int × List Int) (fun x => 0 ≤ x.1 ∧ x.1 ≤ C.g.pg ∧ ((C.sem.cut = true ∧ x.1 = C.sem.kept C.g.pg ∧ x.2 = C.next) ∨ (C.sem.cut = false ∧ C.sem.weak b = false ∧ x.1 = C.g.pg ∧ x.2 = C.next.set b.toNat 0))) (fun x => [(0, ptr bc 0), (1, .int .i64 b), (6, .int .i64 x.1), (7, .bool C.sem.cut)]) (fun x => Cells bc 165 C.deed.cells :: cu C.bp dW C.gB :: cu C.bw dW C.jf :: Cells C.bn 3 (ints .i64 x.2) :: cu C.bm kI (gV C.marked) :: cu C.bk kI (gV C.weak) :: bH C.own :: F) (C.sem.kept C.g.pg, C.next) ⟨by show 0 ≤ min (max C.keep 0) C.g.pg; omega, by show min (max C.keep 0) C.g.pg ≤ C.g.pg; omega, .inl ⟨h2, rfl, rfl⟩⟩ (.cons rfl (.cons rfl (.cons rfl (.cons rfl (.nil _))))) (fun w h => h) (fun x hx => ?_)
     | refine WC.BD (α := Int × List Int) (fun x => 0 ≤ x.1 ∧ x.1 ≤ C.g.pg ∧ ((C.sem.cut = true ∧ x.1 = C.sem.kept C.g.pg ∧ x.2 = C.next) ∨ (C.sem.cut = false ∧ C.sem.weak b = false ∧ x.1 = C.g.pg ∧ x.2 = C.next.set b.toNat 0))) (fun x => [(0, ptr bc 0), (1, .int .i64 b), (6, .int .i64 x.1), (7, .bool C.sem.cut)]) (fun x => Cells bc 165 C.deed.cells :: cu C.bp dW C.gB :: cu C.bw dW C.jf :: Cells C.bn 3 (ints .i64 x.2) :: cu C.bm kI (gV C.marked) :: cu C.bk kI (gV C.weak) :: bH C.own :: F) (C.g.pg, C.next.set b.toNat 0) ⟨by omega, Int.le_refl _, .inr ⟨h2, h3, rfl, rfl⟩⟩ (.cons rfl (.cons rfl (.cons rfl (.cons rfl (.nil _))))) (fun w h => by rw [Nat.zero_add, Nat.mul_one, ints_set] at h; exact h) (fun x hx => ?_)
     obtain ⟨n, nx⟩ := x
     obtain ⟨hn0, hn1, hx⟩ := hx
     dsimp only at hn0 hn1 hx ⊢
     refine WC.region (WL.mv rfl rfl (WL.mv rfl rfl (WL.nil (WC.block ?_))))
     refine WC.loop (σ := Nat) (fun i => [(0, ptr bc 0), (1, .int .i64 b), (7, .bool C.sem.cut), (47, .int .i64 n), (48, .int .i64 (i : Int))]) (fun i => Cells bc 165 C.deed.cells :: cu C.bp dW (ak.aO C.gB b i) :: cu C.bw dW (ak.aO C.jf b i) :: Cells C.bn 3 (ints .i64 nx) :: cu C.bm kI (gV C.marked) :: cu C.bk kI (gV C.weak) :: bH C.own :: F) (fun i => (i : Int) ≤ n) (fun i => n.toNat - i) 0 (by show ((0 : Nat) : Int) ≤ n; omega) (.cons rfl (.cons rfl (.cons rfl (.cons rfl (.cons rfl (.nil _)))))) (fun w h => by rw [show ((0 : Nat) : Int) = 0 from rfl, kT, kT]; exact h) ?_
     rintro i hi
     refine WC.sr (WL.val (V.lss (OV.p rfl) (OV.p rfl)) rfl (WL.nil (WC.seq ?_)))
     refine WC.cond rfl (fun hc4 => ?_) (fun hc4 => ?_)
     ·try simp only [decide_eq_true_eq, decide_eq_false_iff_not, Bool.and_eq_true, Bool.or_eq_true, Bool.and_eq_false_iff, Bool.or_eq_false_iff, Bool.not_eq_true', Bool.not_eq_false', Bool.not_eq_true, Bool.not_eq_false, Int.not_lt, Int.not_le] at hc4
      refine WC.skip (WC.seq (WC.block (WC.sr (WL.mv rfl rfl (WL.sg rfl rfl (WL.nil (WC.sr (WL.mv rfl rfl (WL.nc rfl rfl (WL.val (V.fieldAddr qw (OV.p rfl)) rfl (WL.ld Tryz.isAgg161 rfl rfl ?_)))))))))))
      refine WL.mv rfl rfl (WL.mv rfl rfl (WL.val (V.build (vs := [(0, _), (1, _)]) ⟨OV.p rfl, OV.p rfl, trivial⟩ rfl (fq _ _)) rfl ?_))
      refine WL.uq (k := (_, _)) Tryz.underlying161 qM (OV.p rfl) (OV.p rfl) (by repeat (first | exact jT.here | apply jT.up)) ?_
      refine WL.nil (WC.region (WL.mv rfl rfl (WL.nc rfl rfl (WL.val (V.fieldAddr w9 (OV.p rfl)) rfl (WL.ld Tryz.isAgg162 rfl rfl ?_)))))
      refine WL.mv rfl rfl (WL.mv rfl rfl (WL.val (V.build (vs := [(0, _), (1, _)]) ⟨OV.p rfl, OV.p rfl, trivial⟩ rfl (fq _ _)) rfl ?_))
      refine WL.uq (k := (_, _)) Tryz.underlying162 qM (OV.p rfl) (OV.p rfl) (by repeat (first | exact jT.here | apply jT.up)) ?_
      refine WL.nil (WC.region (WL.ad rfl rfl rfl ?_))
      refine WL.mv rfl rfl (WL.nil ?_)
      refine ⟨rfl, ?_⟩
      refine ⟨i + 1, (by show ((i + 1 : Nat) : Int) ≤ n; omega), (by show n.toNat - (i + 1) < n.toNat - i; omega), .cons rfl (.cons rfl (.cons rfl (.cons rfl (.cons (look_eq rfl (by simp)) (.nil _))))), fun w h => ?_⟩
      rw [nG, nG] at h
      exact h
     ·try simp only [decide_eq_true_eq, decide_eq_false_iff_not, Bool.and_eq_true, Bool.or_eq_true, Bool.and_eq_false_iff, Bool.or_eq_false_iff, Bool.not_eq_true', Bool.not_eq_false', Bool.not_eq_true, Bool.not_eq_false, Int.not_lt, Int.not_le] at hc4
      refine WC.exit (WC.sr (WL.mv rfl rfl (WL.mv rfl rfl (WL.call (vs := [_, _]) Tryz.call225 ⟨OV.p rfl, OV.p rfl, trivial⟩ (jl _ _) rfl ?_))))
      rintro _ H0 ⟨rfl, h0⟩
      subst H0
      refine WL.sg rfl rfl (WL.nil (WC.ret ?_))
      obtain rfl : n = (i : Int) := by omega
      have hu : ¬ C.sem.up = false := by show ¬ C.up = false; rw [hup]; decide
      have hb' : ¬ C.sem.block b = false := by rw [hc1]; decide
      rcases hx with ⟨hcut, hn, rfl⟩ | ⟨hcut, hw, hn, rfl⟩
      · have e1 : C.sem.erase b = ({ C.sem.deed with pages := ak.aO C.sem.deed.pages b i, wrong := ak.aO C.sem.deed.wrong b i }, 70) := by
          unfold ak.erase; rw [if_neg hu, if_neg hb', if_pos hcut, hn]; rfl
        rw [e1, hcut]
        refine aj.ret (H' := (C.deed.aO b i).A bc :: F) (aL.tmp rfl rfl) (fun w h => Sat.all (l := (C.deed.aO b i).parts bc) ?_) ⟨_, hC.deed.aO b i, rfl, Cw.tV _ _ _, rfl⟩
        unfold Cw.parts
        rw [Cw.lC, Cw.kZ]
        exact h
      · have e1 : C.sem.erase b = ({ C.sem.deed with pages := ak.aO C.sem.deed.pages b i, wrong := ak.aO C.sem.deed.wrong b i, next := C.sem.deed.gQ b 0 }, 0) := by
          unfold ak.erase; rw [if_neg hu, if_neg hb', if_neg (by rw [hcut]; decide), if_neg (by rw [hw]; decide), hn]; rfl
        rw [e1, hcut]
        refine aj.ret (H' := ((C.deed.aO b i).bR b 0).A bc :: F) (aL.tmp rfl rfl) (fun w h => Sat.all (l := ((C.deed.aO b i).bR b 0).parts bc) ?_) ⟨_, (hC.deed.aO b i).bR (by show (0 : Int) ≤ 0 ∧ 0 ≤ C.g.pg; omega), rfl, ?_, rfl⟩
        · unfold Cw.parts
          rw [show ((C.deed.aO b i).bR b 0).gB = _ from Cw.lC C.deed b i, show ((C.deed.aO b i).bR b 0).jf = _ from Cw.kZ C.deed b i]
          have e2 : ((C.deed.aO b i).bR b 0).cells = C.deed.cells := by
            unfold Cw.cells Cw.bR Cw.aO
            simp
          rw [e2]
          exact h
        · rw [Cw.iR, Cw.tV]; rfl
    ·skip
     have h2 := hc2
     refine WC.sr (WL.mv rfl rfl (WL.nc rfl rfl (WL.val (V.fieldAddr GH (OV.p rfl)) rfl (WL.ld Tryz.isAgg163 rfl rfl ?_))))
     refine WL.mv rfl rfl ?_
     refine WL.val (V.aA (v' := .bool _) (V.lookup (k := _) Tryz.underlying163 Tryz.zeroValue4 OA (OV.p rfl) (OV.p rfl) (fun _ => by repeat (first | exact zW.here | apply zW.up))) (fun _ => vk _ _)) rfl ?_
     refine WL.sg rfl rfl (WL.nil ?_)
     refine WC.cond rfl (fun hc3 => ?_) (fun hc3 => ?_)
     ·skip
      have h3 := hc3
      refine WC.sr (WL.sg rfl rfl (WL.nil (WC.ret ?_)))
      have e1 : C.sem.erase b = (C.sem.deed, 72) := by unfold ak.erase; rw [if_neg (by show ¬ C.up = false; rw [hup]; decide), if_neg (by rw [hc1]; decide), if_neg (by rw [h2]; decide), if_pos (show C.sem.weak b = true from h3)]
      rw [e1]
      exact aj.ret (H' := C.deed.A bc :: F) (aL.tmp rfl rfl) (fun w h => Sat.all (l := C.deed.parts bc) h) ⟨C.deed, hC.deed, rfl, rfl, rfl⟩
     ·skip
      have h3 := hc3
      refine WC.region (WL.mv rfl rfl (WL.nc rfl rfl (WL.val (V.fieldAddr xA (OV.p rfl)) rfl (WL.ld Tryz.isAgg124 rfl rfl ?_))))
      refine WL.mv rfl rfl ?_
      refine WL.val (V.bP bO (OV.p rfl) (OV.p rfl) (fun hc => by first | omega | (simp at hc; omega))) rfl ?_
      refine WL.store (cs := [_]) Tryz.sizeOf3 (OV.p rfl) (OV.p rfl) rfl rfl rfl (by repeat (first | exact aQ.at_ (by rw [Nat.zero_add, Nat.mul_one, bK]; omega) | apply aQ.up)) ?_
      refine WL.nil (WC.seq (WC.seq ?_))
      first
      | refine WC.BD (α := Int × List Int) (fun x => 0 ≤ x.1 ∧ x.1 ≤ C.g.pg ∧ ((C.sem.cut = true ∧ x.1 = C.sem.kept C.g.pg ∧ x.2 = C.next) ∨ (C.sem.cut = false ∧ C.sem.weak b = false ∧ x.1 = C.g.pg ∧ x.2 = C.next.set b.toNat 0))) (fun x => [(0, ptr bc 0), (1, .int .i64 b), (6, .int .i64 x.1), (7, .bool C.sem.cut)]) (fun x => Cells bc 165 C.deed.cells :: cu C.bp dW C.gB :: cu C.bw dW C.jf :: Cells C.bn 3 (ints .i64 x.2) :: cu C.bm kI (gV C.marked) :: cu C.bk kI (gV C.weak) :: bH C.own :: F) (C.sem.kept C.g.pg, C.next) ⟨by show 0 ≤ min (max C.keep 0) C.g.pg; omega, by show min (max C.keep 0) C.g.pg ≤ C.g.pg; omega, .inl ⟨h2, rfl, rfl⟩⟩ (.cons rfl (.cons rfl (.cons rfl (.cons rfl (.nil _))))) (fun w h => h) (fun x hx => ?_)
      | refine WC.BD (α := Int × List Int) (fun x => 0 ≤ x.1 ∧ x.1 ≤ C.g.pg ∧ ((C.sem.cut = true ∧ x.1 = C.sem.kept C.g.pg ∧ x.2 = C.next) ∨ (C.sem.cut = false ∧ C.sem.weak b = false ∧ x.1 = C.g.pg ∧ x.2 = C.next.set b.toNat 0))) (fun x => [(0, ptr bc 0), (1, .int .i64 b), (6, .int .i64 x.1), (7, .bool C.sem.cut)]) (fun x => Cells bc 165 C.deed.cells :: cu C.bp dW C.gB :: cu C.bw dW C.jf :: Cells C.bn 3 (ints .i64 x.2) :: cu C.bm kI (gV C.marked) :: cu C.bk kI (gV C.weak) :: bH C.own :: F) (C.g.pg, C.next.set b.toNat 0) ⟨by omega, Int.le_refl _, .inr ⟨h2, h3, rfl, rfl⟩⟩ (.cons rfl (.cons rfl (.cons rfl (.cons rfl (.nil _))))) (fun w h => by rw [Nat.zero_add, Nat.mul_one, ints_set] at h; exact h) (fun x hx => ?_)
      obtain ⟨n, nx⟩ := x
      obtain ⟨hn0, hn1, hx⟩ := hx
      dsimp only at hn0 hn1 hx ⊢
      refine WC.region (WL.mv rfl rfl (WL.mv rfl rfl (WL.nil (WC.block ?_))))
      refine WC.loop (σ := Nat) (fun i => [(0, ptr bc 0), (1, .int .i64 b), (7, .bool C.sem.cut), (47, .int .i64 n), (48, .int .i64 (i : Int))]) (fun i => Cells bc 165 C.deed.cells :: cu C.bp dW (ak.aO C.gB b i) :: cu C.bw dW (ak.aO C.jf b i) :: Cells C.bn 3 (ints .i64 nx) :: cu C.bm kI (gV C.marked) :: cu C.bk kI (gV C.weak) :: bH C.own :: F) (fun i => (i : Int) ≤ n) (fun i => n.toNat - i) 0 (by show ((0 : Nat) : Int) ≤ n; omega) (.cons rfl (.cons rfl (.cons rfl (.cons rfl (.cons rfl (.nil _)))))) (fun w h => by rw [show ((0 : Nat) : Int) = 0 from rfl, kT, kT]; exact h) ?_
      rintro i hi
      refine WC.sr (WL.val (V.lss (OV.p rfl) (OV.p rfl)) rfl (WL.nil (WC.seq ?_)))
      refine WC.cond rfl (fun hc4 => ?_) (fun hc4 => ?_)
      ·try simp only [decide_eq_true_eq, decide_eq_false_iff_not, Bool.and_eq_true, Bool.or_eq_true, Bool.and_eq_false_iff, Bool.or_eq_false_iff, Bool.not_eq_true', Bool.not_eq_false', Bool.not_eq_true, Bool.not_eq_false, Int.not_lt, Int.not_le] at hc4
       refine WC.skip (WC.seq (WC.block (WC.sr (WL.mv rfl rfl (WL.sg rfl rfl (WL.nil (WC.sr (WL.mv rfl rfl (WL.nc rfl rfl (WL.val (V.fieldAddr qw (OV.p rfl)) rfl (WL.ld Tryz.isAgg161 rfl rfl ?_)))))))))))
       refine WL.mv rfl rfl (WL.mv rfl rfl (WL.val (V.build (vs := [(0, _), (1, _)]) ⟨OV.p rfl, OV.p rfl, trivial⟩ rfl (fq _ _)) rfl ?_))
       refine WL.uq (k := (_, _)) Tryz.underlying161 qM (OV.p rfl) (OV.p rfl) (by repeat (first | exact jT.here | apply jT.up)) ?_
       refine WL.nil (WC.region (WL.mv rfl rfl (WL.nc rfl rfl (WL.val (V.fieldAddr w9 (OV.p rfl)) rfl (WL.ld Tryz.isAgg162 rfl rfl ?_)))))
       refine WL.mv rfl rfl (WL.mv rfl rfl (WL.val (V.build (vs := [(0, _), (1, _)]) ⟨OV.p rfl, OV.p rfl, trivial⟩ rfl (fq _ _)) rfl ?_))
       refine WL.uq (k := (_, _)) Tryz.underlying162 qM (OV.p rfl) (OV.p rfl) (by repeat (first | exact jT.here | apply jT.up)) ?_
       refine WL.nil (WC.region (WL.ad rfl rfl rfl ?_))
       refine WL.mv rfl rfl (WL.nil ?_)
       refine ⟨rfl, ?_⟩
       refine ⟨i + 1, (by show ((i + 1 : Nat) : Int) ≤ n; omega), (by show n.toNat - (i + 1) < n.toNat - i; omega), .cons rfl (.cons rfl (.cons rfl (.cons rfl (.cons (look_eq rfl (by simp)) (.nil _))))), fun w h => ?_⟩
       rw [nG, nG] at h
       exact h
      ·try simp only [decide_eq_true_eq, decide_eq_false_iff_not, Bool.and_eq_true, Bool.or_eq_true, Bool.and_eq_false_iff, Bool.or_eq_false_iff, Bool.not_eq_true', Bool.not_eq_false', Bool.not_eq_true, Bool.not_eq_false, Int.not_lt, Int.not_le] at hc4
       refine WC.exit (WC.sr (WL.mv rfl rfl (WL.mv rfl rfl (WL.call (vs := [_, _]) Tryz.call225 ⟨OV.p rfl, OV.p rfl, trivial⟩ (jl _ _) rfl ?_))))
       rintro _ H0 ⟨rfl, h0⟩
       subst H0
       refine WL.sg rfl rfl (WL.nil (WC.ret ?_))
       obtain rfl : n = (i : Int) := by omega
       have hu : ¬ C.sem.up = false := by show ¬ C.up = false; rw [hup]; decide
       have hb' : ¬ C.sem.block b = false := by rw [hc1]; decide
       rcases hx with ⟨hcut, hn, rfl⟩ | ⟨hcut, hw, hn, rfl⟩
       · have e1 : C.sem.erase b = ({ C.sem.deed with pages := ak.aO C.sem.deed.pages b i, wrong := ak.aO C.sem.deed.wrong b i }, 70) := by
           unfold ak.erase; rw [if_neg hu, if_neg hb', if_pos hcut, hn]; rfl
         rw [e1, hcut]
         refine aj.ret (H' := (C.deed.aO b i).A bc :: F) (aL.tmp rfl rfl) (fun w h => Sat.all (l := (C.deed.aO b i).parts bc) ?_) ⟨_, hC.deed.aO b i, rfl, Cw.tV _ _ _, rfl⟩
         unfold Cw.parts
         rw [Cw.lC, Cw.kZ]
         exact h
       · have e1 : C.sem.erase b = ({ C.sem.deed with pages := ak.aO C.sem.deed.pages b i, wrong := ak.aO C.sem.deed.wrong b i, next := C.sem.deed.gQ b 0 }, 0) := by
           unfold ak.erase; rw [if_neg hu, if_neg hb', if_neg (by rw [hcut]; decide), if_neg (by rw [hw]; decide), hn]; rfl
         rw [e1, hcut]
         refine aj.ret (H' := ((C.deed.aO b i).bR b 0).A bc :: F) (aL.tmp rfl rfl) (fun w h => Sat.all (l := ((C.deed.aO b i).bR b 0).parts bc) ?_) ⟨_, (hC.deed.aO b i).bR (by show (0 : Int) ≤ 0 ∧ 0 ≤ C.g.pg; omega), rfl, ?_, rfl⟩
         · unfold Cw.parts
           rw [show ((C.deed.aO b i).bR b 0).gB = _ from Cw.lC C.deed b i, show ((C.deed.aO b i).bR b 0).jf = _ from Cw.kZ C.deed b i]
           have e2 : ((C.deed.aO b i).bR b 0).cells = C.deed.cells := by
             unfold Cw.cells Cw.bR Cw.aO
             simp
           rw [e2]
           exact h
         · rw [Cw.iR, Cw.tV]; rfl
end Go.Proofs.YtcedojacbhnbiaaGreat
