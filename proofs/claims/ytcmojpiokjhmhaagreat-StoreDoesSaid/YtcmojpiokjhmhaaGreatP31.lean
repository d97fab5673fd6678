import Derived.Test.YtcmojpiokjhmhaaGreatP30
namespace Go.Proofs.YtcmojpiokjhmhaaGreat
open Go.Sl Go.RowKit
set_option linter.unusedVariables false
set_option linter.unusedSimpArgs false
set_option maxRecDepth 20000
theorem BU {au L B : Nat} {S : ah} {st : Int → tJ} {T : St} {m : Lm} (hI : ah.SI au L B S st T m) {aC : Int} (h : ¬ (0 ≤ aC ∧ aC < (au : Int))) : T.ready aC = 1 := by
  unfold St.ready
  rw [hI.dead, if_neg Bool.false_ne_true, hI.len, if_pos (by omega)]
theorem Gf {S : ah} {T : St} {aC : Int} {d : List Nat} (h : T.ready aC = 1) : aY S T aC d = (S, T, 1) := by
  unfold aY
  rw [h, if_pos (by decide)]
theorem D7 {S : ah} {T : St} {aC : Int} {d : List Nat} (h : T.ready aC = 0) (hd : S.g.cap < d.length) : aY S T aC d = (S, T, 2) := by
  unfold aY
  rw [h, if_neg (by decide), if_pos hd]
theorem JL {S : ah} {T : St} {aC : Int} (h : T.ready aC = 1) : bV S T aC = (S, T, 1) := by
  unfold bV
  rw [h, if_pos (by decide)]
theorem Ng {S : ah} {n : Nat} {ill : List Bool} (hl : ill.length = n) (h : ∀ b : Nat, b < n → S.marked (b : Int) = true ∨ S.weak (b : Int) = true → ill.getD b false = true) {b0 : Nat} (hb : b0 < n) : ∀ b : Nat, b < n → S.marked (b : Int) = true ∨ (S.weaken (b0 : Int)).weak (b : Int) = true → (ill.set b0 true).getD b false = true := fun b hb2 hm => by
  rw [jg]
  by_cases hbb : b = b0
  · rw [if_pos ⟨hbb, by omega⟩]
  · rw [if_neg (fun hh => hbb hh.1)]
    refine h b hb2 (hm.imp id fun hw => ?_)
    unfold ah.weaken at hw
    split at hw
    · have : (if (b : Int) = (b0 : Int) then true else S.weak (b : Int)) = true := hw
      rwa [if_neg (by omega)] at this
    · exact hw
theorem MS {S : ah} {n : Nat} {ill : List Bool} (h : ∀ b : Nat, b < n → S.marked (b : Int) = true ∨ S.weak (b : Int) = true → ill.getD b false = true) {b0 : Int} (hb : ¬ (0 ≤ b0 ∧ b0 < (n : Int))) : ∀ b : Nat, b < n → S.marked (b : Int) = true ∨ (S.weaken b0).weak (b : Int) = true → ill.getD b false = true := fun b hb2 hm => by
  refine h b hb2 (hm.imp id fun hw => ?_)
  unfold ah.weaken at hw
  split at hw
  · have : (if (b : Int) = b0 then true else S.weak (b : Int)) = true := hw
    rwa [if_neg (by omega)] at this
  · exact hw
set_option maxHeartbeats 2000000 in
theorem xE (g : Geo) (au : Int) {Ab A : Option Addr} {qb cb m cap : Nat} {bad : List Int} {sc : List oH} {K : World} {F : List aj} (hb : Seq K F Ab qb 1 (ints .i64 bad)) (hs : jY K F A m sc) :
    aJ Tryz.prog 3 #[g.v, .slice Ab qb cb, .int .i64 au, .slice A m cap] K F (.bool true) := by
  have hsl := hs.len
  by_cases hv : g.may = true ∧ ∀ x ∈ bad, 0 ≤ x ∧ x < g.bl
  rotate_left
  · skip
    refine Does.enter Tryz.func3 rfl Tryz.ntmps3 rfl ?_
    simp only [aH, Nat.reduceAdd]
    refine WC.sr ?_
    refine WL.box (cs := [_, _, _, _, _]) (OV.p rfl) rfl rfl (fun b4 => ?_)
    refine WL.sg rfl rfl (WL.nil (WC.seq (WC.sr ?_)))
    refine WL.val (V.bB (vs := [_, _, _, _, _]) ⟨Tryz.isAgg23, Tryz.sizeOf23⟩ (OV.p rfl) rfl (fun _ => by repeat (first | exact bA.gets ⟨rfl, rfl, rfl, rfl, rfl, trivial⟩ | apply bA.up))) rfl ?_
    refine WL.call (vs := [_]) Tryz.call8 ⟨OV.p rfl, trivial⟩ (wW g _ _) rfl ?_
    rintro _ H0 ⟨rfl, h0⟩
    subst H0
    refine WL.val (V.not (OV.p rfl)) rfl (WL.mv rfl rfl (WL.av (oj := _) rfl rfl rfl GC.f (V.move (OV.p rfl)) rfl (WL.av (oj := _) rfl rfl rfl GC.f (V.len (t := 24) Tryz.runUnderlying24 (OV.g rfl id)) rfl (WL.av (oj := _) rfl rfl rfl GC.f (V.gtr (OV.g rfl id) (OV.p rfl)) rfl (WL.val (V.bK (OV.p rfl) (OV.g rfl id)) rfl (WL.mv rfl rfl (WL.av (oj := _) rfl rfl rfl GC.f (V.move (OV.p rfl)) rfl (WL.av (oj := _) rfl rfl rfl GC.f (V.lss (OV.g rfl id) (OV.p rfl)) rfl (WL.val (V.bK (OV.p rfl) (OV.g rfl id)) rfl (WL.mv rfl rfl (WL.av (oj := _) rfl rfl rfl GC.f (V.move (OV.p rfl)) rfl (WL.av (oj := _) rfl rfl rfl GC.f (V.gtr (OV.g rfl id) (OV.p rfl)) rfl (WL.val (V.bK (OV.p rfl) (OV.g rfl id)) rfl (WL.mv rfl rfl (WL.av (oj := _) rfl rfl rfl GC.f (V.move (OV.p rfl)) rfl ?_)))))))))))))))
    refine WL.iD (oj := _) (vs := [_]) rfl rfl rfl GC.f Tryz.call9 ⟨OV.g rfl id, trivial⟩ (fun hg => Bj (l := sc) hs.up) rfl ?_
    refine WL.av (oj := _) rfl rfl rfl GC.f (V.not (OV.g rfl id)) rfl (WL.val (V.bK (OV.p rfl) (OV.g rfl id)) rfl (WL.nil ?_))
    refine WC.cond rfl (fun hc0 => ?_) (fun hc0 => ?_)
    ·simp only [Bool.or_eq_true, Bool.or_eq_false_iff, Bool.and_eq_true, decide_eq_true_eq, decide_eq_false_iff_not, Bool.not_eq_true', Bool.not_eq_false'] at hc0
     refine WC.sr (WL.sg rfl rfl (WL.nil (WC.ret ?_)))
     exact ak.ret (H' := F) (aQ.tmp rfl rfl) (fun w h => h.drop 1) ⟨rfl, rfl⟩
    ·simp only [Bool.or_eq_true, Bool.or_eq_false_iff, Bool.and_eq_true, decide_eq_true_eq, decide_eq_false_iff_not, Bool.not_eq_true', Bool.not_eq_false'] at hc0
     obtain ⟨⟨⟨⟨⟨⟨⟨hmay, h32⟩, h12⟩, Ub⟩, Rp⟩, hl1⟩, hl12⟩, MR⟩ := hc0
     refine WC.skip (WC.sr ?_)
     refine WL.val (V.bB (vs := [_, _, _, _, _]) ⟨Tryz.isAgg23, Tryz.sizeOf23⟩ (OV.p rfl) rfl (fun _ => by repeat (first | exact bA.gets ⟨rfl, rfl, rfl, rfl, rfl, trivial⟩ | apply bA.up))) rfl ?_
     refine WL.mv rfl rfl ?_
     refine WL.call (vs := [_, _]) Tryz.call10 ⟨OV.p rfl, OV.p rfl, trivial⟩ (Am g hb.up (by omega)) rfl ?_
     rintro _ _ (⟨hm, hin, _⟩ | ⟨hno, rfl, rfl⟩)
     · exact absurd ⟨hm, hin⟩ hv
     refine WL.mv rfl rfl (WL.xt rfl rfl rfl (WL.xt rfl rfl rfl (WL.sg rfl rfl (WL.sg rfl rfl (WL.nil (WC.seq (WC.sr (WL.mv rfl rfl (WL.val (V.neq (OV.p rfl) (OV.p rfl)) rfl (WL.nil ?_))))))))))
     refine WC.fM rfl (by first | rfl | (simp; done) | (simp; omega)) ?_
     refine WC.sr (WL.call (vs := []) Tryz.call11 trivial (wN _ _) rfl ?_)
     rintro _ H0 ⟨rfl, h0⟩
     subst H0
     refine WL.mv rfl rfl (WL.av (oj := _) rfl rfl rfl GC.t (V.move (OV.p rfl)) rfl (WL.av (oj := _) rfl rfl rfl GC.t (V.su Tryz.underlying28 (OV.g rfl id) (OV.p rfl)) rfl (WL.val (V.aI (OV.p rfl) (OV.g rfl id)) rfl (WL.sg rfl rfl (WL.nil (WC.ret ?_))))))
     exact ak.ret (H' := F) (aQ.tmp rfl rfl) (fun w h => h.drop 1) ⟨rfl, rfl⟩
  · skip
    refine Does.enter Tryz.func3 rfl Tryz.ntmps3 rfl ?_
    simp only [aH, Nat.reduceAdd]
    refine WC.sr ?_
    refine WL.box (cs := [_, _, _, _, _]) (OV.p rfl) rfl rfl (fun b4 => ?_)
    refine WL.sg rfl rfl (WL.nil (WC.seq (WC.sr ?_)))
    refine WL.val (V.bB (vs := [_, _, _, _, _]) ⟨Tryz.isAgg23, Tryz.sizeOf23⟩ (OV.p rfl) rfl (fun _ => by repeat (first | exact bA.gets ⟨rfl, rfl, rfl, rfl, rfl, trivial⟩ | apply bA.up))) rfl ?_
    refine WL.call (vs := [_]) Tryz.call8 ⟨OV.p rfl, trivial⟩ (wW g _ _) rfl ?_
    rintro _ H0 ⟨rfl, h0⟩
    subst H0
    refine WL.val (V.not (OV.p rfl)) rfl (WL.mv rfl rfl (WL.av (oj := _) rfl rfl rfl GC.f (V.move (OV.p rfl)) rfl (WL.av (oj := _) rfl rfl rfl GC.f (V.len (t := 24) Tryz.runUnderlying24 (OV.g rfl id)) rfl (WL.av (oj := _) rfl rfl rfl GC.f (V.gtr (OV.g rfl id) (OV.p rfl)) rfl (WL.val (V.bK (OV.p rfl) (OV.g rfl id)) rfl (WL.mv rfl rfl (WL.av (oj := _) rfl rfl rfl GC.f (V.move (OV.p rfl)) rfl (WL.av (oj := _) rfl rfl rfl GC.f (V.lss (OV.g rfl id) (OV.p rfl)) rfl (WL.val (V.bK (OV.p rfl) (OV.g rfl id)) rfl (WL.mv rfl rfl (WL.av (oj := _) rfl rfl rfl GC.f (V.move (OV.p rfl)) rfl (WL.av (oj := _) rfl rfl rfl GC.f (V.gtr (OV.g rfl id) (OV.p rfl)) rfl (WL.val (V.bK (OV.p rfl) (OV.g rfl id)) rfl (WL.mv rfl rfl (WL.av (oj := _) rfl rfl rfl GC.f (V.move (OV.p rfl)) rfl ?_)))))))))))))))
    refine WL.iD (oj := _) (vs := [_]) rfl rfl rfl GC.f Tryz.call9 ⟨OV.g rfl id, trivial⟩ (fun hg => Bj (l := sc) hs.up) rfl ?_
    refine WL.av (oj := _) rfl rfl rfl GC.f (V.not (OV.g rfl id)) rfl (WL.val (V.bK (OV.p rfl) (OV.g rfl id)) rfl (WL.nil ?_))
    refine WC.cond rfl (fun hc0 => ?_) (fun hc0 => ?_)
    ·simp only [Bool.or_eq_true, Bool.or_eq_false_iff, Bool.and_eq_true, decide_eq_true_eq, decide_eq_false_iff_not, Bool.not_eq_true', Bool.not_eq_false'] at hc0
     refine WC.sr (WL.sg rfl rfl (WL.nil (WC.ret ?_)))
     exact ak.ret (H' := F) (aQ.tmp rfl rfl) (fun w h => h.drop 1) ⟨rfl, rfl⟩
    ·simp only [Bool.or_eq_true, Bool.or_eq_false_iff, Bool.and_eq_true, decide_eq_true_eq, decide_eq_false_iff_not, Bool.not_eq_true', Bool.not_eq_false'] at hc0
     obtain ⟨⟨⟨⟨⟨⟨⟨hmay, h32⟩, h12⟩, Ub⟩, Rp⟩, hl1⟩, hl12⟩, MR⟩ := hc0
     have M6 := Geo.oz hmay
     have hgb := M6
     unfold Geo.aD at hgb
     have hcb := Geo.oZ M6
     obtain ⟨nl, rfl⟩ : ∃ nl : Nat, au = (nl : Int) := ⟨au.toNat, by omega⟩
     obtain ⟨nb, hnb⟩ : ∃ nb : Nat, g.bl = (nb : Int) := ⟨g.bl.toNat, by omega⟩
     have hnl : 1 ≤ nl ∧ nl ≤ 12 := by omega
     have hfw : m ≤ 80 ∧ ∀ o ∈ sc, o.dx.length ≤ 200 := by
       unfold Fh at MR
       simp only [Bool.and_eq_true, decide_eq_true_eq, List.all_eq_true, Bool.not_eq_true', decide_eq_false_iff_not] at MR
       exact ⟨by omega, fun o ho => by have := MR.2 o ho; omega⟩
     refine WC.skip (WC.sr ?_)
     refine WL.val (V.bB (vs := [_, _, _, _, _]) ⟨Tryz.isAgg23, Tryz.sizeOf23⟩ (OV.p rfl) rfl (fun _ => by repeat (first | exact bA.gets ⟨rfl, rfl, rfl, rfl, rfl, trivial⟩ | apply bA.up))) rfl ?_
     refine WL.mv rfl rfl ?_
     refine WL.call (vs := [_, _]) Tryz.call10 ⟨OV.p rfl, OV.p rfl, trivial⟩ (Am g hb.up (by omega)) rfl ?_
     rintro _ _ (⟨hm, hin, bc, C0, hC0, s0, rfl, rfl⟩ | ⟨hno, rfl, rfl⟩)
     rotate_left
     · exact (hno hv).elim
     have g0 : C0.g = g := by rw [show C0.g = C0.sem.g from rfl, s0]; rfl
     have u0 : C0.sem.up = true := by rw [s0]; rfl
     have o0 : C0.on.sem = ah.new g bad := by show C0.sem.on = _; rw [Dk u0, s0]
     obtain ⟨C1, Ik⟩ : ∃ C1, C1 = C0.on := ⟨_, rfl⟩
     have RJ : C1.Ok := by rw [Ik]; exact hC0.on
     have g1 : C1.g = g := by rw [Ik]; exact g0
     rw [← Ik] at o0
     refine WL.mv rfl rfl (WL.xt rfl rfl rfl (WL.xt rfl rfl rfl (WL.sg rfl rfl (WL.sg rfl rfl (WL.nil (WC.seq (WC.sr (WL.mv rfl rfl (WL.val (V.neq (OV.p rfl) (OV.p rfl)) rfl (WL.nil ?_))))))))))
     refine WC.aS rfl (by first | rfl | (simp; done) | (simp; omega)) ?_
     refine WC.skip (WC.sr (WL.mv rfl rfl (WL.mv rfl rfl ?_)))
     refine WL.call (vs := [_, _]) Tryz.call12 ⟨OV.p rfl, OV.p rfl, trivial⟩ (tH hC0 g0 (au := nl) (by omega) (by omega)) rfl ?_
     rintro _ _ ⟨QB, QT, T0, hT0, t0, rfl, rfl⟩
     have LQ : T0.stands.length = nl := by
       have : T0.sem.stands.length = nl := by rw [t0]; exact jw nl _
       exact this
     rw [← Ik] at t0 ⊢
     refine WL.sg rfl rfl (WL.nil (WC.seq (WC.seq ?_)))
     refine WC.sub (H' := T0.A QT QB g :: C1.A bc :: bO QB bc g :: Cells b4 23 [.int .i64 g.bl, .int .i64 g.pg, .int .i64 g.se, .int .i64 g.sb, .int .i64 g.fl] :: F) (Sub.refl _) (fun w h => h.sel 3 [2, 0, 1] rfl) ?_
     refine WC.dP (by kernel_rfl) (by kernel_rfl) ?_
     refine WQ.val (V.move (OV.p rfl)) rfl (WQ.val (V.su Tryz.underlying33 (OV.p rfl) (OV.p rfl)) rfl (WQ.val (V.move (OV.p rfl)) rfl (WQ.av (oj := _) rfl rfl rfl GC.f (V.move (OV.p rfl)) rfl ?_)))
     refine WQ.iD (oj := _) (vs := [_]) rfl rfl rfl GC.f Tryz.call13 ⟨OV.g rfl id, trivial⟩ (fun hg => Al) rfl ?_
     refine WQ.av (oj := _) rfl rfl rfl GC.f (V.move (OV.p rfl)) rfl (WQ.av (oj := _) rfl rfl rfl GC.f (V.neq (OV.g rfl id) (OV.g rfl id)) rfl (WQ.val (V.bK (OV.p rfl) (OV.g rfl id)) rfl (WQ.val (V.move (OV.p rfl)) rfl (WQ.av (oj := _) rfl rfl rfl GC.f (V.move (OV.p rfl)) rfl ?_))))
     refine WQ.iD (oj := _) (vs := [_]) rfl rfl rfl GC.f Tryz.call14 ⟨OV.g rfl id, trivial⟩ (fun hg => qJ M6) rfl ?_
     refine WQ.av (oj := _) rfl rfl rfl GC.f (V.bB (vs := [_, _, _, _, _]) ⟨Tryz.isAgg23, Tryz.sizeOf23⟩ (OV.p rfl) rfl (fun _ => by repeat (first | exact bA.gets ⟨rfl, rfl, rfl, rfl, rfl, trivial⟩ | apply bA.up))) rfl ?_
     refine WQ.iD (oj := _) (vs := [_]) rfl rfl rfl GC.f Tryz.call15 ⟨OV.g rfl id, trivial⟩ (fun hg => Ju M6) rfl ?_
     refine WQ.av (oj := _) rfl rfl rfl GC.f (V.neq (OV.g rfl id) (OV.g rfl id)) rfl (WQ.val (V.bK (OV.p rfl) (OV.g rfl id)) rfl (WQ.nil ?_))
     refine WC.aS rfl ((by rw [LQ]; simp)) ?_
     refine WC.skip (WC.sr (WL.mv rfl rfl ?_))
     refine WL.call (vs := [_]) Tryz.call16 ⟨OV.p rfl, trivial⟩ (JF (n := nl) (by omega)) rfl ?_
     rintro _ _ ⟨M0, hM1, hM2, rfl, rfl⟩
     refine WL.alloc (cs := [(.slice none 0 0), (.slice none 0 0)]) Tryz.zeroValue40 rfl rfl (fun b12 => ?_)
     refine WL.store (cs := [_, _]) Tryz.sizeOf40 (OV.p rfl) (OV.p rfl) rfl rfl rfl (by repeat (first | exact bD.here (cs' := [_, _]) rfl rfl | apply bD.up)) ?_
     refine WL.nil (WC.sr (WL.val (V.fieldAddr iV (OV.p rfl)) rfl (WL.ld Tryz.isAgg3 rfl rfl ?_)))
     refine WL.jV (m := nb) Tryz.underlying37 R3 (OV.p rfl) (OV.p rfl) hnb hnb (by omega) rfl rfl rfl (fun b13 => ?_)
     refine WL.sg rfl rfl (WL.nil (WC.seq (WC.sr (WL.sg rfl rfl (WL.nil (WC.block ?_))))))
     refine WC.loop (σ := Nat × List Bool) (fun s => [(2, .int .i64 (nl : Int)), (3, .slice A m cap), (4, ptr b4 0), (9, ptr bc 0), (11, ptr QT 0), (12, ptr b12 0), (13, .slice (some ⟨b13, 0, none⟩) nb nb), (14, .int .i64 (s.1 : Int))]) (fun s => C1.A bc :: bO QB bc g :: T0.A QT QB g :: M0.A :: Cells b13 4 (bools s.2) :: Cells b12 40 M0.cells :: Cells b4 23 [.int .i64 g.bl, .int .i64 g.pg, .int .i64 g.se, .int .i64 g.sb, .int .i64 g.fl] :: F) (fun s => s.1 ≤ nb ∧ s.2.length = nb ∧ ∀ b : Nat, b < s.1 → C1.sem.marked (b : Int) = true → s.2.getD b false = true) (fun s => nb - s.1) (0, List.replicate nb false) ⟨Nat.zero_le _, List.length_replicate, fun b hb => absurd hb (Nat.not_lt_zero _)⟩ (.cons rfl (.cons rfl (.cons rfl (.cons rfl (.cons rfl (.cons rfl (.cons rfl (.cons rfl (.nil _))))))))) (fun w h => by
       have h2 := h.sel 7 [4, 5, 3, 2, 0, 1, 6] rfl
       dsimp only [bools]
       rw [List.map_replicate]
       exact h2) ?_
     rintro ⟨ib, ill⟩ ⟨hib, hil, O4⟩
     dsimp only at hib hil O4 ⊢
     refine WC.seq (WC.sr (WL.mv rfl rfl (WL.val (V.fieldAddr iV (OV.p rfl)) rfl (WL.ld Tryz.isAgg3 rfl rfl ?_))))
     refine WL.val (V.lss (OV.p rfl) (OV.p rfl)) rfl (WL.nil ?_)
     refine WC.cond rfl (fun hc3 => ?_) (fun hc3 => ?_)
     ·simp only [decide_eq_true_eq, decide_eq_false_iff_not] at hc3
      have Rz : ib < nb := by omega
      have hbad : C1.sem.bad (ib : Int) = C1.sem.marked (ib : Int) := by
        unfold ah.bad
        rw [o0]; rfl
      refine WC.skip (WC.seq (WC.block (WC.region (WL.mv rfl rfl (WL.mv rfl rfl (WL.mv rfl rfl (WL.mv rfl rfl (WL.call (vs := [_, _]) Tryz.call17 ⟨OV.p rfl, OV.p rfl, trivial⟩ (zn (C := C1) (ib : Int)) rfl ?_))))))))
      rintro _ H0 ⟨rfl, h0⟩
      subst H0
      refine WL.val (V.bM Gd (OV.p rfl) (OV.p rfl) (fun hc => by omega)) rfl ?_
      refine WL.store (cs := [_]) Tryz.sizeOf4 (OV.p rfl) (OV.p rfl) rfl rfl rfl (bD.up (bD.up (bD.up (bD.up (bD.at_ (by rw [jA]; omega)))))) ?_
      refine WL.nil (WC.region (WL.mv rfl rfl (WL.ad rfl rfl rfl ?_)))
      refine WL.sg rfl rfl (WL.nil ?_)
      refine ⟨rfl, ?_⟩
      refine ⟨(ib + 1, ill.set ib (C1.sem.marked (ib : Int))), ⟨Rz, by rw [List.length_set]; exact hil, fun b hb hm => ?_⟩, (by show nb - (ib + 1) < nb - ib; omega), .cons rfl (.cons rfl (.cons rfl (.cons rfl (.cons rfl (.cons rfl (.cons rfl (.cons (look_eq rfl (by simp)) (.nil _)))))))), fun w h => ?_⟩
      · dsimp only
        rw [jg]
        by_cases hbb : b = ib
        · rw [if_pos ⟨hbb, by omega⟩, ← hbb]; exact hm
        · rw [if_neg (fun hh => hbb hh.1)]; exact O4 b (by have : b < ib + 1 := hb; omega) hm
      · dsimp only
        rw [hbad, show 0 + (ib : Int).toNat * 1 = ib by omega] at h
        have e9 : bools (ill.set ib (C1.sem.marked (ib : Int))) = (bools ill).set ib (.bool (C1.sem.marked (ib : Int))) := by unfold bools; rw [List.map_set]
        rw [e9]
        exact h
     ·simp only [decide_eq_true_eq, decide_eq_false_iff_not] at hc3
      refine WC.exit (WC.seq (WC.sr (WL.sg rfl rfl (WL.nil (WC.block ?_)))))
      obtain rfl : ib = nb := by omega
      have hI0 : sF nl g 0 C1.sem T0.sem M0 ill := by
        have hms : M0.sem = fun _ => none := by
          funext k
          unfold Mw.sem
          rw [hM1]
          have : (List.replicate nl false).getD k false = false := by
            simp only [List.getD, List.getElem?_replicate]
            split <;> rfl
          rw [this]; rfl
        refine ⟨g1, ⟨fun _ => none, ?_⟩, ?_, ?_, ?_, by rw [hM1, List.length_replicate], by rw [hM2, List.length_replicate], by rw [hil, hnb]; rfl, fun b hb hm => O4 b (by omega) (hm.elim id fun hw => ?_)⟩
        · rw [t0, o0, hms]
          exact (ah.yj (ah.CM.new M6 nl nl) rfl)
        · rw [o0]; rfl
        · rw [o0]; rfl
        · rw [t0, o0, IZ M6]; decide
        · rw [o0] at hw; cases hw
      refine WC.loop (σ := Nat × Cw × bC × Nat × Nat × Mw × List Bool) (fun s => [(2, .int .i64 (nl : Int)), (3, .slice A m cap), (4, ptr b4 0), (9, ptr bc 0), (11, ptr s.2.2.2.1 0), (12, ptr b12 0), (13, .slice (some ⟨b13, 0, none⟩) ib ib), (15, .int .i64 (s.1 : Int))]) (fun s => s.2.1.A bc :: bO s.2.2.2.2.1 bc g :: s.2.2.1.A s.2.2.2.1 s.2.2.2.2.1 g :: s.2.2.2.2.2.1.A :: Cells b13 4 (bools s.2.2.2.2.2.2) :: Cells b12 40 s.2.2.2.2.2.1.cells :: Cells b4 23 [.int .i64 g.bl, .int .i64 g.pg, .int .i64 g.se, .int .i64 g.sb, .int .i64 g.fl] :: F) (fun s => s.1 ≤ m ∧ s.2.1.Ok ∧ s.2.2.1.Ok g ∧ sF nl g s.1 s.2.1.sem s.2.2.1.sem s.2.2.2.2.2.1 s.2.2.2.2.2.2) (fun s => m - s.1) (0, C1, T0, QT, QB, M0, ill) ⟨Nat.zero_le _, RJ, hT0, hI0⟩ (.cons rfl (.cons rfl (.cons rfl (.cons rfl (.cons rfl (.cons rfl (.cons rfl (.cons rfl (.nil _))))))))) (fun w h => h) ?_
      rintro ⟨i, C, T, bs, bd, M, ill⟩ ⟨hi, hC, hT, hI⟩
      dsimp only at hi hC hT hI ⊢
      have hg' : C.g = g := hI.Hy
      refine WC.seq (WC.sr (WL.mv rfl rfl (WL.mv rfl rfl (WL.val (V.len (t := 25) Tryz.runUnderlying25 (OV.p rfl)) rfl (WL.val (V.lss (OV.p rfl) (OV.p rfl)) rfl (WL.nil ?_))))))
      refine WC.cond rfl (fun hc4 => ?_) (fun hc4 => ?_)
      ·simp only [decide_eq_true_eq, decide_eq_false_iff_not] at hc4
       have him : i < m := by omega
       obtain ⟨o, ho'⟩ : ∃ o, sc[i]? = some o := ⟨_, List.getElem?_eq_getElem (by omega)⟩
       have ho := hs.ok o (List.mem_of_getElem? ho')
       have hof := hfw.2 o (List.mem_of_getElem? ho')
       have hti : (i : Int).toNat = i := by omega
       have hel : ∀ (j : Nat) v, o.cells[j]? = some v → Rd K F (A.map (·.add (i * 6 + j))) v := fun j v hj => hs.elem ho' hj
       obtain ⟨OZ, aU⟩ : ∃ OZ, OZ = (decide (o.aC ≥ 0) && decide (o.aC < (nl : Int))) := ⟨_, rfl⟩
       have hin : OZ = true ↔ (0 ≤ o.aC ∧ o.aC < (nl : Int)) := by rw [aU]; simp
       have QH : OZ = false ↔ ¬ (0 ≤ o.aC ∧ o.aC < (nl : Int)) := by rw [← hin]; simp
       have hlh := hI.lh
       have hld := hI.ld
       have Kl := hI.il
       obtain ⟨st0, Mk⟩ := hI.si
       have hlong : ∀ l ∈ T.sem.stale, l.length ≤ 1000 := fun l hl' => Nat.le_trans (Mk.long l hl') (by omega)
       refine WC.skip (WC.seq (WC.block (WC.sr (WL.mv rfl rfl (WL.mv rfl rfl ?_)))))
       refine WL.val (V.aB (v' := sp A (i * 6)) (V.eP Qt (OV.p rfl) (OV.p rfl) (fun hc => by omega) (fun hc => by rw [hti]; repeat (first | exact hel 0 _ rfl | apply Rd.up))) (fun _ => by rw [hti])) rfl ?_
       refine WL.val (V.BG (vs := o.cells) ⟨Tryz.isAgg45, Tryz.sizeOf45⟩ (OV.p rfl) rfl (by decide) (fun _ j v hj => by repeat (first | exact hel j v hj | apply Rd.up))) rfl ?_
       refine WL.alloc (cs := [(.int .i64 0), (.int .i64 0), (.int .i64 0), (.int .i64 0), (.int .i64 0), (.slice none 0 0)]) Tryz.zeroValue45 rfl rfl (fun b16 => ?_)
       refine WL.store (cs := [_, _, _, _, _, _]) Tryz.sizeOf45 (OV.p rfl) (OV.p rfl) rfl rfl rfl (by repeat (first | exact bD.here (cs' := [_, _, _, _, _, _]) rfl rfl | apply bD.up)) ?_
       refine WL.nil (WC.sr (WL.val (V.fieldAddr rZ (OV.p rfl)) rfl (WL.ld Tryz.isAgg3 rfl rfl ?_)))
       refine WL.val (V.geq (OV.p rfl) (OV.p rfl)) rfl (WL.mv rfl rfl (WL.av (oj := _) rfl rfl rfl GC.t (V.fieldAddr rZ (OV.p rfl)) rfl ?_))
       refine WL.av (oj := _) rfl rfl rfl GC.t (V.load Tryz.isAgg3 (OV.g rfl id) (fun _ => by repeat (first | exact Rd.here rfl | apply Rd.up))) rfl ?_
       refine WL.av (oj := _) rfl rfl rfl GC.t (V.move (OV.p rfl)) rfl (WL.av (oj := _) rfl rfl rfl GC.t (V.lss (OV.g rfl id) (OV.g rfl id)) rfl (WL.val (V.aI (OV.p rfl) (OV.g rfl id)) rfl (WL.sg rfl rfl (WL.nil ?_))))
       refine WC.join (σ := Cw × bC × Nat × Nat × Mw × List Bool) (fun s => [(2, .int .i64 (nl : Int)), (3, .slice A m cap), (4, ptr b4 0), (9, ptr bc 0), (11, ptr s.2.2.1 0), (12, ptr b12 0), (13, .slice (some ⟨b13, 0, none⟩) ib ib), (15, .int .i64 (i : Int)), (16, ptr b16 0), (17, .bool OZ)]) (fun s => s.1.A bc :: bO s.2.2.2.1 bc g :: s.2.1.A s.2.2.1 s.2.2.2.1 g :: s.2.2.2.2.1.A :: Cells b13 4 (bools s.2.2.2.2.2) :: Cells b16 45 o.cells :: Cells b12 40 s.2.2.2.2.1.cells :: Cells b4 23 [.int .i64 g.bl, .int .i64 g.pg, .int .i64 g.se, .int .i64 g.sb, .int .i64 g.fl] :: F) (fun s => s.1.Ok ∧ s.2.1.Ok g ∧ sF nl g (i + 1) s.1.sem s.2.1.sem s.2.2.2.2.1 s.2.2.2.2.2) ?_ ?_
       ·skip
        refine WC.sr (WL.val (V.fieldAddr Pf (OV.p rfl)) rfl (WL.ld Tryz.isAgg3 rfl rfl ?_))
        refine WL.nil (WC.block (WC.sr (WL.val (V.eql (OV.p rfl) (OV.p rfl)) rfl (WL.sg rfl rfl (WL.nil ?_)))))
        refine WC.cond rfl (fun mP => ?_) (fun mP => ?_)
        ·try simp only [decide_eq_true_eq, decide_eq_false_iff_not, Bool.and_eq_true, Bool.or_eq_true, Bool.and_eq_false_iff, Bool.or_eq_false_iff, Bool.not_eq_true', Bool.not_eq_false', Bool.not_eq_true, Bool.not_eq_false, Int.not_lt, Int.not_le] at mP
         refine WC.sr ?_
         refine WL.buildSlice (E := 5) (cs := []) (vs := []) trivial rfl (Ia) rfl (fun Ug => ?_)
         refine WL.val (V.fieldAddr zJ (OV.p rfl)) rfl (WL.ld Tryz.isAgg43 rfl rfl ?_)
         refine WL.sub (Sub.refl _) (fun w h => Sat.uf (s := 1) (m := 0) (cap := 0) h rfl (Nat.le_refl _) (by decide)) ?_
         refine WL.append (m := 0) (q := o.dx.length) (cs := []) (news := aA .u8 o.dx) Tryz.underlying43 wX (OV.p rfl) (OV.p rfl) (by repeat (first | exact ho.data | apply Seq.up)) (ny _ _) (by omega) rfl rfl (fun P5 c17 TH hc17 => ?_)
         rw [Nat.zero_add, List.nil_append]
         rw [Nat.zero_add] at hc17
         refine WL.sg rfl rfl (WL.nil (WC.sr (WL.mv rfl rfl (WL.val (V.fieldAddr rZ (OV.p rfl)) rfl (WL.ld Tryz.isAgg3 rfl rfl ?_)))))
         refine WL.mv rfl rfl ?_
         refine WL.sub (H' := C.A bc :: bO bd bc g :: T.A bs bd g :: aZ (.slice P5 o.dx.length c17) 5 1 o.dx.length (aA .u8 o.dx) :: M.A :: Cells b13 4 (bools ill) :: Cells b16 45 o.cells :: Cells b12 40 M.cells :: Cells b4 23 [.int .i64 g.bl, .int .i64 g.pg, .int .i64 g.se, .int .i64 g.sb, .int .i64 g.fl] :: F) (Sub.refl _) (fun w h => h.sel 8 [2, 3, 4, 0, 5, 6, 1, 7] rfl) ?_
         have F4 : ∀ {H : List aj}, Seq K (aZ (.slice P5 o.dx.length c17) 5 1 o.dx.length (aA .u8 o.dx) :: H) P5 o.dx.length 1 (aA .u8 o.dx) := fun {H} => aZ.seq (by rw [aG, Nat.mul_one])
         refine WL.call (vs := [_, _, _]) Tryz.call18 ⟨OV.p rfl, OV.p rfl, OV.p rfl, trivial⟩ (tY (aC := o.aC) (d := o.dx) hC hg' hT F4 ho.d8 hc17 (by omega) (fun l hl' => Nat.le_trans (hlong l hl') (by decide))) rfl ?_
         rintro v0 _ ⟨C2, T2, hC2, g2, eO, s2, t2, rfl, rfl⟩
         obtain ⟨e, he⟩ : ∃ e, e = (aY C.sem T.sem o.aC o.dx).2.2 := ⟨_, rfl⟩
         rw [← he]
         refine WL.sg rfl rfl (WL.nil (WC.seq (WC.seq ?_)))
         refine WC.sub (H' := T2.A bs bd g :: C2.A bc :: bO bd bc g :: aZ (.slice P5 o.dx.length c17) 5 1 o.dx.length (aA .u8 o.dx) :: M.A :: Cells b13 4 (bools ill) :: Cells b16 45 o.cells :: Cells b12 40 M.cells :: Cells b4 23 [.int .i64 g.bl, .int .i64 g.pg, .int .i64 g.se, .int .i64 g.sb, .int .i64 g.fl] :: F) (Sub.refl _) (fun w h => h.sel 3 [2, 0, 1] rfl) ?_
         refine WC.dP (by kernel_rfl) (by kernel_rfl) ?_
         refine WQ.val (V.move (OV.p rfl)) rfl (WQ.val (V.not (OV.p rfl)) rfl (WQ.val (V.move (OV.p rfl)) rfl (WQ.av (oj := _) rfl rfl rfl GC.f (V.fieldAddr zJ (OV.p rfl)) rfl ?_)))
         refine WQ.av (oj := _) rfl rfl rfl GC.f (V.load Tryz.isAgg43 (OV.g rfl id) (fun _ => by repeat (first | exact Rd.here rfl | apply Rd.up))) rfl ?_
         refine WQ.av (oj := _) rfl rfl rfl GC.f (V.len (t := 43) Tryz.runUnderlying43 (OV.g rfl id)) rfl (WQ.av (oj := _) rfl rfl rfl GC.f (V.move (OV.p rfl)) rfl ?_)
         refine WQ.iD (oj := _) (vs := [_]) rfl rfl rfl GC.f Tryz.call14 ⟨OV.g rfl id, trivial⟩ (fun hg => qJ M6) rfl ?_
         refine WQ.av (oj := _) rfl rfl rfl GC.f (V.gtr (OV.g rfl id) (OV.g rfl id)) rfl (WQ.val (V.bK (OV.p rfl) (OV.g rfl id)) rfl (WQ.nil ?_))
         refine WC.cond rfl (fun hc6 => ?_) (fun hc6 => ?_)
         ·simp only [Bool.or_eq_true, Bool.or_eq_false_iff, Bool.not_eq_true', Bool.not_eq_false', decide_eq_true_eq, decide_eq_false_iff_not] at hc6
          have h6 := hc6
          rw [← aU] at h6
          have hsame : C2.sem = C.sem ∧ T2.sem = T.sem ∧ e = if OZ then 2 else 1 := by
            cases hb : OZ with
            | false =>
              have := Gf (S := C.sem) (d := o.dx) (BU Mk (QH.1 hb))
              rw [s2, t2, he, this]; exact ⟨rfl, rfl, rfl⟩
            | true =>
              obtain ⟨i0, hi0⟩ : ∃ i0 : Nat, o.aC = (i0 : Int) := ⟨o.aC.toNat, by have := hin.1 hb; omega⟩
              have h7 : g.cap < (o.dx.length : Int) := by
                rcases h6 with h | h
                · rw [hb] at h; cases h
                · exact h
              have := D7 (S := C.sem) (T := T.sem) (aC := o.aC) (d := o.dx) (by rw [hi0]; exact Mk.ready (by have := (hin.1 hb).2; omega)) (by rw [hI.Hy]; exact h7)
              rw [s2, t2, he, this]; exact ⟨rfl, rfl, rfl⟩
          refine WC.sr (WL.sg rfl rfl (WL.nil (WC.seq (WC.sr (WL.mv rfl rfl (WL.val (V.not (OV.p rfl)) rfl (WL.nil ?_)))))))
          refine WC.cond rfl (fun PY => ?_) (fun PY => ?_)
          ·simp only [Bool.not_eq_true', Bool.not_eq_false'] at PY
           have h7 := PY
           rw [← aU] at h7
           have QC := hsame.2.2
           rw [h7] at QC
           have JV : sF nl g (i + 1) C2.sem T2.sem M ill := by rw [hsame.1, hsame.2.1]; exact hI.stay
           refine WC.region (WL.sg rfl rfl (WL.nil (WC.seq (WC.sr (WL.mv rfl rfl (WL.mv rfl rfl (WL.val (V.neq (OV.p rfl) (OV.p rfl)) rfl (WL.nil ?_))))))))
           refine WC.aS rfl ((by rw [QC]; rfl)) ?_
           refine WC.skip (WC.exit ?_)
           refine ⟨rfl, ?_⟩
           first
           | exact ⟨(C2, T2, bs, bd, M, ill), ⟨hC2, eO, JV⟩, .cons rfl (.cons rfl (.cons rfl (.cons rfl (.cons rfl (.cons rfl (.cons rfl (.cons rfl (.cons rfl (.cons (look_eq rfl (by rw [aU])) (.nil _)))))))))), fun w h => h.sel 4 [1, 2, 0] rfl⟩
           | exact ⟨(C2, T2, bs, bd, M, ill), ⟨hC2, eO, hJ2⟩, .cons rfl (.cons rfl (.cons rfl (.cons rfl (.cons rfl (.cons rfl (.cons rfl (.cons rfl (.cons rfl (.cons (look_eq rfl (by rw [aU])) (.nil _)))))))))), fun w h => h.sel 5 [2, 3, 1, 0] rfl⟩
           | exact ⟨(C2, T2, bs, bd, M3, ill), ⟨hC2, eO, hJ3⟩, .cons rfl (.cons rfl (.cons rfl (.cons rfl (.cons rfl (.cons rfl (.cons rfl (.cons rfl (.cons rfl (.cons (look_eq rfl (by rw [aU])) (.nil _)))))))))), fun w h => h.sel 5 [2, 3, 1, 0] rfl⟩
           | exact ⟨(C2, T2, bs, bd, M, ill), ⟨hC2, eO, KC⟩, .cons rfl (.cons rfl (.cons rfl (.cons rfl (.cons rfl (.cons rfl (.cons rfl (.cons rfl (.cons rfl (.cons (look_eq rfl (by rw [aU])) (.nil _)))))))))), fun w h => h⟩
           | exact ⟨(C2, T2, bs, bd, M3, ill), ⟨hC2, eO, Me⟩, .cons rfl (.cons rfl (.cons rfl (.cons rfl (.cons rfl (.cons rfl (.cons rfl (.cons rfl (.cons rfl (.cons (look_eq rfl (by rw [aU])) (.nil _)))))))))), fun w h => h.sel 4 [1, 2, 3, 0] rfl⟩
           | exact ⟨(C.on, T2, FM, DF, M, ill), ⟨hC.on, eO, K9⟩, .cons rfl (.cons rfl (.cons rfl (.cons rfl (.cons rfl (.cons rfl (.cons rfl (.cons rfl (.cons rfl (.cons (look_eq rfl (by rw [aU])) (.nil _)))))))))), fun w h => h.sel 6 [0, 1, 2, 5] rfl⟩
           | exact ⟨(C2, T, bs, bd, M, ill.set k0 true), ⟨hC2, hT, Kw⟩, .cons rfl (.cons rfl (.cons rfl (.cons rfl (.cons rfl (.cons rfl (.cons rfl (.cons rfl (.cons rfl (.cons (look_eq rfl (by rw [aU])) (.nil _)))))))))), fun w h => h⟩
           | exact ⟨(C2, T, bs, bd, M, ill), ⟨hC2, hT, Ke⟩, .cons rfl (.cons rfl (.cons rfl (.cons rfl (.cons rfl (.cons rfl (.cons rfl (.cons rfl (.cons rfl (.cons (look_eq rfl (by rw [aU])) (.nil _)))))))))), fun w h => h⟩
           | exact ⟨(C2, T, bs, bd, M, ill), ⟨hC2, hT, J2⟩, .cons rfl (.cons rfl (.cons rfl (.cons rfl (.cons rfl (.cons rfl (.cons rfl (.cons rfl (.cons rfl (.cons (look_eq rfl (by rw [aU])) (.nil _)))))))))), fun w h => h.sel 4 [0, 2, 3] rfl⟩
           | exact ⟨(C, T, bs, bd, M, ill), ⟨hC, hT, hI.stay⟩, .cons rfl (.cons rfl (.cons rfl (.cons rfl (.cons rfl (.cons rfl (.cons rfl (.cons rfl (.cons rfl (.cons (look_eq rfl (by rw [aU])) (.nil _)))))))))), fun w h => h.sel 6 [1, 2, 3, 4, 5, 0] rfl⟩
          ·simp only [Bool.not_eq_true', Bool.not_eq_false'] at PY
           have h7 := PY
           rw [← aU] at h7
           have QC := hsame.2.2
           rw [h7] at QC
           have JV : sF nl g (i + 1) C2.sem T2.sem M ill := by rw [hsame.1, hsame.2.1]; exact hI.stay
           refine WC.skip (WC.seq (WC.sr (WL.mv rfl rfl (WL.mv rfl rfl (WL.val (V.neq (OV.p rfl) (OV.p rfl)) rfl (WL.nil ?_))))))
           refine WC.aS rfl ((by rw [QC]; rfl)) ?_
           refine WC.skip (WC.exit ?_)
           refine ⟨rfl, ?_⟩
           first
           | exact ⟨(C2, T2, bs, bd, M, ill), ⟨hC2, eO, JV⟩, .cons rfl (.cons rfl (.cons rfl (.cons rfl (.cons rfl (.cons rfl (.cons rfl (.cons rfl (.cons rfl (.cons (look_eq rfl (by rw [aU])) (.nil _)))))))))), fun w h => h.sel 4 [1, 2, 0] rfl⟩
           | exact ⟨(C2, T2, bs, bd, M, ill), ⟨hC2, eO, hJ2⟩, .cons rfl (.cons rfl (.cons rfl (.cons rfl (.cons rfl (.cons rfl (.cons rfl (.cons rfl (.cons rfl (.cons (look_eq rfl (by rw [aU])) (.nil _)))))))))), fun w h => h.sel 5 [2, 3, 1, 0] rfl⟩
           | exact ⟨(C2, T2, bs, bd, M3, ill), ⟨hC2, eO, hJ3⟩, .cons rfl (.cons rfl (.cons rfl (.cons rfl (.cons rfl (.cons rfl (.cons rfl (.cons rfl (.cons rfl (.cons (look_eq rfl (by rw [aU])) (.nil _)))))))))), fun w h => h.sel 5 [2, 3, 1, 0] rfl⟩
           | exact ⟨(C2, T2, bs, bd, M, ill), ⟨hC2, eO, KC⟩, .cons rfl (.cons rfl (.cons rfl (.cons rfl (.cons rfl (.cons rfl (.cons rfl (.cons rfl (.cons rfl (.cons (look_eq rfl (by rw [aU])) (.nil _)))))))))), fun w h => h⟩
           | exact ⟨(C2, T2, bs, bd, M3, ill), ⟨hC2, eO, Me⟩, .cons rfl (.cons rfl (.cons rfl (.cons rfl (.cons rfl (.cons rfl (.cons rfl (.cons rfl (.cons rfl (.cons (look_eq rfl (by rw [aU])) (.nil _)))))))))), fun w h => h.sel 4 [1, 2, 3, 0] rfl⟩
           | exact ⟨(C.on, T2, FM, DF, M, ill), ⟨hC.on, eO, K9⟩, .cons rfl (.cons rfl (.cons rfl (.cons rfl (.cons rfl (.cons rfl (.cons rfl (.cons rfl (.cons rfl (.cons (look_eq rfl (by rw [aU])) (.nil _)))))))))), fun w h => h.sel 6 [0, 1, 2, 5] rfl⟩
           | exact ⟨(C2, T, bs, bd, M, ill.set k0 true), ⟨hC2, hT, Kw⟩, .cons rfl (.cons rfl (.cons rfl (.cons rfl (.cons rfl (.cons rfl (.cons rfl (.cons rfl (.cons rfl (.cons (look_eq rfl (by rw [aU])) (.nil _)))))))))), fun w h => h⟩
           | exact ⟨(C2, T, bs, bd, M, ill), ⟨hC2, hT, Ke⟩, .cons rfl (.cons rfl (.cons rfl (.cons rfl (.cons rfl (.cons rfl (.cons rfl (.cons rfl (.cons rfl (.cons (look_eq rfl (by rw [aU])) (.nil _)))))))))), fun w h => h⟩
           | exact ⟨(C2, T, bs, bd, M, ill), ⟨hC2, hT, J2⟩, .cons rfl (.cons rfl (.cons rfl (.cons rfl (.cons rfl (.cons rfl (.cons rfl (.cons rfl (.cons rfl (.cons (look_eq rfl (by rw [aU])) (.nil _)))))))))), fun w h => h.sel 4 [0, 2, 3] rfl⟩
           | exact ⟨(C, T, bs, bd, M, ill), ⟨hC, hT, hI.stay⟩, .cons rfl (.cons rfl (.cons rfl (.cons rfl (.cons rfl (.cons rfl (.cons rfl (.cons rfl (.cons rfl (.cons (look_eq rfl (by rw [aU])) (.nil _)))))))))), fun w h => h.sel 6 [1, 2, 3, 4, 5, 0] rfl⟩
         ·simp only [Bool.or_eq_true, Bool.or_eq_false_iff, Bool.not_eq_true', Bool.not_eq_false', decide_eq_true_eq, decide_eq_false_iff_not] at hc6
          have h6 := hc6
          rw [← aU] at h6
          obtain ⟨hq1, hq2⟩ := h6
          have hq3 := hin.1 hq1
          obtain ⟨i0, hi0⟩ : ∃ i0 : Nat, o.aC = (i0 : Int) := ⟨o.aC.toNat, by omega⟩
          have Rb : i0 < nl := by omega
          have hout := hI.change (by omega) (by omega) Rb (by omega) ho.d8 (show (o.dx.length : Int) ≤ g.cap by omega)
          rw [← hi0, ← he, ← s2, ← t2] at hout
          refine WC.skip (WC.seq (WC.seq ?_))
          refine WC.sub (H' := M.A :: T2.A bs bd g :: C2.A bc :: bO bd bc g :: aZ (.slice P5 o.dx.length c17) 5 1 o.dx.length (aA .u8 o.dx) :: Cells b13 4 (bools ill) :: Cells b16 45 o.cells :: Cells b12 40 M.cells :: Cells b4 23 [.int .i64 g.bl, .int .i64 g.pg, .int .i64 g.se, .int .i64 g.sb, .int .i64 g.fl] :: F) (Sub.refl _) (fun w h => h.sel 5 [4, 0, 1, 2, 3] rfl) ?_
          refine WC.dP (by kernel_rfl) (by kernel_rfl) ?_
          refine WQ.val (V.move (OV.p rfl)) rfl (WQ.val (V.eql (OV.p rfl) (OV.p rfl)) rfl (WQ.val (V.move (OV.p rfl)) rfl (WQ.av (oj := _) rfl rfl rfl GC.t (V.move (OV.p rfl)) rfl ?_)))
          refine WQ.iD (oj := _) (vs := [_]) rfl rfl rfl GC.t Tryz.call19 ⟨OV.g rfl id, trivial⟩ (fun hg => AJ (ill := ill) (by repeat (first | exact Seq.all (by rw [jA, Kl, hnb]; simp) | apply Seq.up)) (by omega)) rfl ?_
          refine WQ.av (oj := _) rfl rfl rfl GC.t (V.bB (vs := [_, _]) ⟨Tryz.isAgg40, Tryz.sizeOf40⟩ (OV.p rfl) rfl (fun _ => by repeat (first | exact bA.gets ⟨rfl, rfl, trivial⟩ | apply bA.up))) rfl ?_
          refine WQ.iD (oj := _) (vs := [_]) rfl rfl rfl GC.t Tryz.call20 ⟨OV.g rfl id, trivial⟩ (fun hg => EZ (M := M) (by omega)) rfl ?_
          refine WQ.av (oj := _) rfl rfl rfl GC.t (V.leq (OV.g rfl id) (OV.g rfl id)) rfl (WQ.val (V.aI (OV.p rfl) (OV.g rfl id)) rfl (WQ.nil ?_))
          refine WC.cond rfl (fun Qf => ?_) (fun Qf => ?_)
          ·simp only [Bool.and_eq_true, Bool.and_eq_false_iff, decide_eq_true_eq, decide_eq_false_iff_not] at Qf
           have h9 := Qf
           have hJ2 : sF nl g (i + 1) C2.sem T2.sem M ill := by
             rcases hout with ⟨_, _, h⟩ | ⟨h, _⟩
             · exact h
             · rw [h9.1] at h; exact absurd h (by decide)
           refine WC.exit ?_
           refine ⟨rfl, ?_⟩
           first
           | exact ⟨(C2, T2, bs, bd, M, ill), ⟨hC2, eO, JV⟩, .cons rfl (.cons rfl (.cons rfl (.cons rfl (.cons rfl (.cons rfl (.cons rfl (.cons rfl (.cons rfl (.cons (look_eq rfl (by rw [aU])) (.nil _)))))))))), fun w h => h.sel 4 [1, 2, 0] rfl⟩
           | exact ⟨(C2, T2, bs, bd, M, ill), ⟨hC2, eO, hJ2⟩, .cons rfl (.cons rfl (.cons rfl (.cons rfl (.cons rfl (.cons rfl (.cons rfl (.cons rfl (.cons rfl (.cons (look_eq rfl (by rw [aU])) (.nil _)))))))))), fun w h => h.sel 5 [2, 3, 1, 0] rfl⟩
           | exact ⟨(C2, T2, bs, bd, M3, ill), ⟨hC2, eO, hJ3⟩, .cons rfl (.cons rfl (.cons rfl (.cons rfl (.cons rfl (.cons rfl (.cons rfl (.cons rfl (.cons rfl (.cons (look_eq rfl (by rw [aU])) (.nil _)))))))))), fun w h => h.sel 5 [2, 3, 1, 0] rfl⟩
           | exact ⟨(C2, T2, bs, bd, M, ill), ⟨hC2, eO, KC⟩, .cons rfl (.cons rfl (.cons rfl (.cons rfl (.cons rfl (.cons rfl (.cons rfl (.cons rfl (.cons rfl (.cons (look_eq rfl (by rw [aU])) (.nil _)))))))))), fun w h => h⟩
           | exact ⟨(C2, T2, bs, bd, M3, ill), ⟨hC2, eO, Me⟩, .cons rfl (.cons rfl (.cons rfl (.cons rfl (.cons rfl (.cons rfl (.cons rfl (.cons rfl (.cons rfl (.cons (look_eq rfl (by rw [aU])) (.nil _)))))))))), fun w h => h.sel 4 [1, 2, 3, 0] rfl⟩
           | exact ⟨(C.on, T2, FM, DF, M, ill), ⟨hC.on, eO, K9⟩, .cons rfl (.cons rfl (.cons rfl (.cons rfl (.cons rfl (.cons rfl (.cons rfl (.cons rfl (.cons rfl (.cons (look_eq rfl (by rw [aU])) (.nil _)))))))))), fun w h => h.sel 6 [0, 1, 2, 5] rfl⟩
           | exact ⟨(C2, T, bs, bd, M, ill.set k0 true), ⟨hC2, hT, Kw⟩, .cons rfl (.cons rfl (.cons rfl (.cons rfl (.cons rfl (.cons rfl (.cons rfl (.cons rfl (.cons rfl (.cons (look_eq rfl (by rw [aU])) (.nil _)))))))))), fun w h => h⟩
           | exact ⟨(C2, T, bs, bd, M, ill), ⟨hC2, hT, Ke⟩, .cons rfl (.cons rfl (.cons rfl (.cons rfl (.cons rfl (.cons rfl (.cons rfl (.cons rfl (.cons rfl (.cons (look_eq rfl (by rw [aU])) (.nil _)))))))))), fun w h => h⟩
           | exact ⟨(C2, T, bs, bd, M, ill), ⟨hC2, hT, J2⟩, .cons rfl (.cons rfl (.cons rfl (.cons rfl (.cons rfl (.cons rfl (.cons rfl (.cons rfl (.cons rfl (.cons (look_eq rfl (by rw [aU])) (.nil _)))))))))), fun w h => h.sel 4 [0, 2, 3] rfl⟩
           | exact ⟨(C, T, bs, bd, M, ill), ⟨hC, hT, hI.stay⟩, .cons rfl (.cons rfl (.cons rfl (.cons rfl (.cons rfl (.cons rfl (.cons rfl (.cons rfl (.cons rfl (.cons (look_eq rfl (by rw [aU])) (.nil _)))))))))), fun w h => h.sel 6 [1, 2, 3, 4, 5, 0] rfl⟩
          ·simp only [Bool.and_eq_true, Bool.and_eq_false_iff, decide_eq_true_eq, decide_eq_false_iff_not] at Qf
           have h9 := Qf
           have hput : e = 0 ∧ ∀ M' : Mw, M'.sem = M.sem.put i0 (some o.dx) → M'.has.length = nl → M'.dat.length = nl → sF nl g (i + 1) C2.sem T2.sem M' ill := by
             rcases hout with ⟨h1, h2, _⟩ | h
             · exfalso
               rcases h9 with h | h
               · exact h h1
               · omega
             · exact h
           have he0 := hput.1
           refine WC.skip (WC.seq (WC.sr (WL.mv rfl rfl (WL.val (V.neq (OV.p rfl) (OV.p rfl)) rfl (WL.mv rfl rfl (WL.av (oj := _) rfl rfl rfl GC.f (V.move (OV.p rfl)) rfl ?_))))))
           refine WL.av (oj := _) rfl rfl rfl GC.f (V.lI (xs := aT o.dx) Tryz.underlying43 Tryz.underlying5 Tryz.underlying9 (OV.g rfl id) (fun _ => by rw [← fH]; repeat (first | exact F4 | apply Seq.up))) rfl ?_
           refine WL.av (oj := _) rfl rfl rfl GC.f (V.fieldAddr zJ (OV.p rfl)) rfl ?_
           refine WL.av (oj := _) rfl rfl rfl GC.f (V.load Tryz.isAgg43 (OV.g rfl id) (fun _ => by repeat (first | exact Rd.here rfl | apply Rd.up))) rfl ?_
           refine WL.av (oj := _) rfl rfl rfl GC.f (V.lI (xs := aT o.dx) Tryz.underlying43 Tryz.underlying5 Tryz.underlying9 (OV.g rfl id) (fun _ => by rw [← fH]; repeat (first | exact ho.data | apply Seq.up))) rfl ?_
           refine WL.av (oj := _) rfl rfl rfl GC.f (V.RD (OV.g rfl id) (OV.g rfl id)) rfl (WL.val (V.bK (OV.p rfl) (OV.g rfl id)) rfl (WL.nil ?_))
           refine WC.aS rfl ((by rw [he0]; simp)) ?_
           refine WC.skip (WC.region ?_)
           refine WL.val (V.bB (vs := M.cells) ⟨Tryz.isAgg40, Tryz.sizeOf40⟩ (OV.p rfl) rfl (fun _ => by repeat (first | exact bA.gets ⟨rfl, rfl, trivial⟩ | apply bA.up))) rfl ?_
           refine WL.val (V.fieldAddr rZ (OV.p rfl)) rfl (WL.ld Tryz.isAgg3 rfl rfl ?_)
           refine WL.val (V.fieldAddr zJ (OV.p rfl)) rfl (WL.ld Tryz.isAgg43 rfl rfl ?_)
           refine WL.val (V.lI (xs := aT o.dx) Tryz.underlying43 Tryz.underlying5 Tryz.underlying9 (OV.p rfl) (fun _ => by rw [← fH]; repeat (first | exact ho.data | apply Seq.up))) rfl ?_
           refine WL.call (vs := [_, _, _]) Tryz.call21 ⟨OV.p rfl, OV.p rfl, OV.p rfl, trivial⟩ (Iy (M := M) (aC := o.aC) (by omega) (by omega) (strOfNums (aT o.dx))) rfl ?_
           rintro _ _ rfl
           obtain ⟨M3, KT⟩ : ∃ M3 : Mw, M3 = { M with has := M.has.set o.aC.toNat true, dat := M.dat.set o.aC.toNat (strOfNums (aT o.dx)) } := ⟨_, rfl⟩
           have hcl : M.cells = M3.cells := by rw [KT]; dsimp only [Mw.cells]; rw [List.length_set, List.length_set]
           have Q8 : M3.sem = M.sem.put i0 (some o.dx) := by
             rw [KT, hi0, Int.toNat_natCast, HZ M (by omega) (by omega), C8 ho.d8, if_pos rfl]
           have hJ3 := hput.2 M3 Q8 (by rw [KT]; dsimp only; rw [List.length_set]; exact hlh) (by rw [KT]; dsimp only; rw [List.length_set]; exact hld)
           rw [← KT, hcl]
           refine WL.nil ?_
           refine ⟨rfl, ?_⟩
           first
           | exact ⟨(C2, T2, bs, bd, M, ill), ⟨hC2, eO, JV⟩, .cons rfl (.cons rfl (.cons rfl (.cons rfl (.cons rfl (.cons rfl (.cons rfl (.cons rfl (.cons rfl (.cons (look_eq rfl (by rw [aU])) (.nil _)))))))))), fun w h => h.sel 4 [1, 2, 0] rfl⟩
           | exact ⟨(C2, T2, bs, bd, M, ill), ⟨hC2, eO, hJ2⟩, .cons rfl (.cons rfl (.cons rfl (.cons rfl (.cons rfl (.cons rfl (.cons rfl (.cons rfl (.cons rfl (.cons (look_eq rfl (by rw [aU])) (.nil _)))))))))), fun w h => h.sel 5 [2, 3, 1, 0] rfl⟩
           | exact ⟨(C2, T2, bs, bd, M3, ill), ⟨hC2, eO, hJ3⟩, .cons rfl (.cons rfl (.cons rfl (.cons rfl (.cons rfl (.cons rfl (.cons rfl (.cons rfl (.cons rfl (.cons (look_eq rfl (by rw [aU])) (.nil _)))))))))), fun w h => h.sel 5 [2, 3, 1, 0] rfl⟩
           | exact ⟨(C2, T2, bs, bd, M, ill), ⟨hC2, eO, KC⟩, .cons rfl (.cons rfl (.cons rfl (.cons rfl (.cons rfl (.cons rfl (.cons rfl (.cons rfl (.cons rfl (.cons (look_eq rfl (by rw [aU])) (.nil _)))))))))), fun w h => h⟩
           | exact ⟨(C2, T2, bs, bd, M3, ill), ⟨hC2, eO, Me⟩, .cons rfl (.cons rfl (.cons rfl (.cons rfl (.cons rfl (.cons rfl (.cons rfl (.cons rfl (.cons rfl (.cons (look_eq rfl (by rw [aU])) (.nil _)))))))))), fun w h => h.sel 4 [1, 2, 3, 0] rfl⟩
           | exact ⟨(C.on, T2, FM, DF, M, ill), ⟨hC.on, eO, K9⟩, .cons rfl (.cons rfl (.cons rfl (.cons rfl (.cons rfl (.cons rfl (.cons rfl (.cons rfl (.cons rfl (.cons (look_eq rfl (by rw [aU])) (.nil _)))))))))), fun w h => h.sel 6 [0, 1, 2, 5] rfl⟩
           | exact ⟨(C2, T, bs, bd, M, ill.set k0 true), ⟨hC2, hT, Kw⟩, .cons rfl (.cons rfl (.cons rfl (.cons rfl (.cons rfl (.cons rfl (.cons rfl (.cons rfl (.cons rfl (.cons (look_eq rfl (by rw [aU])) (.nil _)))))))))), fun w h => h⟩
           | exact ⟨(C2, T, bs, bd, M, ill), ⟨hC2, hT, Ke⟩, .cons rfl (.cons rfl (.cons rfl (.cons rfl (.cons rfl (.cons rfl (.cons rfl (.cons rfl (.cons rfl (.cons (look_eq rfl (by rw [aU])) (.nil _)))))))))), fun w h => h⟩
           | exact ⟨(C2, T, bs, bd, M, ill), ⟨hC2, hT, J2⟩, .cons rfl (.cons rfl (.cons rfl (.cons rfl (.cons rfl (.cons rfl (.cons rfl (.cons rfl (.cons rfl (.cons (look_eq rfl (by rw [aU])) (.nil _)))))))))), fun w h => h.sel 4 [0, 2, 3] rfl⟩
           | exact ⟨(C, T, bs, bd, M, ill), ⟨hC, hT, hI.stay⟩, .cons rfl (.cons rfl (.cons rfl (.cons rfl (.cons rfl (.cons rfl (.cons rfl (.cons rfl (.cons rfl (.cons (look_eq rfl (by rw [aU])) (.nil _)))))))))), fun w h => h.sel 6 [1, 2, 3, 4, 5, 0] rfl⟩
        ·try simp only [decide_eq_true_eq, decide_eq_false_iff_not, Bool.and_eq_true, Bool.or_eq_true, Bool.and_eq_false_iff, Bool.or_eq_false_iff, Bool.not_eq_true', Bool.not_eq_false', Bool.not_eq_true, Bool.not_eq_false, Int.not_lt, Int.not_le] at mP
         refine WC.sr (WL.val (V.eql (OV.p rfl) (OV.p rfl)) rfl (WL.sg rfl rfl (WL.nil ?_)))
         refine WC.cond rfl (fun Pn => ?_) (fun Pn => ?_)
         ·try simp only [decide_eq_true_eq, decide_eq_false_iff_not, Bool.and_eq_true, Bool.or_eq_true, Bool.and_eq_false_iff, Bool.or_eq_false_iff, Bool.not_eq_true', Bool.not_eq_false', Bool.not_eq_true, Bool.not_eq_false, Int.not_lt, Int.not_le] at Pn
          refine WC.sr (WL.mv rfl rfl (WL.val (V.fieldAddr rZ (OV.p rfl)) rfl (WL.ld Tryz.isAgg3 rfl rfl ?_)))
          refine WL.sub (H' := C.A bc :: bO bd bc g :: T.A bs bd g :: M.A :: Cells b13 4 (bools ill) :: Cells b16 45 o.cells :: Cells b12 40 M.cells :: Cells b4 23 [.int .i64 g.bl, .int .i64 g.pg, .int .i64 g.se, .int .i64 g.sb, .int .i64 g.fl] :: F) (Sub.refl _) (fun w h => h.sel 6 [1, 2, 3, 4, 5, 0] rfl) ?_
          refine WL.call (vs := [_, _]) Tryz.call22 ⟨OV.p rfl, OV.p rfl, trivial⟩ (w9 hC hg' hT o.aC (fun l hl' => Nat.le_trans (hlong l hl') (by decide))) rfl ?_
          rintro v0 _ ⟨C2, T2, hC2, g2, eO, s2, t2, rfl, rfl⟩
          obtain ⟨e, he⟩ : ∃ e, e = (bV C.sem T.sem o.aC).2.2 := ⟨_, rfl⟩
          rw [← he]
          refine WL.sg rfl rfl (WL.nil (WC.seq (WC.sr (WL.mv rfl rfl (WL.val (V.not (OV.p rfl)) rfl (WL.nil ?_))))))
          refine WC.cond rfl (fun Kj => ?_) (fun Kj => ?_)
          ·simp only [Bool.not_eq_true', Bool.not_eq_false'] at Kj
           have h12 := Kj
           rw [← aU] at h12
           have hun := JL (S := C.sem) (BU Mk (QH.1 h12))
           rw [hun] at he s2 t2
           have KC : sF nl g (i + 1) C2.sem T2.sem M ill := by rw [s2, t2]; exact hI.stay
           refine WC.seq (WC.sr (WL.mv rfl rfl (WL.val (V.neq (OV.p rfl) (OV.p rfl)) rfl (WL.nil ?_))))
           refine WC.aS rfl ((by rw [he]; rfl)) ?_
           refine WC.skip (WC.exit ?_)
           refine ⟨rfl, ?_⟩
           first
           | exact ⟨(C2, T2, bs, bd, M, ill), ⟨hC2, eO, JV⟩, .cons rfl (.cons rfl (.cons rfl (.cons rfl (.cons rfl (.cons rfl (.cons rfl (.cons rfl (.cons rfl (.cons (look_eq rfl (by rw [aU])) (.nil _)))))))))), fun w h => h.sel 4 [1, 2, 0] rfl⟩
           | exact ⟨(C2, T2, bs, bd, M, ill), ⟨hC2, eO, hJ2⟩, .cons rfl (.cons rfl (.cons rfl (.cons rfl (.cons rfl (.cons rfl (.cons rfl (.cons rfl (.cons rfl (.cons (look_eq rfl (by rw [aU])) (.nil _)))))))))), fun w h => h.sel 5 [2, 3, 1, 0] rfl⟩
           | exact ⟨(C2, T2, bs, bd, M3, ill), ⟨hC2, eO, hJ3⟩, .cons rfl (.cons rfl (.cons rfl (.cons rfl (.cons rfl (.cons rfl (.cons rfl (.cons rfl (.cons rfl (.cons (look_eq rfl (by rw [aU])) (.nil _)))))))))), fun w h => h.sel 5 [2, 3, 1, 0] rfl⟩
           | exact ⟨(C2, T2, bs, bd, M, ill), ⟨hC2, eO, KC⟩, .cons rfl (.cons rfl (.cons rfl (.cons rfl (.cons rfl (.cons rfl (.cons rfl (.cons rfl (.cons rfl (.cons (look_eq rfl (by rw [aU])) (.nil _)))))))))), fun w h => h⟩
           | exact ⟨(C2, T2, bs, bd, M3, ill), ⟨hC2, eO, Me⟩, .cons rfl (.cons rfl (.cons rfl (.cons rfl (.cons rfl (.cons rfl (.cons rfl (.cons rfl (.cons rfl (.cons (look_eq rfl (by rw [aU])) (.nil _)))))))))), fun w h => h.sel 4 [1, 2, 3, 0] rfl⟩
           | exact ⟨(C.on, T2, FM, DF, M, ill), ⟨hC.on, eO, K9⟩, .cons rfl (.cons rfl (.cons rfl (.cons rfl (.cons rfl (.cons rfl (.cons rfl (.cons rfl (.cons rfl (.cons (look_eq rfl (by rw [aU])) (.nil _)))))))))), fun w h => h.sel 6 [0, 1, 2, 5] rfl⟩
           | exact ⟨(C2, T, bs, bd, M, ill.set k0 true), ⟨hC2, hT, Kw⟩, .cons rfl (.cons rfl (.cons rfl (.cons rfl (.cons rfl (.cons rfl (.cons rfl (.cons rfl (.cons rfl (.cons (look_eq rfl (by rw [aU])) (.nil _)))))))))), fun w h => h⟩
           | exact ⟨(C2, T, bs, bd, M, ill), ⟨hC2, hT, Ke⟩, .cons rfl (.cons rfl (.cons rfl (.cons rfl (.cons rfl (.cons rfl (.cons rfl (.cons rfl (.cons rfl (.cons (look_eq rfl (by rw [aU])) (.nil _)))))))))), fun w h => h⟩
           | exact ⟨(C2, T, bs, bd, M, ill), ⟨hC2, hT, J2⟩, .cons rfl (.cons rfl (.cons rfl (.cons rfl (.cons rfl (.cons rfl (.cons rfl (.cons rfl (.cons rfl (.cons (look_eq rfl (by rw [aU])) (.nil _)))))))))), fun w h => h.sel 4 [0, 2, 3] rfl⟩
           | exact ⟨(C, T, bs, bd, M, ill), ⟨hC, hT, hI.stay⟩, .cons rfl (.cons rfl (.cons rfl (.cons rfl (.cons rfl (.cons rfl (.cons rfl (.cons rfl (.cons rfl (.cons (look_eq rfl (by rw [aU])) (.nil _)))))))))), fun w h => h.sel 6 [1, 2, 3, 4, 5, 0] rfl⟩
          ·simp only [Bool.not_eq_true', Bool.not_eq_false'] at Kj
           have h12 := Kj
           rw [← aU] at h12
           have hq3 := hin.1 h12
           obtain ⟨i0, hi0⟩ : ∃ i0 : Nat, o.aC = (i0 : Int) := ⟨o.aC.toNat, by omega⟩
           have hput := hI.unmap (i0 := i0) (by omega)
           rw [← hi0, ← he, ← s2, ← t2] at hput
           have he0 := hput.1
           refine WC.skip (WC.seq (WC.sr (WL.mv rfl rfl (WL.val (V.neq (OV.p rfl) (OV.p rfl)) rfl (WL.nil ?_)))))
           refine WC.aS rfl ((by rw [he0]; rfl)) ?_
           refine WC.skip (WC.region ?_)
           refine WL.val (V.bB (vs := M.cells) ⟨Tryz.isAgg40, Tryz.sizeOf40⟩ (OV.p rfl) rfl (fun _ => by repeat (first | exact bA.gets ⟨rfl, rfl, trivial⟩ | apply bA.up))) rfl ?_
           refine WL.val (V.fieldAddr rZ (OV.p rfl)) rfl (WL.ld Tryz.isAgg3 rfl rfl ?_)
           refine WL.sub (Sub.refl _) (fun w h => h.sel 4 [3, 0, 1, 2] rfl) ?_
           refine WL.call (vs := [_, _]) Tryz.call23 ⟨OV.p rfl, OV.p rfl, trivial⟩ (G6 (M := M) (aC := o.aC) (by omega) (by omega)) rfl ?_
           rintro _ _ ⟨sD, rfl⟩
           obtain ⟨M3, KT⟩ : ∃ M3 : Mw, M3 = { M with has := M.has.set o.aC.toNat false, dat := M.dat.set o.aC.toNat sD } := ⟨_, rfl⟩
           have hcl : M.cells = M3.cells := by rw [KT]; dsimp only [Mw.cells]; rw [List.length_set, List.length_set]
           have Q8 : M3.sem = M.sem.put i0 none := by
             rw [KT, hi0, Int.toNat_natCast, HZ M (by omega) (by omega), if_neg Bool.false_ne_true]
           have Me := hput.2 M3 Q8 (by rw [KT]; dsimp only; rw [List.length_set]; exact hlh) (by rw [KT]; dsimp only; rw [List.length_set]; exact hld)
           rw [← KT, hcl]
           refine WL.nil ?_
           refine ⟨rfl, ?_⟩
           first
           | exact ⟨(C2, T2, bs, bd, M, ill), ⟨hC2, eO, JV⟩, .cons rfl (.cons rfl (.cons rfl (.cons rfl (.cons rfl (.cons rfl (.cons rfl (.cons rfl (.cons rfl (.cons (look_eq rfl (by rw [aU])) (.nil _)))))))))), fun w h => h.sel 4 [1, 2, 0] rfl⟩
           | exact ⟨(C2, T2, bs, bd, M, ill), ⟨hC2, eO, hJ2⟩, .cons rfl (.cons rfl (.cons rfl (.cons rfl (.cons rfl (.cons rfl (.cons rfl (.cons rfl (.cons rfl (.cons (look_eq rfl (by rw [aU])) (.nil _)))))))))), fun w h => h.sel 5 [2, 3, 1, 0] rfl⟩
           | exact ⟨(C2, T2, bs, bd, M3, ill), ⟨hC2, eO, hJ3⟩, .cons rfl (.cons rfl (.cons rfl (.cons rfl (.cons rfl (.cons rfl (.cons rfl (.cons rfl (.cons rfl (.cons (look_eq rfl (by rw [aU])) (.nil _)))))))))), fun w h => h.sel 5 [2, 3, 1, 0] rfl⟩
           | exact ⟨(C2, T2, bs, bd, M, ill), ⟨hC2, eO, KC⟩, .cons rfl (.cons rfl (.cons rfl (.cons rfl (.cons rfl (.cons rfl (.cons rfl (.cons rfl (.cons rfl (.cons (look_eq rfl (by rw [aU])) (.nil _)))))))))), fun w h => h⟩
           | exact ⟨(C2, T2, bs, bd, M3, ill), ⟨hC2, eO, Me⟩, .cons rfl (.cons rfl (.cons rfl (.cons rfl (.cons rfl (.cons rfl (.cons rfl (.cons rfl (.cons rfl (.cons (look_eq rfl (by rw [aU])) (.nil _)))))))))), fun w h => h.sel 4 [1, 2, 3, 0] rfl⟩
           | exact ⟨(C.on, T2, FM, DF, M, ill), ⟨hC.on, eO, K9⟩, .cons rfl (.cons rfl (.cons rfl (.cons rfl (.cons rfl (.cons rfl (.cons rfl (.cons rfl (.cons rfl (.cons (look_eq rfl (by rw [aU])) (.nil _)))))))))), fun w h => h.sel 6 [0, 1, 2, 5] rfl⟩
           | exact ⟨(C2, T, bs, bd, M, ill.set k0 true), ⟨hC2, hT, Kw⟩, .cons rfl (.cons rfl (.cons rfl (.cons rfl (.cons rfl (.cons rfl (.cons rfl (.cons rfl (.cons rfl (.cons (look_eq rfl (by rw [aU])) (.nil _)))))))))), fun w h => h⟩
           | exact ⟨(C2, T, bs, bd, M, ill), ⟨hC2, hT, Ke⟩, .cons rfl (.cons rfl (.cons rfl (.cons rfl (.cons rfl (.cons rfl (.cons rfl (.cons rfl (.cons rfl (.cons (look_eq rfl (by rw [aU])) (.nil _)))))))))), fun w h => h⟩
           | exact ⟨(C2, T, bs, bd, M, ill), ⟨hC2, hT, J2⟩, .cons rfl (.cons rfl (.cons rfl (.cons rfl (.cons rfl (.cons rfl (.cons rfl (.cons rfl (.cons rfl (.cons (look_eq rfl (by rw [aU])) (.nil _)))))))))), fun w h => h.sel 4 [0, 2, 3] rfl⟩
           | exact ⟨(C, T, bs, bd, M, ill), ⟨hC, hT, hI.stay⟩, .cons rfl (.cons rfl (.cons rfl (.cons rfl (.cons rfl (.cons rfl (.cons rfl (.cons rfl (.cons rfl (.cons (look_eq rfl (by rw [aU])) (.nil _)))))))))), fun w h => h.sel 6 [1, 2, 3, 4, 5, 0] rfl⟩
         ·try simp only [decide_eq_true_eq, decide_eq_false_iff_not, Bool.and_eq_true, Bool.or_eq_true, Bool.and_eq_false_iff, Bool.or_eq_false_iff, Bool.not_eq_true', Bool.not_eq_false', Bool.not_eq_true, Bool.not_eq_false, Int.not_lt, Int.not_le] at Pn
          refine WC.sr (WL.val (V.eql (OV.p rfl) (OV.p rfl)) rfl (WL.sg rfl rfl (WL.nil ?_)))
          refine WC.cond rfl (fun OQ => ?_) (fun OQ => ?_)
          ·try simp only [decide_eq_true_eq, decide_eq_false_iff_not, Bool.and_eq_true, Bool.or_eq_true, Bool.and_eq_false_iff, Bool.or_eq_false_iff, Bool.not_eq_true', Bool.not_eq_false', Bool.not_eq_true, Bool.not_eq_false, Int.not_lt, Int.not_le] at OQ
           refine WC.sr (WL.mv rfl rfl (WL.mv rfl rfl ?_))
           refine WL.sub (H' := C.A bc :: bO bd bc g :: T.A bs bd g :: M.A :: Cells b13 4 (bools ill) :: Cells b16 45 o.cells :: Cells b12 40 M.cells :: Cells b4 23 [.int .i64 g.bl, .int .i64 g.pg, .int .i64 g.se, .int .i64 g.sb, .int .i64 g.fl] :: F) (Sub.refl _) (fun w h => h.sel 6 [1, 2, 3, 4, 5, 0] rfl) ?_
           refine WL.call (vs := [_, _]) Tryz.call12 ⟨OV.p rfl, OV.p rfl, trivial⟩ (tH (g := g) hC hg' (au := nl) (by omega) (by omega)) rfl ?_
           rintro _ _ ⟨DF, FM, T2, eO, t2, rfl, rfl⟩
           have oC : C.on.sem = C.sem := Dk hI.up
           have K9 : sF nl g (i + 1) C.on.sem T2.sem M ill := by rw [t2, oC]; exact hI.opened.stay
           refine WL.sg rfl rfl (WL.nil (WC.sr (WL.mv rfl rfl (WL.val (V.su Tryz.underlying33 (OV.p rfl) (OV.p rfl)) rfl (WL.nil ?_)))))
           refine WC.aS rfl (by first | rfl | (simp; done) | (simp; omega)) ?_
           refine WC.skip ?_
           refine ⟨rfl, ?_⟩
           first
           | exact ⟨(C2, T2, bs, bd, M, ill), ⟨hC2, eO, JV⟩, .cons rfl (.cons rfl (.cons rfl (.cons rfl (.cons rfl (.cons rfl (.cons rfl (.cons rfl (.cons rfl (.cons (look_eq rfl (by rw [aU])) (.nil _)))))))))), fun w h => h.sel 4 [1, 2, 0] rfl⟩
           | exact ⟨(C2, T2, bs, bd, M, ill), ⟨hC2, eO, hJ2⟩, .cons rfl (.cons rfl (.cons rfl (.cons rfl (.cons rfl (.cons rfl (.cons rfl (.cons rfl (.cons rfl (.cons (look_eq rfl (by rw [aU])) (.nil _)))))))))), fun w h => h.sel 5 [2, 3, 1, 0] rfl⟩
           | exact ⟨(C2, T2, bs, bd, M3, ill), ⟨hC2, eO, hJ3⟩, .cons rfl (.cons rfl (.cons rfl (.cons rfl (.cons rfl (.cons rfl (.cons rfl (.cons rfl (.cons rfl (.cons (look_eq rfl (by rw [aU])) (.nil _)))))))))), fun w h => h.sel 5 [2, 3, 1, 0] rfl⟩
           | exact ⟨(C2, T2, bs, bd, M, ill), ⟨hC2, eO, KC⟩, .cons rfl (.cons rfl (.cons rfl (.cons rfl (.cons rfl (.cons rfl (.cons rfl (.cons rfl (.cons rfl (.cons (look_eq rfl (by rw [aU])) (.nil _)))))))))), fun w h => h⟩
           | exact ⟨(C2, T2, bs, bd, M3, ill), ⟨hC2, eO, Me⟩, .cons rfl (.cons rfl (.cons rfl (.cons rfl (.cons rfl (.cons rfl (.cons rfl (.cons rfl (.cons rfl (.cons (look_eq rfl (by rw [aU])) (.nil _)))))))))), fun w h => h.sel 4 [1, 2, 3, 0] rfl⟩
           | exact ⟨(C.on, T2, FM, DF, M, ill), ⟨hC.on, eO, K9⟩, .cons rfl (.cons rfl (.cons rfl (.cons rfl (.cons rfl (.cons rfl (.cons rfl (.cons rfl (.cons rfl (.cons (look_eq rfl (by rw [aU])) (.nil _)))))))))), fun w h => h.sel 6 [0, 1, 2, 5] rfl⟩
           | exact ⟨(C2, T, bs, bd, M, ill.set k0 true), ⟨hC2, hT, Kw⟩, .cons rfl (.cons rfl (.cons rfl (.cons rfl (.cons rfl (.cons rfl (.cons rfl (.cons rfl (.cons rfl (.cons (look_eq rfl (by rw [aU])) (.nil _)))))))))), fun w h => h⟩
           | exact ⟨(C2, T, bs, bd, M, ill), ⟨hC2, hT, Ke⟩, .cons rfl (.cons rfl (.cons rfl (.cons rfl (.cons rfl (.cons rfl (.cons rfl (.cons rfl (.cons rfl (.cons (look_eq rfl (by rw [aU])) (.nil _)))))))))), fun w h => h⟩
           | exact ⟨(C2, T, bs, bd, M, ill), ⟨hC2, hT, J2⟩, .cons rfl (.cons rfl (.cons rfl (.cons rfl (.cons rfl (.cons rfl (.cons rfl (.cons rfl (.cons rfl (.cons (look_eq rfl (by rw [aU])) (.nil _)))))))))), fun w h => h.sel 4 [0, 2, 3] rfl⟩
           | exact ⟨(C, T, bs, bd, M, ill), ⟨hC, hT, hI.stay⟩, .cons rfl (.cons rfl (.cons rfl (.cons rfl (.cons rfl (.cons rfl (.cons rfl (.cons rfl (.cons rfl (.cons (look_eq rfl (by rw [aU])) (.nil _)))))))))), fun w h => h.sel 6 [1, 2, 3, 4, 5, 0] rfl⟩
          ·try simp only [decide_eq_true_eq, decide_eq_false_iff_not, Bool.and_eq_true, Bool.or_eq_true, Bool.and_eq_false_iff, Bool.or_eq_false_iff, Bool.not_eq_true', Bool.not_eq_false', Bool.not_eq_true, Bool.not_eq_false, Int.not_lt, Int.not_le] at OQ
           refine WC.sr (WL.val (V.eql (OV.p rfl) (OV.p rfl)) rfl (WL.sg rfl rfl (WL.nil ?_)))
           refine WC.cond rfl (fun hc17 => ?_) (fun hc17 => ?_)
           ·try simp only [decide_eq_true_eq, decide_eq_false_iff_not, Bool.and_eq_true, Bool.or_eq_true, Bool.and_eq_false_iff, Bool.or_eq_false_iff, Bool.not_eq_true', Bool.not_eq_false', Bool.not_eq_true, Bool.not_eq_false, Int.not_lt, Int.not_le] at hc17
            refine WC.sr (WL.mv rfl rfl (WL.val (V.fieldAddr yI (OV.p rfl)) rfl (WL.ld Tryz.isAgg3 rfl rfl ?_)))
            refine WL.sub (H' := C.A bc :: bO bd bc g :: T.A bs bd g :: M.A :: Cells b13 4 (bools ill) :: Cells b16 45 o.cells :: Cells b12 40 M.cells :: Cells b4 23 [.int .i64 g.bl, .int .i64 g.pg, .int .i64 g.se, .int .i64 g.sb, .int .i64 g.fl] :: F) (Sub.refl _) (fun w h => h.sel 6 [1, 2, 3, 4, 5, 0] rfl) ?_
            refine WL.call (vs := [_, _]) Tryz.call24 ⟨OV.p rfl, OV.p rfl, trivial⟩ (Gz hC hg' o.block) rfl ?_
            rintro _ _ ⟨C2, hC2, g2, rfl, s2⟩
            have PX : (C.sem.weaken o.block).up = true := by unfold ah.weaken; split <;> exact hI.up
            have Qv : (C.sem.weaken o.block).left = 0 := by unfold ah.weaken; split <;> exact hI.left
            refine WL.nil (WC.sr (WL.val (V.fieldAddr yI (OV.p rfl)) rfl (WL.ld Tryz.isAgg3 rfl rfl ?_)))
            refine WL.val (V.geq (OV.p rfl) (OV.p rfl)) rfl (WL.mv rfl rfl (WL.av (oj := _) rfl rfl rfl GC.t (V.fieldAddr yI (OV.p rfl)) rfl ?_))
            refine WL.av (oj := _) rfl rfl rfl GC.t (V.load Tryz.isAgg3 (OV.g rfl id) (fun _ => by repeat (first | exact Rd.here rfl | apply Rd.up))) rfl ?_
            refine WL.av (oj := _) rfl rfl rfl GC.t (V.fieldAddr iV (OV.p rfl)) rfl ?_
            refine WL.av (oj := _) rfl rfl rfl GC.t (V.load Tryz.isAgg3 (OV.g rfl id) (fun _ => by repeat (first | exact Rd.here rfl | apply Rd.up))) rfl ?_
            refine WL.av (oj := _) rfl rfl rfl GC.t (V.lss (OV.g rfl id) (OV.g rfl id)) rfl (WL.val (V.aI (OV.p rfl) (OV.g rfl id)) rfl (WL.nil ?_))
            refine WC.cond rfl (fun hc18 => ?_) (fun hc18 => ?_)
            ·simp only [Bool.and_eq_true, Bool.and_eq_false_iff, decide_eq_true_eq, decide_eq_false_iff_not] at hc18
             have h18 := hc18
             obtain ⟨k0, hk0⟩ : ∃ k0 : Nat, o.block = (k0 : Int) := ⟨o.block.toNat, by omega⟩
             have Uk : k0 < ib := by omega
             have Kw : sF nl g (i + 1) C2.sem T.sem M (ill.set k0 true) := by
               rw [s2]
               refine hI.turn (ah.tO.weaken _ _) PX Qv (by rw [List.length_set]; exact Kl) ?_
               rw [hk0]
               exact Ng Kl hI.ill (by omega)
             refine WC.region (WL.mv rfl rfl (WL.val (V.fieldAddr yI (OV.p rfl)) rfl (WL.ld Tryz.isAgg3 rfl rfl ?_)))
             refine WL.val (V.bM Gd (OV.p rfl) (OV.p rfl) (fun hc => by omega)) rfl ?_
             refine WL.store (cs := [_]) Tryz.sizeOf4 (OV.p rfl) (OV.p rfl) rfl rfl rfl (bD.up (bD.up (bD.up (bD.up (bD.at_ (by rw [jA]; omega)))))) ?_
             rw [show 0 + o.block.toNat * 1 = k0 by omega, show (bools ill).set k0 (.bool true) = bools (ill.set k0 true) by unfold bools; rw [List.map_set]]
             refine WL.nil ?_
             refine ⟨rfl, ?_⟩
             first
             | exact ⟨(C2, T2, bs, bd, M, ill), ⟨hC2, eO, JV⟩, .cons rfl (.cons rfl (.cons rfl (.cons rfl (.cons rfl (.cons rfl (.cons rfl (.cons rfl (.cons rfl (.cons (look_eq rfl (by rw [aU])) (.nil _)))))))))), fun w h => h.sel 4 [1, 2, 0] rfl⟩
             | exact ⟨(C2, T2, bs, bd, M, ill), ⟨hC2, eO, hJ2⟩, .cons rfl (.cons rfl (.cons rfl (.cons rfl (.cons rfl (.cons rfl (.cons rfl (.cons rfl (.cons rfl (.cons (look_eq rfl (by rw [aU])) (.nil _)))))))))), fun w h => h.sel 5 [2, 3, 1, 0] rfl⟩
             | exact ⟨(C2, T2, bs, bd, M3, ill), ⟨hC2, eO, hJ3⟩, .cons rfl (.cons rfl (.cons rfl (.cons rfl (.cons rfl (.cons rfl (.cons rfl (.cons rfl (.cons rfl (.cons (look_eq rfl (by rw [aU])) (.nil _)))))))))), fun w h => h.sel 5 [2, 3, 1, 0] rfl⟩
             | exact ⟨(C2, T2, bs, bd, M, ill), ⟨hC2, eO, KC⟩, .cons rfl (.cons rfl (.cons rfl (.cons rfl (.cons rfl (.cons rfl (.cons rfl (.cons rfl (.cons rfl (.cons (look_eq rfl (by rw [aU])) (.nil _)))))))))), fun w h => h⟩
             | exact ⟨(C2, T2, bs, bd, M3, ill), ⟨hC2, eO, Me⟩, .cons rfl (.cons rfl (.cons rfl (.cons rfl (.cons rfl (.cons rfl (.cons rfl (.cons rfl (.cons rfl (.cons (look_eq rfl (by rw [aU])) (.nil _)))))))))), fun w h => h.sel 4 [1, 2, 3, 0] rfl⟩
             | exact ⟨(C.on, T2, FM, DF, M, ill), ⟨hC.on, eO, K9⟩, .cons rfl (.cons rfl (.cons rfl (.cons rfl (.cons rfl (.cons rfl (.cons rfl (.cons rfl (.cons rfl (.cons (look_eq rfl (by rw [aU])) (.nil _)))))))))), fun w h => h.sel 6 [0, 1, 2, 5] rfl⟩
             | exact ⟨(C2, T, bs, bd, M, ill.set k0 true), ⟨hC2, hT, Kw⟩, .cons rfl (.cons rfl (.cons rfl (.cons rfl (.cons rfl (.cons rfl (.cons rfl (.cons rfl (.cons rfl (.cons (look_eq rfl (by rw [aU])) (.nil _)))))))))), fun w h => h⟩
             | exact ⟨(C2, T, bs, bd, M, ill), ⟨hC2, hT, Ke⟩, .cons rfl (.cons rfl (.cons rfl (.cons rfl (.cons rfl (.cons rfl (.cons rfl (.cons rfl (.cons rfl (.cons (look_eq rfl (by rw [aU])) (.nil _)))))))))), fun w h => h⟩
             | exact ⟨(C2, T, bs, bd, M, ill), ⟨hC2, hT, J2⟩, .cons rfl (.cons rfl (.cons rfl (.cons rfl (.cons rfl (.cons rfl (.cons rfl (.cons rfl (.cons rfl (.cons (look_eq rfl (by rw [aU])) (.nil _)))))))))), fun w h => h.sel 4 [0, 2, 3] rfl⟩
             | exact ⟨(C, T, bs, bd, M, ill), ⟨hC, hT, hI.stay⟩, .cons rfl (.cons rfl (.cons rfl (.cons rfl (.cons rfl (.cons rfl (.cons rfl (.cons rfl (.cons rfl (.cons (look_eq rfl (by rw [aU])) (.nil _)))))))))), fun w h => h.sel 6 [1, 2, 3, 4, 5, 0] rfl⟩
            ·simp only [Bool.and_eq_true, Bool.and_eq_false_iff, decide_eq_true_eq, decide_eq_false_iff_not] at hc18
             have h18 := hc18
             have Ke : sF nl g (i + 1) C2.sem T.sem M ill := by
               rw [s2]
               exact hI.turn (ah.tO.weaken _ _) PX Qv Kl (MS hI.ill (by omega))
             refine WC.skip ?_
             refine ⟨rfl, ?_⟩
             first
             | exact ⟨(C2, T2, bs, bd, M, ill), ⟨hC2, eO, JV⟩, .cons rfl (.cons rfl (.cons rfl (.cons rfl (.cons rfl (.cons rfl (.cons rfl (.cons rfl (.cons rfl (.cons (look_eq rfl (by rw [aU])) (.nil _)))))))))), fun w h => h.sel 4 [1, 2, 0] rfl⟩
             | exact ⟨(C2, T2, bs, bd, M, ill), ⟨hC2, eO, hJ2⟩, .cons rfl (.cons rfl (.cons rfl (.cons rfl (.cons rfl (.cons rfl (.cons rfl (.cons rfl (.cons rfl (.cons (look_eq rfl (by rw [aU])) (.nil _)))))))))), fun w h => h.sel 5 [2, 3, 1, 0] rfl⟩
             | exact ⟨(C2, T2, bs, bd, M3, ill), ⟨hC2, eO, hJ3⟩, .cons rfl (.cons rfl (.cons rfl (.cons rfl (.cons rfl (.cons rfl (.cons rfl (.cons rfl (.cons rfl (.cons (look_eq rfl (by rw [aU])) (.nil _)))))))))), fun w h => h.sel 5 [2, 3, 1, 0] rfl⟩
             | exact ⟨(C2, T2, bs, bd, M, ill), ⟨hC2, eO, KC⟩, .cons rfl (.cons rfl (.cons rfl (.cons rfl (.cons rfl (.cons rfl (.cons rfl (.cons rfl (.cons rfl (.cons (look_eq rfl (by rw [aU])) (.nil _)))))))))), fun w h => h⟩
             | exact ⟨(C2, T2, bs, bd, M3, ill), ⟨hC2, eO, Me⟩, .cons rfl (.cons rfl (.cons rfl (.cons rfl (.cons rfl (.cons rfl (.cons rfl (.cons rfl (.cons rfl (.cons (look_eq rfl (by rw [aU])) (.nil _)))))))))), fun w h => h.sel 4 [1, 2, 3, 0] rfl⟩
             | exact ⟨(C.on, T2, FM, DF, M, ill), ⟨hC.on, eO, K9⟩, .cons rfl (.cons rfl (.cons rfl (.cons rfl (.cons rfl (.cons rfl (.cons rfl (.cons rfl (.cons rfl (.cons (look_eq rfl (by rw [aU])) (.nil _)))))))))), fun w h => h.sel 6 [0, 1, 2, 5] rfl⟩
             | exact ⟨(C2, T, bs, bd, M, ill.set k0 true), ⟨hC2, hT, Kw⟩, .cons rfl (.cons rfl (.cons rfl (.cons rfl (.cons rfl (.cons rfl (.cons rfl (.cons rfl (.cons rfl (.cons (look_eq rfl (by rw [aU])) (.nil _)))))))))), fun w h => h⟩
             | exact ⟨(C2, T, bs, bd, M, ill), ⟨hC2, hT, Ke⟩, .cons rfl (.cons rfl (.cons rfl (.cons rfl (.cons rfl (.cons rfl (.cons rfl (.cons rfl (.cons rfl (.cons (look_eq rfl (by rw [aU])) (.nil _)))))))))), fun w h => h⟩
             | exact ⟨(C2, T, bs, bd, M, ill), ⟨hC2, hT, J2⟩, .cons rfl (.cons rfl (.cons rfl (.cons rfl (.cons rfl (.cons rfl (.cons rfl (.cons rfl (.cons rfl (.cons (look_eq rfl (by rw [aU])) (.nil _)))))))))), fun w h => h.sel 4 [0, 2, 3] rfl⟩
             | exact ⟨(C, T, bs, bd, M, ill), ⟨hC, hT, hI.stay⟩, .cons rfl (.cons rfl (.cons rfl (.cons rfl (.cons rfl (.cons rfl (.cons rfl (.cons rfl (.cons rfl (.cons (look_eq rfl (by rw [aU])) (.nil _)))))))))), fun w h => h.sel 6 [1, 2, 3, 4, 5, 0] rfl⟩
           ·try simp only [decide_eq_true_eq, decide_eq_false_iff_not, Bool.and_eq_true, Bool.or_eq_true, Bool.and_eq_false_iff, Bool.or_eq_false_iff, Bool.not_eq_true', Bool.not_eq_false', Bool.not_eq_true, Bool.not_eq_false, Int.not_lt, Int.not_le] at hc17
            refine WC.sr (WL.val (V.eql (OV.p rfl) (OV.p rfl)) rfl (WL.sg rfl rfl (WL.nil ?_)))
            refine WC.cond rfl (fun hc19 => ?_) (fun hc19 => ?_)
            ·try simp only [decide_eq_true_eq, decide_eq_false_iff_not, Bool.and_eq_true, Bool.or_eq_true, Bool.and_eq_false_iff, Bool.or_eq_false_iff, Bool.not_eq_true', Bool.not_eq_false', Bool.not_eq_true, Bool.not_eq_false, Int.not_lt, Int.not_le] at hc19
             refine WC.sub (H' := C.A bc :: bO bd bc g :: T.A bs bd g :: M.A :: Cells b13 4 (bools ill) :: Cells b16 45 o.cells :: Cells b12 40 M.cells :: Cells b4 23 [.int .i64 g.bl, .int .i64 g.pg, .int .i64 g.se, .int .i64 g.sb, .int .i64 g.fl] :: F) (Sub.refl _) (fun w h => h.sel 6 [1, 2, 3, 4, 5, 0] rfl) ?_
             refine WC.dK (M.A :: Cells b13 4 (bools ill) :: Cells b16 45 o.cells :: Cells b12 40 M.cells :: Cells b4 23 [.int .i64 g.bl, .int .i64 g.pg, .int .i64 g.se, .int .i64 g.sb, .int .i64 g.fl] :: F) (by kernel_rfl) ?_
             refine WA.t 0 rfl (V.move (OV.p rfl)) (WA.t 1 rfl (V.fieldAddr yI (OV.p rfl)) ?_)
             refine WA.t 2 rfl (V.load Tryz.isAgg3 (OV.p rfl) (fun _ => by repeat (first | exact Rd.here rfl | apply Rd.up))) ?_
             refine WA.t 3 rfl (V.fieldAddr OI (OV.p rfl)) ?_
             refine WA.t 4 rfl (V.load Tryz.isAgg3 (OV.p rfl) (fun _ => by repeat (first | exact Rd.here rfl | apply Rd.up))) ?_
             refine WA.t 5 rfl (V.bB (vs := [_, _, _, _, _]) ⟨Tryz.isAgg23, Tryz.sizeOf23⟩ (OV.p rfl) rfl (fun _ => by repeat (first | exact bA.gets ⟨rfl, rfl, rfl, rfl, rfl, trivial⟩ | apply bA.up))) ?_
             refine WA.t 6 rfl (V.fieldAddr Ov (OV.p rfl)) ?_
             refine WA.t 7 rfl (V.load Tryz.isAgg3 (OV.p rfl) (fun _ => by repeat (first | exact Rd.here rfl | apply Rd.up))) ?_
             refine WA.o 8 rfl (WL.call (vs := [_, _]) Tryz.call26 ⟨OV.p rfl, OV.p rfl, trivial⟩ (Cn M6 o.keep) rfl ?_)
             rintro _ _ ⟨RG, Rs, rfl, rfl⟩
             refine WL.nil (WA.o 9 rfl ?_)
             refine WL.sub (H' := C.A bc :: aZ (.slice RG g.fl.toNat Rs) 3 1 g.fl.toNat (ints .i64 (gL g o.keep g.fl.toNat)) :: bO bd bc g :: T.A bs bd g :: M.A :: Cells b13 4 (bools ill) :: Cells b16 45 o.cells :: Cells b12 40 M.cells :: Cells b4 23 [.int .i64 g.bl, .int .i64 g.pg, .int .i64 g.se, .int .i64 g.sb, .int .i64 g.fl] :: F) (Sub.refl _) (fun w h => h.sel 2 [1, 0] rfl) ?_
             refine WL.call (vs := [_, _, _, _]) Tryz.call25 ⟨OV.p rfl, OV.p rfl, OV.p rfl, OV.p rfl, trivial⟩ (I5 hC o.block o.n (aZ.seq (by rw [aK, oM, Nat.mul_one])) (by omega)) rfl ?_
             rintro _ _ ⟨C2, hC2, rfl, s2⟩
             have J2 : sF nl g (i + 1) C2.sem T.sem M ill := by
               rw [s2]
               refine hI.turn (ah.tO.flip _ _ _ (by rw [hI.Hy]; exact Hl M6) (by rw [oM, hI.Hy]; exact Nat.le_refl _)) ?_ ?_ Kl (fun b hb hm => hI.ill b hb (hm.imp id fun hw => ?_))
               · unfold ah.flip; split <;> exact hI.up
               · unfold ah.flip; split <;> exact hI.left
               · unfold ah.flip at hw; split at hw <;> exact hw
             refine WL.nil (WA.fin ?_)
             refine ⟨rfl, ?_⟩
             first
             | exact ⟨(C2, T2, bs, bd, M, ill), ⟨hC2, eO, JV⟩, .cons rfl (.cons rfl (.cons rfl (.cons rfl (.cons rfl (.cons rfl (.cons rfl (.cons rfl (.cons rfl (.cons (look_eq rfl (by rw [aU])) (.nil _)))))))))), fun w h => h.sel 4 [1, 2, 0] rfl⟩
             | exact ⟨(C2, T2, bs, bd, M, ill), ⟨hC2, eO, hJ2⟩, .cons rfl (.cons rfl (.cons rfl (.cons rfl (.cons rfl (.cons rfl (.cons rfl (.cons rfl (.cons rfl (.cons (look_eq rfl (by rw [aU])) (.nil _)))))))))), fun w h => h.sel 5 [2, 3, 1, 0] rfl⟩
             | exact ⟨(C2, T2, bs, bd, M3, ill), ⟨hC2, eO, hJ3⟩, .cons rfl (.cons rfl (.cons rfl (.cons rfl (.cons rfl (.cons rfl (.cons rfl (.cons rfl (.cons rfl (.cons (look_eq rfl (by rw [aU])) (.nil _)))))))))), fun w h => h.sel 5 [2, 3, 1, 0] rfl⟩
             | exact ⟨(C2, T2, bs, bd, M, ill), ⟨hC2, eO, KC⟩, .cons rfl (.cons rfl (.cons rfl (.cons rfl (.cons rfl (.cons rfl (.cons rfl (.cons rfl (.cons rfl (.cons (look_eq rfl (by rw [aU])) (.nil _)))))))))), fun w h => h⟩
             | exact ⟨(C2, T2, bs, bd, M3, ill), ⟨hC2, eO, Me⟩, .cons rfl (.cons rfl (.cons rfl (.cons rfl (.cons rfl (.cons rfl (.cons rfl (.cons rfl (.cons rfl (.cons (look_eq rfl (by rw [aU])) (.nil _)))))))))), fun w h => h.sel 4 [1, 2, 3, 0] rfl⟩
             | exact ⟨(C.on, T2, FM, DF, M, ill), ⟨hC.on, eO, K9⟩, .cons rfl (.cons rfl (.cons rfl (.cons rfl (.cons rfl (.cons rfl (.cons rfl (.cons rfl (.cons rfl (.cons (look_eq rfl (by rw [aU])) (.nil _)))))))))), fun w h => h.sel 6 [0, 1, 2, 5] rfl⟩
             | exact ⟨(C2, T, bs, bd, M, ill.set k0 true), ⟨hC2, hT, Kw⟩, .cons rfl (.cons rfl (.cons rfl (.cons rfl (.cons rfl (.cons rfl (.cons rfl (.cons rfl (.cons rfl (.cons (look_eq rfl (by rw [aU])) (.nil _)))))))))), fun w h => h⟩
             | exact ⟨(C2, T, bs, bd, M, ill), ⟨hC2, hT, Ke⟩, .cons rfl (.cons rfl (.cons rfl (.cons rfl (.cons rfl (.cons rfl (.cons rfl (.cons rfl (.cons rfl (.cons (look_eq rfl (by rw [aU])) (.nil _)))))))))), fun w h => h⟩
             | exact ⟨(C2, T, bs, bd, M, ill), ⟨hC2, hT, J2⟩, .cons rfl (.cons rfl (.cons rfl (.cons rfl (.cons rfl (.cons rfl (.cons rfl (.cons rfl (.cons rfl (.cons (look_eq rfl (by rw [aU])) (.nil _)))))))))), fun w h => h.sel 4 [0, 2, 3] rfl⟩
             | exact ⟨(C, T, bs, bd, M, ill), ⟨hC, hT, hI.stay⟩, .cons rfl (.cons rfl (.cons rfl (.cons rfl (.cons rfl (.cons rfl (.cons rfl (.cons rfl (.cons rfl (.cons (look_eq rfl (by rw [aU])) (.nil _)))))))))), fun w h => h.sel 6 [1, 2, 3, 4, 5, 0] rfl⟩
            ·try simp only [decide_eq_true_eq, decide_eq_false_iff_not, Bool.and_eq_true, Bool.or_eq_true, Bool.and_eq_false_iff, Bool.or_eq_false_iff, Bool.not_eq_true', Bool.not_eq_false', Bool.not_eq_true, Bool.not_eq_false, Int.not_lt, Int.not_le] at hc19
             refine WC.skip ?_
             refine ⟨rfl, ?_⟩
             first
             | exact ⟨(C2, T2, bs, bd, M, ill), ⟨hC2, eO, JV⟩, .cons rfl (.cons rfl (.cons rfl (.cons rfl (.cons rfl (.cons rfl (.cons rfl (.cons rfl (.cons rfl (.cons (look_eq rfl (by rw [aU])) (.nil _)))))))))), fun w h => h.sel 4 [1, 2, 0] rfl⟩
             | exact ⟨(C2, T2, bs, bd, M, ill), ⟨hC2, eO, hJ2⟩, .cons rfl (.cons rfl (.cons rfl (.cons rfl (.cons rfl (.cons rfl (.cons rfl (.cons rfl (.cons rfl (.cons (look_eq rfl (by rw [aU])) (.nil _)))))))))), fun w h => h.sel 5 [2, 3, 1, 0] rfl⟩
             | exact ⟨(C2, T2, bs, bd, M3, ill), ⟨hC2, eO, hJ3⟩, .cons rfl (.cons rfl (.cons rfl (.cons rfl (.cons rfl (.cons rfl (.cons rfl (.cons rfl (.cons rfl (.cons (look_eq rfl (by rw [aU])) (.nil _)))))))))), fun w h => h.sel 5 [2, 3, 1, 0] rfl⟩
             | exact ⟨(C2, T2, bs, bd, M, ill), ⟨hC2, eO, KC⟩, .cons rfl (.cons rfl (.cons rfl (.cons rfl (.cons rfl (.cons rfl (.cons rfl (.cons rfl (.cons rfl (.cons (look_eq rfl (by rw [aU])) (.nil _)))))))))), fun w h => h⟩
             | exact ⟨(C2, T2, bs, bd, M3, ill), ⟨hC2, eO, Me⟩, .cons rfl (.cons rfl (.cons rfl (.cons rfl (.cons rfl (.cons rfl (.cons rfl (.cons rfl (.cons rfl (.cons (look_eq rfl (by rw [aU])) (.nil _)))))))))), fun w h => h.sel 4 [1, 2, 3, 0] rfl⟩
             | exact ⟨(C.on, T2, FM, DF, M, ill), ⟨hC.on, eO, K9⟩, .cons rfl (.cons rfl (.cons rfl (.cons rfl (.cons rfl (.cons rfl (.cons rfl (.cons rfl (.cons rfl (.cons (look_eq rfl (by rw [aU])) (.nil _)))))))))), fun w h => h.sel 6 [0, 1, 2, 5] rfl⟩
             | exact ⟨(C2, T, bs, bd, M, ill.set k0 true), ⟨hC2, hT, Kw⟩, .cons rfl (.cons rfl (.cons rfl (.cons rfl (.cons rfl (.cons rfl (.cons rfl (.cons rfl (.cons rfl (.cons (look_eq rfl (by rw [aU])) (.nil _)))))))))), fun w h => h⟩
             | exact ⟨(C2, T, bs, bd, M, ill), ⟨hC2, hT, Ke⟩, .cons rfl (.cons rfl (.cons rfl (.cons rfl (.cons rfl (.cons rfl (.cons rfl (.cons rfl (.cons rfl (.cons (look_eq rfl (by rw [aU])) (.nil _)))))))))), fun w h => h⟩
             | exact ⟨(C2, T, bs, bd, M, ill), ⟨hC2, hT, J2⟩, .cons rfl (.cons rfl (.cons rfl (.cons rfl (.cons rfl (.cons rfl (.cons rfl (.cons rfl (.cons rfl (.cons (look_eq rfl (by rw [aU])) (.nil _)))))))))), fun w h => h.sel 4 [0, 2, 3] rfl⟩
             | exact ⟨(C, T, bs, bd, M, ill), ⟨hC, hT, hI.stay⟩, .cons rfl (.cons rfl (.cons rfl (.cons rfl (.cons rfl (.cons rfl (.cons rfl (.cons rfl (.cons rfl (.cons (look_eq rfl (by rw [aU])) (.nil _)))))))))), fun w h => h.sel 6 [1, 2, 3, 4, 5, 0] rfl⟩
       ·skip
        rintro ⟨C2, T2, FM, DF, M2, R9⟩ ⟨hC2, eO, hI2⟩
        dsimp only at hC2 eO hI2 ⊢
        obtain ⟨st2, OD⟩ := hI2.si
        refine WC.sr (WL.mv rfl rfl (WL.mv rfl rfl (WL.av (oj := _) rfl rfl rfl GC.t (V.move (OV.p rfl)) rfl ?_)))
        refine WL.av (oj := _) rfl rfl rfl GC.t (V.bB (vs := M2.cells) ⟨Tryz.isAgg40, Tryz.sizeOf40⟩ (OV.p rfl) rfl (fun _ => by repeat (first | exact bA.gets ⟨rfl, rfl, trivial⟩ | apply bA.up))) rfl ?_
        refine WL.av (oj := _) rfl rfl rfl GC.t (V.fieldAddr rZ (OV.p rfl)) rfl ?_
        refine WL.av (oj := _) rfl rfl rfl GC.t (V.load Tryz.isAgg3 (OV.g rfl id) (fun _ => by repeat (first | exact Rd.here rfl | apply Rd.up))) rfl ?_
        refine WL.Om (oj := _) (vs := [_, _, _]) (v := .bool true) (R := fun H' => ∃ T3 : bC, T3.Ok g ∧ T3.sem = T2.sem ∧ H' = C2.A bc :: bO DF bc g :: T3.A FM DF g :: M2.A :: Cells b13 4 (bools R9) :: Cells b16 45 o.cells :: Cells b12 40 M2.cells :: Cells b4 23 [.int .i64 g.bl, .int .i64 g.pg, .int .i64 g.se, .int .i64 g.sb, .int .i64 g.fl] :: F) rfl rfl rfl GC.t Tryz.call27 ⟨OV.g rfl id, OV.g rfl id, OV.g rfl id, trivial⟩ (fun hc => ?_) (fun _ => ⟨T2, eO, rfl, rfl⟩) rfl ?_
        · have hq3 := hin.1 hc
          obtain ⟨i0, hi0⟩ : ∃ i0 : Nat, o.aC = (i0 : Int) := ⟨o.aC.toNat, by omega⟩
          rw [hi0]
          refine (xw (M := M2) hC2 hI2.Hy eO OD hI2.up (by omega) hI2.lh hI2.ld).mono ?_
          rintro _ _ ⟨rfl, h⟩
          exact ⟨by rw [decide_eq_true rfl], h⟩
        rintro _ ⟨T3, mW, t3, rfl⟩
        refine WL.av (oj := _) rfl rfl rfl GC.t (V.not (OV.g rfl id)) rfl (WL.val (V.aI (OV.p rfl) (OV.g rfl id)) rfl (WL.nil ?_))
        refine WC.aS rfl ((by simp)) ?_
        refine WC.skip (WC.region (WL.mv rfl rfl (WL.ad rfl rfl rfl ?_)))
        refine WL.sg rfl rfl (WL.nil ?_)
        refine ⟨rfl, ?_⟩
        exact ⟨(i + 1, C2, T3, FM, DF, M2, R9), ⟨him, hC2, mW, by rw [t3]; exact hI2⟩, (by show m - (i + 1) < m - i; omega), .cons rfl (.cons rfl (.cons rfl (.cons rfl (.cons rfl (.cons rfl (.cons rfl (.cons (look_eq rfl (by simp)) (.nil _)))))))), fun w h => h.sel 6 [0, 1, 2, 3, 4] rfl⟩
      ·simp only [decide_eq_true_eq, decide_eq_false_iff_not] at hc4
       refine WC.exit (WC.sr (WL.mv rfl rfl (WL.mv rfl rfl ?_)))
       refine WL.call (vs := [_, _]) Tryz.call12 ⟨OV.p rfl, OV.p rfl, trivial⟩ (tH hC hg' (au := nl) (by omega) (by omega)) rfl ?_
       rintro _ _ ⟨DF, FM, T2, eO, t2, rfl, rfl⟩
       have oC : C.on.sem = C.sem := Dk hI.up
       have hI2 : sF nl g i C.on.sem T2.sem M ill := by rw [t2, oC]; exact hI.opened
       obtain ⟨st2, OD⟩ := hI2.si
       refine WL.sg rfl rfl (WL.nil (WC.sr (WL.mv rfl rfl (WL.val (V.O9 Tryz.underlying33 (OV.p rfl) (OV.p rfl)) rfl (WL.mv rfl rfl (WL.known (oj := _) rfl rfl rfl rfl (WL.mv rfl rfl (WL.known (oj := _) rfl rfl rfl rfl ?_))))))))
       refine WL.val (V.bB (vs := M.cells) ⟨Tryz.isAgg40, Tryz.sizeOf40⟩ (OV.p rfl) rfl (fun _ => by repeat (first | exact bA.gets ⟨rfl, rfl, trivial⟩ | apply bA.up))) rfl ?_
       refine WL.known (oj := _) rfl rfl rfl rfl ?_
       refine WL.sub (H' := C.on.A bc :: bO DF bc g :: T2.A FM DF g :: M.A :: Cells b12 40 M.cells :: F) (Sub.refl _) (fun w h => h.sel 9 [0, 1, 2, 5, 7] rfl) ?_
       refine WL.call (vs := [_, _]) Tryz.call28 ⟨OV.p rfl, OV.p rfl, trivial⟩ (I9 (M := M) hC.on hI2.Hy eO OD hI2.up hI2.lh hI2.ld (by omega)) rfl ?_
       rintro _ _ ⟨rr, rfl, hrr, T6, U3, t6, rfl⟩
       obtain rfl : rr = true := hrr.2 (fun _ _ => rfl)
       refine WL.val (V.aI (OV.p rfl) (OV.p rfl)) rfl (WL.mv rfl rfl (WL.known (oj := _) rfl rfl rfl rfl (WL.call (vs := []) Tryz.call11 trivial (wN _ _) rfl ?_)))
       rintro _ H0 ⟨rfl, h0⟩
       subst H0
       refine WL.val (V.aI (OV.p rfl) (OV.p rfl)) rfl (WL.sg rfl rfl (WL.nil (WC.ret ?_)))
       exact ak.ret (H' := F) (aQ.tmp rfl rfl) (fun w h => h.drop 5) ⟨rfl, rfl⟩
end Go.Proofs.YtcmojpiokjhmhaaGreat
