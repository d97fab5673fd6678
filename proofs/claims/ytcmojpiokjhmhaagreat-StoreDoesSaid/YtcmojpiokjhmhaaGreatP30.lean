import Derived.Test.YtcmojpiokjhmhaaGreatP29
namespace Go.Proofs.YtcmojpiokjhmhaaGreat
open Go.Sl Go.RowKit
set_option linter.unusedVariables false
set_option linter.unusedSimpArgs false
set_option maxRecDepth 20000
def gL (g : Geo) (from' : Int) (k : Nat) : List Int := (List.range k).map fun (i : Nat) => ((max from' 0) % (8 * g.sb + 13 * g.fl) + (i : Int)) % (8 * g.sb + 13 * g.fl)
theorem Dh (g : Geo) (f : Int) (k : Nat) : gL g f (k + 1) = gL g f k ++ [((max f 0) % (8 * g.sb + 13 * g.fl) + (k : Int)) % (8 * g.sb + 13 * g.fl)] := by
  unfold gL
  rw [List.range_succ, List.map_append]; rfl
theorem oM (g : Geo) (f : Int) (k : Nat) : (gL g f k).length = k := by unfold gL; rw [List.length_map, List.length_range]
theorem Hl {g : Geo} (hg : g.aD) {f : Int} {k : Nat} : ∀ x ∈ gL g f k, 0 ≤ x ∧ x < (8 * g.dI : Nat) := fun x hx => by
  have hgb := hg
  unfold Geo.aD at hgb
  obtain ⟨i, _, rfl⟩ := List.mem_map.1 hx
  have h1 := Int.emod_nonneg ((max f 0) % (8 * g.sb + 13 * g.fl) + (i : Int)) (show 8 * g.sb + 13 * g.fl ≠ 0 by omega)
  have h2 := Int.emod_lt_of_pos ((max f 0) % (8 * g.sb + 13 * g.fl) + (i : Int)) (show 0 < 8 * g.sb + 13 * g.fl by omega)
  have h3 : 8 * g.sb + 13 * g.fl ≤ (8 * g.dI : Nat) := by
    unfold Geo.dI ay
    omega
  exact ⟨h1, by omega⟩
section
variable {K : World} {F : List aj}
theorem Cn {g : Geo} (hg : g.aD) (f : Int) : Does Tryz.prog 26 #[g.v, .int .i64 f] K F (fun v H' => ∃ A c, v = .slice A g.fl.toNat c ∧ H' = aZ (.slice A g.fl.toNat c) 3 1 g.fl.toNat (ints .i64 (gL g f g.fl.toNat)) :: F) := by
  have hgb := hg
  unfold Geo.aD at hgb
  obtain ⟨n, hn⟩ : ∃ n, n = 8 * g.sb + 13 * g.fl := ⟨_, rfl⟩
  obtain ⟨fl, hfl⟩ : ∃ fl : Nat, g.fl = (fl : Int) := ⟨g.fl.toNat, by omega⟩
  have RB : g.fl.toNat = fl := by omega
  obtain ⟨h, hh⟩ : ∃ h, h = (max f 0) % n := ⟨_, rfl⟩
  have hh0 := Int.emod_nonneg (max f 0) (show n ≠ 0 by omega)
  have Um := Int.emod_lt_of_pos (max f 0) (show 0 < n by omega)
  rw [← hh] at hh0 Um
  have hst : ∀ i : Nat, gL g f (i + 1) = gL g f i ++ [(h + (i : Int)) % n] := fun i => by rw [Dh, ← hn, ← hh]
  rw [RB]
  refine Does.enter Tryz.func26 rfl Tryz.ntmps26 rfl ?_
  simp only [aH, Nat.reduceAdd]
  refine WC.sr ?_
  refine WL.box (cs := [_, _, _, _, _]) (OV.p rfl) rfl rfl (fun b2 => ?_)
  refine WL.sg rfl rfl (WL.nil (WC.sr (WL.sg rfl rfl (WL.nil (WC.sr (WL.val (V.fieldAddr gV (OV.p rfl)) rfl (WL.ld Tryz.isAgg3 rfl rfl ?_)))))))
  refine WL.val (V.jI (OV.p rfl) (OV.p rfl) (fun hc => by first | omega | (simp at hc; omega))) rfl ?_
  refine WL.val (V.fieldAddr mO (OV.p rfl)) rfl (WL.ld Tryz.isAgg3 rfl rfl ?_)
  refine WL.val (V.jI (OV.p rfl) (OV.p rfl) (fun hc => by first | omega | (simp at hc; omega))) rfl ?_
  refine WL.ad rfl rfl rfl ?_
  refine WL.sg rfl rfl (WL.nil (WC.seq (WC.sr (WL.mv rfl rfl (WL.val (V.lss (OV.p rfl) (OV.p rfl)) rfl (WL.nil ?_))))))
  refine WC.cond rfl (fun hc0 => ?_) (fun hc0 => ?_)
  ·simp only [decide_eq_true_eq, decide_eq_false_iff_not] at hc0
   have hm : max f 0 = 0 := by omega
   refine WC.region (WL.sg rfl rfl (WL.nil (WC.seq (WC.sr (WL.sg rfl rfl (WL.nil (WC.block ?_)))))))
   refine WC.loop (σ := Nat × Option Addr × Nat) (fun s => [(1, .int .i64 (max f 0)), (2, ptr b2 0), (5, .slice s.2.1 s.1 s.2.2), (6, .int .i64 n), (7, .int .i64 (s.1 : Int))]) (fun s => aZ (.slice s.2.1 s.1 s.2.2) 3 1 s.1 (ints .i64 (gL g f s.1)) :: Cells b2 23 [.int .i64 g.bl, .int .i64 g.pg, .int .i64 g.se, .int .i64 g.sb, .int .i64 g.fl] :: F) (fun s => s.1 ≤ fl) (fun s => fl - s.1) (0, none, 0) (Nat.zero_le _) (.cons (look_eq rfl (by rw [hm])) (.cons rfl (.cons rfl (.cons (look_eq rfl (by rw [hn])) (.cons rfl (.nil _)))))) (fun w h => Sat.iE h _ _) ?_
   rintro ⟨i, Ai, ci⟩ hi
   dsimp only at hi ⊢
   refine WC.seq (WC.sr (WL.mv rfl rfl (WL.val (V.fieldAddr mO (OV.p rfl)) rfl (WL.ld Tryz.isAgg3 rfl rfl ?_))))
   refine WL.val (V.lss (OV.p rfl) (OV.p rfl)) rfl (WL.nil ?_)
   refine WC.cond rfl (fun hc1 => ?_) (fun hc1 => ?_)
   ·simp only [decide_eq_true_eq, decide_eq_false_iff_not] at hc1
    have hil : i < fl := by omega
    refine WC.skip (WC.seq (WC.block (WC.region (WL.mv rfl rfl (WL.mv rfl rfl (WL.mv rfl rfl ?_))))))
    refine WL.val (V.aB (v' := .int .i64 h) (V.mY (OV.p rfl) (OV.p rfl) (fun _ => by omega)) (fun _ => by rw [hh])) rfl ?_
    refine WL.mv rfl rfl (WL.ad rfl rfl rfl ?_)
    refine WL.mv rfl rfl ?_
    refine WL.val (V.mY (OV.p rfl) (OV.p rfl) (fun _ => by omega)) rfl ?_
    refine WL.buildSlice (E := 3) (cs := [_]) (vs := [(0, _)]) ⟨OV.p rfl, trivial⟩ rfl (dO _) rfl (fun TS => ?_)
    refine WL.sub (Sub.refl _) (fun w h => h.p1) ?_
    refine WL.append (m := i) (q := 1) (news := [.int .i64 ((h + (i : Int)) % n)]) Tryz.underlying24 el3 (OV.p rfl) (OV.p rfl) (Seq.all rfl) (by intro u hu; rw [List.mem_singleton.1 hu]; rfl) (by omega) rfl rfl (fun A5 c5 Hz mP => ?_)
    refine WL.sg rfl rfl (WL.nil (WC.region (WL.mv rfl rfl (WL.ad rfl rfl rfl ?_))))
    refine WL.sg rfl rfl (WL.nil ?_)
    refine ⟨rfl, ?_⟩
    refine ⟨(i + 1, A5, c5), hil, (by show fl - (i + 1) < fl - i; omega), .cons rfl (.cons rfl (.cons rfl (.cons rfl (.cons (look_eq rfl (by simp)) (.nil _))))), fun w h => ?_⟩
    dsimp only
    rw [hst, bL]
    exact h.sel 3 [0, 2] rfl
   ·simp only [decide_eq_true_eq, decide_eq_false_iff_not] at hc1
    refine WC.exit (WC.sr (WL.mv rfl rfl (WL.sg rfl rfl (WL.nil (WC.ret ?_)))))
    obtain rfl : i = fl := by omega
    exact ak.ret (H' := aZ (.slice Ai i ci) 3 1 i (ints .i64 (gL g f i)) :: F) (aQ.tmp rfl rfl) (fun w h => h.sel 2 [0] rfl) ⟨Ai, ci, rfl, rfl⟩
  ·simp only [decide_eq_true_eq, decide_eq_false_iff_not] at hc0
   have hm : max f 0 = f := by omega
   refine WC.skip (WC.seq (WC.sr (WL.sg rfl rfl (WL.nil (WC.block ?_)))))
   refine WC.loop (σ := Nat × Option Addr × Nat) (fun s => [(1, .int .i64 (max f 0)), (2, ptr b2 0), (5, .slice s.2.1 s.1 s.2.2), (6, .int .i64 n), (7, .int .i64 (s.1 : Int))]) (fun s => aZ (.slice s.2.1 s.1 s.2.2) 3 1 s.1 (ints .i64 (gL g f s.1)) :: Cells b2 23 [.int .i64 g.bl, .int .i64 g.pg, .int .i64 g.se, .int .i64 g.sb, .int .i64 g.fl] :: F) (fun s => s.1 ≤ fl) (fun s => fl - s.1) (0, none, 0) (Nat.zero_le _) (.cons (look_eq rfl (by rw [hm])) (.cons rfl (.cons rfl (.cons (look_eq rfl (by rw [hn])) (.cons rfl (.nil _)))))) (fun w h => Sat.iE h _ _) ?_
   rintro ⟨i, Ai, ci⟩ hi
   dsimp only at hi ⊢
   refine WC.seq (WC.sr (WL.mv rfl rfl (WL.val (V.fieldAddr mO (OV.p rfl)) rfl (WL.ld Tryz.isAgg3 rfl rfl ?_))))
   refine WL.val (V.lss (OV.p rfl) (OV.p rfl)) rfl (WL.nil ?_)
   refine WC.cond rfl (fun hc1 => ?_) (fun hc1 => ?_)
   ·simp only [decide_eq_true_eq, decide_eq_false_iff_not] at hc1
    have hil : i < fl := by omega
    refine WC.skip (WC.seq (WC.block (WC.region (WL.mv rfl rfl (WL.mv rfl rfl (WL.mv rfl rfl ?_))))))
    refine WL.val (V.aB (v' := .int .i64 h) (V.mY (OV.p rfl) (OV.p rfl) (fun _ => by omega)) (fun _ => by rw [hh])) rfl ?_
    refine WL.mv rfl rfl (WL.ad rfl rfl rfl ?_)
    refine WL.mv rfl rfl ?_
    refine WL.val (V.mY (OV.p rfl) (OV.p rfl) (fun _ => by omega)) rfl ?_
    refine WL.buildSlice (E := 3) (cs := [_]) (vs := [(0, _)]) ⟨OV.p rfl, trivial⟩ rfl (dO _) rfl (fun TS => ?_)
    refine WL.sub (Sub.refl _) (fun w h => h.p1) ?_
    refine WL.append (m := i) (q := 1) (news := [.int .i64 ((h + (i : Int)) % n)]) Tryz.underlying24 el3 (OV.p rfl) (OV.p rfl) (Seq.all rfl) (by intro u hu; rw [List.mem_singleton.1 hu]; rfl) (by omega) rfl rfl (fun A5 c5 Hz mP => ?_)
    refine WL.sg rfl rfl (WL.nil (WC.region (WL.mv rfl rfl (WL.ad rfl rfl rfl ?_))))
    refine WL.sg rfl rfl (WL.nil ?_)
    refine ⟨rfl, ?_⟩
    refine ⟨(i + 1, A5, c5), hil, (by show fl - (i + 1) < fl - i; omega), .cons rfl (.cons rfl (.cons rfl (.cons rfl (.cons (look_eq rfl (by simp)) (.nil _))))), fun w h => ?_⟩
    dsimp only
    rw [hst, bL]
    exact h.sel 3 [0, 2] rfl
   ·simp only [decide_eq_true_eq, decide_eq_false_iff_not] at hc1
    refine WC.exit (WC.sr (WL.mv rfl rfl (WL.sg rfl rfl (WL.nil (WC.ret ?_)))))
    obtain rfl : i = fl := by omega
    exact ak.ret (H' := aZ (.slice Ai i ci) 3 1 i (ints .i64 (gL g f i)) :: F) (aQ.tmp rfl rfl) (fun w h => h.sel 2 [0] rfl) ⟨Ai, ci, rfl, rfl⟩
end
theorem Ar (l : List Bool) : ∀ k, k ≤ l.length → uQ (l.take k) = ((List.range k).filter fun i => l.getD i false).length
  | 0, _ => rfl
  | k + 1, hk => by
    rw [vK (by omega), Ar l k (by omega), List.range_succ, List.filter_append, List.length_append]
    congr 1
    cases h : l.getD k false with
    | true => rw [List.filter_cons, h]; rfl
    | false => rw [List.filter_cons, h]; rfl
theorem FH (l : List Bool) : uQ l = ((List.range l.length).filter fun i => l.getD i false).length := by
  have := Ar l l.length (Nat.le_refl _)
  rwa [List.take_of_length_le (Nat.le_refl _)] at this
structure sF (au : Nat) (g : Geo) (N : Nat) (S : ah) (T : St) (M : Mw) (ill : List Bool) : Prop where
  Hy : S.g = g
  si : ∃ st, ah.SI au au (256 + N) S st T M.sem
  up : S.up = true
  left : S.left = 0
  next : T.next ≤ 1 + 20 * (N : Int)
  lh : M.has.length = au
  ld : M.dat.length = au
  il : ill.length = g.bl.toNat
  ill : ∀ b : Nat, b < g.bl.toNat → S.marked (b : Int) = true ∨ S.weak (b : Int) = true → ill.getD b false = true
theorem sF.full {au N B L : Nat} {g : Geo} {S : ah} {st : Int → tJ} {T : St} {M : Mw} {ill : List Bool} (h : sF au g N S T M ill) (hI : ah.SI au L B S st T M.sem) (hf : ∀ b, 0 ≤ b → b < S.g.bl → S.marked b = false → b ∉ T.stands → S.weak b = true) :
    uQ (ill.map (!·)) ≤ uQ M.has := by
  have h1 := ah.F9 hI hf
  rw [h.Hy] at h1
  rw [FH, FH, List.length_map, h.il, h.lh]
  refine Nat.le_trans ?_ (Nat.le_trans h1 ?_)
  · refine qp (List.Pairwise.filter _ List.nodup_range) (fun b hb => ?_)
    obtain ⟨h2, h3⟩ := List.mem_filter.1 hb
    have h2 := List.mem_range.1 h2
    refine List.mem_filter.2 ⟨List.mem_range.2 h2, ?_⟩
    have h4 : ill.getD b false = false := by
      have h5 : (ill.map (!·)).getD b false = !(ill.getD b false) := by simp [List.getD, h.il, h2]
      rw [h5] at h3
      simpa using h3
    cases hm : S.marked (b : Int) with
    | true => rw [h.ill b h2 (.inl hm)] at h4; cases h4
    | false =>
      cases hw : S.weak (b : Int) with
      | true => rw [h.ill b h2 (.inr hw)] at h4; cases h4
      | false => rfl
  · refine qp (List.Pairwise.filter _ List.nodup_range) (fun i hi => ?_)
    obtain ⟨h2, h3⟩ := List.mem_filter.1 hi
    refine List.mem_filter.2 ⟨h2, ?_⟩
    unfold Mw.sem at h3
    cases hh : M.has.getD i false with
    | true => rfl
    | false => rw [hh] at h3; cases h3
section
variable {au N : Nat} {g : Geo} {S S' : ah} {T : St} {M M' : Mw} {ill Oi : List Bool}
theorem sF.turn (h : sF au g N S T M ill) (e : ah.tO S S') (hu : S'.up = true) (hl : S'.left = 0) (hil : Oi.length = g.bl.toNat) (hw : ∀ b : Nat, b < g.bl.toNat → S.marked (b : Int) = true ∨ S'.weak (b : Int) = true → Oi.getD b false = true) : sF au g (N + 1) S' T M Oi := by
  obtain ⟨st, hI⟩ := h.si
  exact ⟨e.g.trans h.Hy, ⟨st, (hI.eqv e).wider (by omega)⟩, hu, hl, by have := h.next; omega, h.lh, h.ld, hil, fun b hb hm => hw b hb (by rw [e.marked] at hm; exact hm)⟩
theorem sF.stay (h : sF au g N S T M ill) : sF au g (N + 1) S T M ill := h.turn (ah.tO.of rfl rfl rfl rfl rfl) h.up h.left h.il h.ill
theorem sF.opened (h : sF au g N S T M ill) : sF au g N S (lH S au) M ill := by
  obtain ⟨st, hI⟩ := h.si
  refine ⟨h.Hy, ⟨st, (ah.yj hI.cm h.up).wider (by omega)⟩, h.up, h.left, ?_, h.lh, h.ld, h.il, h.ill⟩
  have hn := h.next
  exact Int.le_trans (ah.pY hI.ci h.up (N := T.next) (fun b h1 h2 h3 hd w d hs => hI.num b h1 h2 h3 hd w d hs) hI.next au) hn
theorem sF.change (h : sF au g N S T M ill) (hbl : g.bl ≤ 12) (hN : N ≤ 1000) {i0 : Nat} (hi0 : i0 < au) (h64 : au ≤ 64) {d : List Nat} (h8 : Small 256 d) (hd : (d.length : Int) ≤ g.cap) :
    ((aY S T (i0 : Int) d).2.2 = 6 ∧ uQ (ill.map (!·)) ≤ uQ M.has ∧ sF au g (N + 1) (aY S T (i0 : Int) d).1 (aY S T (i0 : Int) d).2.1 M ill) ∨
    ((aY S T (i0 : Int) d).2.2 = 0 ∧ ∀ M' : Mw, M'.sem = M.sem.put i0 (some d) → M'.has.length = au → M'.dat.length = au → sF au g (N + 1) (aY S T (i0 : Int) d).1 (aY S T (i0 : Int) d).2.1 M' ill) := by
  obtain ⟨st, hI⟩ := h.si
  have hnx := h.next
  have hgs := h.Hy
  obtain ⟨r1, r2, r3, r4, r5, r6, r7⟩ := ah.FC hI h.up hi0 hi0 (by omega) h8 (by rw [hgs]; exact hd) (by rw [hgs]; omega)
  have Qk : (aY S T (i0 : Int) d).2.2 ≠ 70 → ∀ b : Nat, b < g.bl.toNat → (aY S T (i0 : Int) d).1.marked (b : Int) = true ∨ (aY S T (i0 : Int) d).1.weak (b : Int) = true → ill.getD b false = true := fun Uh b hb hm => by
    rcases hm with hm | hm
    · exact h.ill b hb (r6 Uh b hm)
    · rw [r2] at hm; exact h.ill b hb (.inr hm)
  rw [hgs] at r5
  rcases r7 with ⟨q1, q2, q3, q4⟩ | ⟨q1, q2, st', q3⟩ | ⟨q1, _, _⟩
  · exact .inl ⟨q1, h.full hI q4, r1.trans hgs, ⟨st, q3.wider (by omega)⟩, q2, (r4 h.left).1, by omega, h.lh, h.ld, h.il, Qk (by rw [q1]; exact N9)⟩
  · exact .inr ⟨q1, fun M' hM' hl1 hl2 => ⟨r1.trans hgs, ⟨st', by rw [hM']; exact q3.wider (by omega)⟩, q2, (r4 h.left).1, by omega, hl1, hl2, h.il, Qk (by rw [q1]; exact nG)⟩⟩
  · exact absurd q1 (r4 h.left).2
theorem sF.unmap (h : sF au g N S T M ill) {i0 : Nat} (hi0 : i0 < au) : (bV S T (i0 : Int)).2.2 = 0 ∧ ∀ M' : Mw, M'.sem = M.sem.put i0 none → M'.has.length = au → M'.dat.length = au → sF au g (N + 1) (bV S T (i0 : Int)).1 (bV S T (i0 : Int)).2.1 M' ill := by
  obtain ⟨st, hI⟩ := h.si
  have hnx := h.next
  have hgs := h.Hy
  obtain ⟨r1, r2, r3, r4, r5, r6, r7⟩ := ah.GK hI h.up hi0
  rcases r7 with ⟨q1, q2, st', q3⟩ | ⟨q1, _, _⟩
  · refine ⟨q1, fun M' hM' hl1 hl2 => ⟨r1.trans hgs, ⟨st', by rw [hM']; exact q3.wider (by omega)⟩, q2, (r4 h.left).1, by omega, hl1, hl2, h.il, fun b hb hm => ?_⟩⟩
    rcases hm with hm | hm
    · exact h.ill b hb (r6 (by rw [q1]; exact nG) b hm)
    · rw [r2] at hm; exact h.ill b hb (.inr hm)
  · exact absurd q1 (r4 h.left).2
end
end Go.Proofs.YtcmojpiokjhmhaaGreat
