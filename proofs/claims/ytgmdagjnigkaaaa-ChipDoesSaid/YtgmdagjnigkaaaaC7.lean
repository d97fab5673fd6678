/- The chip: New. -/
import Derived.Test.YtgmdagjnigkaaaaC6
namespace Go.Proofs.Ytgmdagjnigkaaaa
open Go.Sl Go.RowKit
set_option linter.unusedVariables false
set_option linter.unusedSimpArgs false
set_option maxRecDepth 20000

def Cw.new (g : Geo) (m : Int → Bool) (bp bw bn bm bk : Nat) : Cw := ⟨g, fun _ => none, fun _ => none, List.replicate g.bl.toNat 0, m, fun _ => false, 0, true, 0, 0, bp, bw, bn, bm, bk, []⟩
def Chip.new (g : Geo) (l : List Int) : Chip := ⟨g, fun _ => none, fun _ => none, List.replicate g.bl.toNat 0, fun k => decide (k ∈ l), fun _ => false, 0, true, 0, 0⟩
theorem Cw.new_ok {g : Geo} (h : g.mays) (m : Int → Bool) (bp bw bn bm bk : Nat) : (Cw.new g m bp bw bn bm bk).Ok := by
  refine ⟨h, fun p e he => (by have h : (none : Option (Option Addr × Nat × List Int)) = some e := he; cases h), fun p e he => (by have h : (none : Option (Option Addr × Nat × List Int)) = some e := he; cases h), ?_, fun x hx => ?_, (by show (0 : Int) ≤ 0 ∧ (0 : Int) ≤ 9223372036854775807; decide)⟩
  · show ((List.replicate g.bl.toNat 0).length : Int) = g.bl
    rw [List.length_replicate]; unfold Geo.mays at h; omega
  · rw [List.eq_of_mem_replicate hx]; unfold Geo.mays at h; show (0 : Int) ≤ 0 ∧ 0 ≤ g.pg; omega
theorem boolF_none {κ : Type} : boolF (fun _ : κ => false) = fun _ => none := rfl
theorem mem_take_upd {l : List Int} {j : Nat} (h : j < l.length) : (fun k' => if k' = l.getD j 0 then true else decide (k' ∈ l.take j)) = fun k => decide (k ∈ l.take (j + 1)) := by
  funext k
  have hg : l.getD j 0 = l[j] := by simp [List.getD, h]
  have ht : l.take (j + 1) = l.take j ++ [l[j]] := by rw [List.take_add_one, List.getElem?_eq_getElem h]; rfl
  rw [hg, ht]
  by_cases hk : k = l[j]
  · rw [if_pos hk, decide_eq_true (List.mem_append.2 (.inr (List.mem_singleton.2 hk)))]
  · rw [if_neg hk]
    exact decide_eq_decide.2 ⟨fun h => List.mem_append_left _ h, fun h => (List.mem_append.1 h).elim id fun h => absurd (List.mem_singleton.1 h) hk⟩

theorem chip_New (g : Geo) {B : Option Addr} {q cap : Nat} {l : List Int} {K : World} {F : List Assn} (hl : Seq K F B q 1 (ints .i64 l)) (hq : q ≤ 9223372036854775807) :
    Does Try.prog 13 #[g.v, .slice B q cap] K F (fun v H' =>
      (g.may = true ∧ (∀ x ∈ l, 0 ≤ x ∧ x < g.bl) ∧ ∃ bc, ∃ C : Cw, C.Ok ∧ C.sem = Chip.new g l ∧ v = .tuple #[ptr bc 0, .int .i64 0] ∧ H' = C.A bc :: F) ∨
      (¬ (g.may = true ∧ ∀ x ∈ l, 0 ≤ x ∧ x < g.bl) ∧ v = .tuple #[.pointer none, .int .i64 1] ∧ H' = F)) := by
  have hll : l.length = q := by simpa [ints] using hl.len
  cases hm : g.may with
  | false =>
    refine Does.enter Try.func13 rfl Try.ntmps13 rfl ?_
    simp only [env0, Nat.reduceAdd]
    refine WC.seq ?_
    refine WC.region ?_
    refine WL.box (cs := [_, _, _, _, _]) (OV.p rfl) rfl rfl (fun b2 => ?_)
    refine WL.val (V.assign (OV.p rfl)) rfl ?_
    refine WL.val (V.assign (OV.p rfl)) rfl ?_
    refine WL.nil ?_
    refine WC.seq ?_
    refine WC.region ?_
    refine WL.val (V.loadA (vs := [_, _, _, _, _]) ⟨Try.isAgg23, Try.sizeOf23⟩ (OV.p rfl) rfl (fun _ => by repeat (first | exact Rds.gets ⟨rfl, rfl, rfl, rfl, rfl, trivial⟩ | apply Rds.up))) rfl ?_
    refine WL.call (vs := [_]) Try.call40 ⟨OV.p rfl, trivial⟩ (Tells.eq (v' := .tuple #[.int .i64 0, .int .i64 1]) (ecc_Raw g _ _) (by rw [hm]; rfl)) rfl ?_
    rintro _ H0 ⟨rfl, h0⟩
    subst H0
    refine WL.val (V.move (OV.p rfl)) rfl ?_
    refine WL.val (V.extract (OV.p rfl) rfl) rfl ?_
    refine WL.val (V.extract (OV.p rfl) rfl) rfl ?_
    refine WL.val (V.assign (OV.p rfl)) rfl ?_
    refine WL.val (V.assign (OV.p rfl)) rfl ?_
    refine WL.nil ?_
    refine WC.seq ?_
    refine WC.seq ?_
    refine WC.region ?_
    refine WL.val (V.move (OV.p rfl)) rfl ?_
    refine WL.val (V.neq (OV.p rfl) (OV.p rfl)) rfl ?_
    refine WL.nil ?_
    refine WC.condT' rfl (by first | rfl | (simp; done) | (simp; omega)) ?_
    refine WC.seq ?_
    refine WC.region ?_
    refine WL.val (V.move (OV.p rfl)) rfl ?_
    refine WL.val (V.assign (OV.p rfl)) rfl ?_
    refine WL.val (V.assign (OV.p rfl)) rfl ?_
    refine WL.nil ?_
    refine WC.ret ?_
    exact BodyQ.ret (H' := F) (Res.tmp2 rfl rfl rfl) (fun w h => by repeat (first | exact h | replace h := h.tail)) (.inr ⟨fun h => (by cases h.1), rfl, rfl⟩)
  | true =>
    have hg := Geo.mays_of hm
    have hgb := hg
    unfold Geo.mays at hgb
    refine Does.enter Try.func13 rfl Try.ntmps13 rfl ?_
    simp only [env0, Nat.reduceAdd]
    refine WC.seq ?_
    refine WC.region ?_
    refine WL.box (cs := [_, _, _, _, _]) (OV.p rfl) rfl rfl (fun b2 => ?_)
    refine WL.val (V.assign (OV.p rfl)) rfl ?_
    refine WL.val (V.assign (OV.p rfl)) rfl ?_
    refine WL.nil ?_
    refine WC.seq ?_
    refine WC.region ?_
    refine WL.val (V.loadA (vs := [_, _, _, _, _]) ⟨Try.isAgg23, Try.sizeOf23⟩ (OV.p rfl) rfl (fun _ => by repeat (first | exact Rds.gets ⟨rfl, rfl, rfl, rfl, rfl, trivial⟩ | apply Rds.up))) rfl ?_
    refine WL.call (vs := [_]) Try.call40 ⟨OV.p rfl, trivial⟩ (Tells.eq (v' := .tuple #[.int .i64 g.raw, .int .i64 0]) (ecc_Raw g _ _) (by rw [hm]; rfl)) rfl ?_
    rintro _ H0 ⟨rfl, h0⟩
    subst H0
    refine WL.val (V.move (OV.p rfl)) rfl ?_
    refine WL.val (V.extract (OV.p rfl) rfl) rfl ?_
    refine WL.val (V.extract (OV.p rfl) rfl) rfl ?_
    refine WL.val (V.assign (OV.p rfl)) rfl ?_
    refine WL.val (V.assign (OV.p rfl)) rfl ?_
    refine WL.nil ?_
    refine WC.seq ?_
    refine WC.seq ?_
    refine WC.region ?_
    refine WL.val (V.move (OV.p rfl)) rfl ?_
    refine WL.val (V.neq (OV.p rfl) (OV.p rfl)) rfl ?_
    refine WL.nil ?_
    refine WC.condF' rfl (by first | rfl | (simp; done) | (simp; omega)) ?_
    refine WC.skip ?_
    refine WC.seq ?_
    refine WC.regionH (by kernel_rfl) ?_
    refine WA.take 0 (fun w h => h) rfl (by kernel_rfl) (by kernel_rfl) (by kernel_rfl) (fun _ _ _ h => h) (V.loadA (vs := [_, _, _, _, _]) ⟨Try.isAgg23, Try.sizeOf23⟩ (OV.p rfl) rfl (fun _ => by repeat (first | exact Rds.gets ⟨rfl, rfl, rfl, rfl, rfl, trivial⟩ | apply Rds.up))) rfl ?_
    refine WA.take 1 (fun w h => by repeat (first | exact h | replace h := h.tail)) rfl (by kernel_rfl) (by kernel_rfl) (by kernel_rfl) (fun _ _ _ h => h) (V.move (OV.p rfl)) rfl ?_
    refine WA.take 4 (fun w h => by repeat (first | exact h | replace h := h.tail)) rfl (by kernel_rfl) (by kernel_rfl) (by kernel_rfl) (fun _ _ _ h => h) (V.fieldAddr fo23_0 (OV.p rfl)) rfl ?_
    refine WA.take 5 (fun w h => by repeat (first | exact h | replace h := h.tail)) rfl (by kernel_rfl) (by kernel_rfl) (by kernel_rfl) (fun _ _ _ h => h) (V.load Try.isAgg3 (OV.p rfl) (fun _ => by repeat (first | exact Rd.here rfl | apply Rd.up))) rfl ?_
    refine WA.par (fuel := 3) (e0 := [(24, .int .i64 g.bl), (20, .int .i64 g.raw), (19, g.v), (1, .slice B q cap)]) (Lfin := #[true, true, true, true, true, true, true, true, true, false, false, false]) [⟨2, 21, fun b => .map (some b), fun b => MapA b key82 fun _ => none⟩, ⟨3, 22, fun b => .map (some b), fun b => MapA b key82 fun _ => none⟩, ⟨6, 25, fun b => .slice (some ⟨b, 0, none⟩) g.bl.toNat g.bl.toNat, fun b => Cells b 3 (List.replicate g.bl.toNat (.int .i64 0))⟩, ⟨7, 26, fun b => .map (some b), fun b => MapA b key3 fun _ => none⟩, ⟨8, 27, fun b => .map (some b), fun b => MapA b key3 fun _ => none⟩] _ rfl rfl rfl (.cons rfl (.cons rfl (.cons rfl (.cons rfl (.nil _))))) (by kernel_rfl) ?_ (fun w h => h) (fun bs hbs => ?_)
    · intro x hx
      simp only [List.mem_cons, List.not_mem_nil, or_false] at hx
      rcases hx with rfl | rfl | rfl | rfl | rfl
      · exact ⟨_, rfl, fun e' H' Q' hE h => WL.makeMap key82 rfl h⟩
      · exact ⟨_, rfl, fun e' H' Q' hE h => WL.makeMap key82 rfl h⟩
      · exact ⟨_, rfl, fun e' H' Q' hE h => WL.make1 (m := g.bl.toNat) Try.underlying40 el3 (OV.p (hE 24 _ rfl)) (OV.p (hE 24 _ rfl)) (by omega) (by omega) (by omega) rfl rfl rfl h⟩
      · exact ⟨_, rfl, fun e' H' Q' hE h => WL.makeMap key3 rfl h⟩
      · exact ⟨_, rfl, fun e' H' Q' hE h => WL.makeMap key3 rfl h⟩
    obtain ⟨b21, b22, b25, b26, b27, rfl⟩ : ∃ a b c d e, bs = [a, b, c, d, e] := by
      match bs, hbs with
      | [a, b, c, d, e], _ => exact ⟨a, b, c, d, e, rfl⟩
    simp only [List.zip_cons_cons, List.zip_nil_right, List.map_cons, List.map_nil, List.cons_append, List.nil_append]
    refine WA.take 9 (fun w h => by repeat (first | exact h | replace h := h.tail)) rfl (by kernel_rfl) (by kernel_rfl) (by kernel_rfl) (fun _ _ _ h => h) (V.build (vs := [(0, _), (1, _), (2, _), (3, _), (4, _), (5, _), (6, _), (8, _)]) ⟨OV.p rfl, OV.p rfl, OV.p rfl, OV.p rfl, OV.p rfl, OV.p rfl, OV.p rfl, OV.p rfl, trivial⟩ rfl (bld77_0_1_2_3_4_5_6_8 _ _ _ _ _ _ _ _ _ _ _ _ _ _)) rfl ?_
    refine WA.one (i := 10) (fun w h => by repeat (first | exact h | replace h := h.tail)) (by kernel_rfl) rfl ?_
    refine WL.box (cs := [_, _, _, _, _, _, _, _, _, _, _, _, _, _, _]) (OV.p rfl) rfl rfl (fun b29 => ?_)
    refine WL.nil ?_
    refine WA.take 11 (fun w h => by repeat (first | exact h | replace h := h.tail)) rfl (by kernel_rfl) (by kernel_rfl) (by kernel_rfl) (fun _ _ _ h => h) (V.assign (OV.p rfl)) rfl ?_
    refine WA.done (by kernel_rfl) (fun w h => by repeat (first | exact h | replace h := h.tail)) ?_
    refine WC.seq ?_
    refine WC.seq ?_
    refine WC.region ?_
    refine WL.val (V.move (OV.p rfl)) rfl ?_
    refine WL.val (V.len (t := 40) Try.runUnderlying40 (OV.p rfl)) rfl ?_
    refine WL.val (V.move (OV.p rfl)) rfl ?_
    refine WL.nil ?_
    refine WC.block ?_
    refine WC.loop (σ := Nat) (fun j => [(8, ptr b29 0), (30, .slice B q cap), (31, .int .i64 (q : Int)), (32, .int .i64 (j : Int))]) (fun j => Cells b29 77 (Cw.new g (fun _ => false) b21 b22 b25 b26 b27).cells :: MapA b21 key82 (fun _ => none) :: MapA b22 key82 (fun _ => none) :: Cells b25 3 (ints .i64 (List.replicate g.bl.toNat 0)) :: MapA b26 key3 (boolF fun k => decide (k ∈ l.take j)) :: MapA b27 key3 (fun _ => none) :: F) (fun j => j ≤ q ∧ ∀ x ∈ l.take j, 0 ≤ x ∧ x < g.bl) (fun j => q - j) 0 ⟨Nat.zero_le _, fun x hx => (by cases hx)⟩ (.cons rfl (.cons rfl (.cons rfl (.cons rfl (.nil _))))) (fun w h => ?_) ?_
    · rw [ints_replicate]
      have e1 : (Cw.new g (fun _ => false) b21 b22 b25 b26 b27).cells = _ := rfl
      refine Sat.cells_eq (h.sel 7 [0, 1, 2, 3, 4, 5] rfl) ?_
      simp [Cw.cells, Cw.new]
    rintro j ⟨hj, hin⟩
    refine WC.seq ?_
    refine WC.region ?_
    refine WL.val (V.lss (OV.p rfl) (OV.p rfl)) rfl ?_
    refine WL.nil ?_
    refine WC.seq ?_
    refine WC.cond rfl (fun hc1 => ?_) (fun hc1 => ?_)
    · try simp only [decide_eq_true_eq, decide_eq_false_iff_not, Bool.and_eq_true, Bool.or_eq_true, Bool.and_eq_false_iff, Bool.or_eq_false_iff, Bool.not_eq_true', Bool.not_eq_false', Bool.not_eq_true, Bool.not_eq_false, Int.not_lt, Int.not_le] at hc1
      refine WC.skip ?_
      refine WC.seq ?_
      refine WC.block ?_
      refine WC.seq ?_
      refine WC.region ?_
      refine WL.val (V.idxS st40 (OV.p rfl) (OV.p rfl) (fun hc => by first | omega | (simp at hc; omega)) (fun hc => by repeat (first | exact Seq.int_rd hl (by first | omega | (simp at hc; omega)) | apply Rd.up))) rfl ?_
      refine WL.val (V.load Try.isAgg3 (OV.p rfl) (fun hc => by repeat (first | exact Seq.int_rd hl (by first | omega | (simp at hc; omega)) | apply Rd.up))) rfl ?_
      refine WL.val (V.assign (OV.p rfl)) rfl ?_
      refine WL.nil ?_
      refine WC.seq ?_
      refine WC.seq ?_
      refine WC.region ?_
      refine WL.val (V.move (OV.p rfl)) rfl ?_
      refine WL.val (V.move (OV.p rfl)) rfl ?_
      refine WL.call (vs := [_, _]) Try.call41 ⟨OV.p rfl, OV.p rfl, trivial⟩ (chip_block (C := Cw.new g (fun _ => false) b21 b22 b25 b26 b27) _ (by repeat (first | exact Rds.all | apply Rds.up))) rfl ?_
      rintro _ H0 ⟨rfl, h0⟩
      subst H0
      refine WL.val (V.not (OV.p rfl)) rfl ?_
      refine WL.nil ?_
      refine WC.cond rfl (fun hc2 => ?_) (fun hc2 => ?_)
      · skip
        have h2 := hc2
        refine WC.seq ?_
        refine WC.region ?_
        refine WL.val (V.assign (OV.p rfl)) rfl ?_
        refine WL.val (V.assign (OV.p rfl)) rfl ?_
        refine WL.nil ?_
        refine WC.ret ?_
        refine BodyQ.ret (H' := F) (Res.tmp2 rfl rfl rfl) (fun w h => by repeat (first | exact h | replace h := h.tail)) (.inr ⟨fun h => ?_, rfl, rfl⟩)
        have h3 := h.2 (l.getD (j : Int).toNat 0) (by rw [List.getD, List.getElem?_eq_getElem (by omega)]; exact List.getElem_mem _)
        simp [Chip.block, Cw.sem, Cw.new] at h2
        simp at h3
        omega
      · skip
        have h2 := hc2
        refine WC.skip ?_
        refine WC.region ?_
        refine WL.val (V.move (OV.p rfl)) rfl ?_
        refine WL.val (V.nilCheck (OV.p rfl)) rfl ?_
        refine WL.val (V.fieldAddr fo77_5 (OV.p rfl)) rfl ?_
        refine WL.val (V.load Try.isAgg75 (OV.p rfl) (fun _ => by repeat (first | exact Rd.here rfl | apply Rd.up))) rfl ?_
        refine WL.val (V.move (OV.p rfl)) rfl ?_
        refine WL.mapUpdateR (k := _) Try.underlying75 kl3 (OV.p rfl) (OV.p rfl) (OV.p rfl) (by repeat (first | exact Repl.here | apply Repl.up)) ?_
        refine WL.nil ?_
        refine WC.region ?_
        refine WL.val (V.addI (OV.p rfl) (OV.p rfl) (fun hc => by first | omega | (simp at hc; omega))) rfl ?_
        refine WL.val (V.move (OV.p rfl)) rfl ?_
        refine WL.nil ?_
        refine ⟨rfl, ?_⟩
        refine ⟨j + 1, ⟨by show j + 1 ≤ q; omega, fun x hx => ?_⟩, (by show q - (j + 1) < q - j; omega), .cons rfl (.cons rfl (.cons rfl (.cons (look_eq rfl (by simp)) (.nil _)))), fun w h => ?_⟩
        · rw [List.take_add_one, List.getElem?_eq_getElem (by omega)] at hx
          rcases List.mem_append.1 hx with hx | hx
          · exact hin x hx
          · have hx' : x = l.getD (j : Int).toNat 0 := by
              simp at hx
              rw [show (j : Int).toNat = j by omega]
              simp [List.getD, show j < l.length by omega, hx]
            subst hx'
            simp [Chip.block, Cw.sem, Cw.new] at h2
            exact h2
        · rw [boolF_upd, show (j : Int).toNat = j by omega, mem_take_upd (by omega)] at h
          exact h
    · try simp only [decide_eq_true_eq, decide_eq_false_iff_not, Bool.and_eq_true, Bool.or_eq_true, Bool.and_eq_false_iff, Bool.or_eq_false_iff, Bool.not_eq_true', Bool.not_eq_false', Bool.not_eq_true, Bool.not_eq_false, Int.not_lt, Int.not_le] at hc1
      refine WC.exit ?_
      refine WC.seq ?_
      refine WC.region ?_
      refine WL.val (V.move (OV.p rfl)) rfl ?_
      refine WL.val (V.assign (OV.p rfl)) rfl ?_
      refine WL.val (V.assign (OV.p rfl)) rfl ?_
      refine WL.nil ?_
      refine WC.ret ?_
      obtain rfl : j = q := by omega
      rw [List.take_of_length_le (by omega)] at hin
      refine BodyQ.ret (H' := (Cw.new g (fun k => decide (k ∈ l.take j)) b21 b22 b25 b26 b27).A b29 :: F) (Res.tmp2 rfl rfl rfl) (fun w h => ?_) (.inl ⟨(by first | trivial | rfl), hin, b29, _, Cw.new_ok hg _ _ _ _ _ _, ?_, rfl, rfl⟩)
      · have h1 := (Sat.all (l := []) h).sel 7 [1, 2, 3, 4, 5, 6, 0] rfl
        exact Sat.all (l := (Cw.new g (fun k => decide (k ∈ l.take j)) b21 b22 b25 b26 b27).parts b29) h1
      · rw [List.take_of_length_le (by omega)]
        rfl
end Go.Proofs.Ytgmdagjnigkaaaa
