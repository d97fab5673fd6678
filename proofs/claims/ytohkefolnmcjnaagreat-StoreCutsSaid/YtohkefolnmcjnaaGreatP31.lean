import Derived.Test.YtohkefolnmcjnaaGreatP30
namespace Go.Proofs.YtohkefolnmcjnaaGreat
open Go.Sl Go.RowKit
set_option linter.unusedVariables false
set_option linter.unusedSimpArgs false
set_option maxRecDepth 20000
theorem store_deadChange {bs bd : Nat} {g : Geo} {T : Stw} {K : World} {F : List Assn} (hd : T.sem.dead = true) (leb : Int) {A : Option Addr} {m cap : Nat} : Tells Tryz.prog 31 #[ptr bs 0, .int .i64 leb, .slice A m cap] K (T.A bs bd g :: F) (.int .i64 70) := by
  have hr : T.sem.ready leb = 70 := by unfold St.ready; rw [hd, if_pos rfl]
  refine Does.enterM Tryz.func31 rfl Tryz.ntmps31 rfl ?_
  simp only [env0, Nat.reduceAdd]
  refine WC.sr ?_
  refine WL.box (cs := [_]) (OV.p rfl) rfl rfl (fun b3 => ?_)
  refine WL.box (cs := [_]) (OV.p rfl) rfl rfl (fun b4 => ?_)
  refine WL.box (cs := [_]) (OV.p rfl) rfl rfl (fun b5 => ?_)
  refine WL.alloc (cs := [(.int .i64 0)]) Tryz.zeroValue28 rfl rfl (fun b6 => ?_)
  refine WL.nil ?_
  refine WC.seq ?_
  refine WC.seq ?_
  refine WC.sub (Sub.refl _) (fun w h => h.sel 5 [4, 0, 1, 2, 3] rfl) ?_
  refine WC.region ?_
  refine WL.ld Tryz.isAgg56 rfl rfl ?_
  refine WL.ld Tryz.isAgg3 rfl rfl ?_
  refine WL.call (vs := [_, _]) Tryz.call88 ⟨OV.p rfl, OV.p rfl, trivial⟩ (Tells.eq (store_ready leb) (by rw [hr])) rfl ?_
  rintro _ H0 ⟨rfl, h0⟩
  subst H0
  refine WL.sg rfl rfl ?_
  refine WL.nil ?_
  refine WC.sr ?_
  refine WL.mv rfl rfl ?_
  refine WL.val (V.neq (OV.p rfl) (OV.p rfl)) rfl ?_
  refine WL.nil ?_
  refine WC.condT' rfl ((by simp)) ?_
  refine WC.sr ?_
  refine WL.mv rfl rfl ?_
  refine WL.store (cs := [_]) Tryz.sizeOf28 (OV.p rfl) (OV.p rfl) rfl rfl rfl (by repeat (first | exact Upd.here (cs' := [_]) rfl rfl | apply Upd.up)) ?_
  refine WL.nil ?_
  refine WC.ret ?_
  exact BodyQM.ret (H' := T.A bs bd g :: F) (Res.one rfl (R1.cell1 rfl Tryz.isAgg28 (by repeat (first | exact Rd.here rfl | apply Rd.up)))) (fun w h => h.sel 5 [0] rfl) ⟨rfl, rfl⟩
set_option maxHeartbeats 2000000 in
theorem law11_StoreCuts (g : Geo) (lebs : Int) {Ab A : Option Addr} {qb cb m cap : Nat} {bad : List Int} {sc : List Op11} {K : World} {F : List Assn} (hb : Seq K F Ab qb 1 (ints .i64 bad)) (hs : Script11 K F A m sc) :
    Tells Tryz.prog 9 #[g.v, .slice Ab qb cb, .int .i64 lebs, .slice A m cap] K F (.bool true) := by
  have hsl := hs.len
  by_cases hv : g.may = true ∧ ∀ x ∈ bad, 0 ≤ x ∧ x < g.bl
  rotate_left
  · skip
    refine Does.enter Tryz.func9 rfl Tryz.ntmps9 rfl ?_
    simp only [env0, Nat.reduceAdd]
    refine WC.sr ?_
    refine WL.box (cs := [_, _, _, _, _]) (OV.p rfl) rfl rfl (fun b4 => ?_)
    refine WL.sg rfl rfl ?_
    refine WL.nil ?_
    refine WC.seq ?_
    refine WC.sr ?_
    refine WL.val (V.loadA (vs := [_, _, _, _, _]) ⟨Tryz.isAgg23, Tryz.sizeOf23⟩ (OV.p rfl) rfl (fun _ => by repeat (first | exact Rds.gets ⟨rfl, rfl, rfl, rfl, rfl, trivial⟩ | apply Rds.up))) rfl ?_
    refine WL.call (vs := [_]) Tryz.call36 ⟨OV.p rfl, trivial⟩ (law11_small g _ _) rfl ?_
    rintro _ H0 ⟨rfl, h0⟩
    subst H0
    refine WL.val (V.not (OV.p rfl)) rfl ?_
    refine WL.mv rfl rfl ?_
    refine WL.valG (oj := _) rfl rfl rfl GC.f (V.move (OV.p rfl)) rfl ?_
    refine WL.valG (oj := _) rfl rfl rfl GC.f (V.len (t := 42) Tryz.runUnderlying42 (OV.g rfl id)) rfl ?_
    refine WL.valG (oj := _) rfl rfl rfl GC.f (V.gtr (OV.g rfl id) (OV.p rfl)) rfl ?_
    refine WL.val (V.pickOr (OV.p rfl) (OV.g rfl id)) rfl ?_
    refine WL.mv rfl rfl ?_
    refine WL.valG (oj := _) rfl rfl rfl GC.f (V.move (OV.p rfl)) rfl ?_
    refine WL.valG (oj := _) rfl rfl rfl GC.f (V.lss (OV.g rfl id) (OV.p rfl)) rfl ?_
    refine WL.val (V.pickOr (OV.p rfl) (OV.g rfl id)) rfl ?_
    refine WL.mv rfl rfl ?_
    refine WL.valG (oj := _) rfl rfl rfl GC.f (V.move (OV.p rfl)) rfl ?_
    refine WL.valG (oj := _) rfl rfl rfl GC.f (V.gtr (OV.g rfl id) (OV.p rfl)) rfl ?_
    refine WL.val (V.pickOr (OV.p rfl) (OV.g rfl id)) rfl ?_
    refine WL.mv rfl rfl ?_
    refine WL.valG (oj := _) rfl rfl rfl GC.f (V.move (OV.p rfl)) rfl ?_
    refine WL.callG (oj := _) (vs := [_]) rfl rfl rfl GC.f Tryz.call40 ⟨OV.g rfl id, trivial⟩ (fun hg => law11_few (l := sc) hs.up) rfl ?_
    refine WL.valG (oj := _) rfl rfl rfl GC.f (V.not (OV.g rfl id)) rfl ?_
    refine WL.val (V.pickOr (OV.p rfl) (OV.g rfl id)) rfl ?_
    refine WL.nil ?_
    refine WC.cond rfl (fun hc0 => ?_) (fun hc0 => ?_)
    ·simp only [Bool.or_eq_true, Bool.or_eq_false_iff, Bool.and_eq_true, decide_eq_true_eq, decide_eq_false_iff_not, Bool.not_eq_true', Bool.not_eq_false'] at hc0
     refine WC.sr ?_
     refine WL.sg rfl rfl ?_
     refine WL.nil ?_
     refine WC.ret ?_
     exact BodyQ.ret (H' := F) (Res.tmp rfl rfl) (fun w h => h.drop 1) ⟨rfl, rfl⟩
    ·simp only [Bool.or_eq_true, Bool.or_eq_false_iff, Bool.and_eq_true, decide_eq_true_eq, decide_eq_false_iff_not, Bool.not_eq_true', Bool.not_eq_false'] at hc0
     obtain ⟨⟨⟨⟨⟨⟨⟨hmay, h32⟩, h12⟩, hp5⟩, hb20⟩, hl1⟩, hl12⟩, hfew⟩ := hc0
     refine WC.skip ?_
     refine WC.sr ?_
     refine WL.val (V.loadA (vs := [_, _, _, _, _]) ⟨Tryz.isAgg23, Tryz.sizeOf23⟩ (OV.p rfl) rfl (fun _ => by repeat (first | exact Rds.gets ⟨rfl, rfl, rfl, rfl, rfl, trivial⟩ | apply Rds.up))) rfl ?_
     refine WL.mv rfl rfl ?_
     refine WL.call (vs := [_, _]) Tryz.call13 ⟨OV.p rfl, OV.p rfl, trivial⟩ (chip_New g hb.up (by omega)) rfl ?_
     rintro _ _ (⟨hm, hin, _⟩ | ⟨hno, rfl, rfl⟩)
     · exact absurd ⟨hm, hin⟩ hv
     refine WL.mv rfl rfl ?_
     refine WL.xt rfl rfl rfl ?_
     refine WL.xt rfl rfl rfl ?_
     refine WL.sg rfl rfl ?_
     refine WL.sg rfl rfl ?_
     refine WL.nil ?_
     refine WC.seq ?_
     refine WC.sr ?_
     refine WL.mv rfl rfl ?_
     refine WL.val (V.neq (OV.p rfl) (OV.p rfl)) rfl ?_
     refine WL.nil ?_
     refine WC.condT' rfl (by first | rfl | (simp; done) | (simp; omega)) ?_
     refine WC.sr ?_
     refine WL.call (vs := []) Tryz.call30 trivial (law11_awake _ _) rfl ?_
     rintro _ H0 ⟨rfl, h0⟩
     subst H0
     refine WL.mv rfl rfl ?_
     refine WL.valG (oj := _) rfl rfl rfl GC.t (V.move (OV.p rfl)) rfl ?_
     refine WL.valG (oj := _) rfl rfl rfl GC.t (V.eqlP Tryz.underlying27 (OV.g rfl id) (OV.p rfl)) rfl ?_
     refine WL.val (V.pickAnd (OV.p rfl) (OV.g rfl id)) rfl ?_
     refine WL.sg rfl rfl ?_
     refine WL.nil ?_
     refine WC.ret ?_
     exact BodyQ.ret (H' := F) (Res.tmp rfl rfl) (fun w h => h.drop 1) ⟨rfl, rfl⟩
  · skip
    refine Does.enter Tryz.func9 rfl Tryz.ntmps9 rfl ?_
    simp only [env0, Nat.reduceAdd]
    refine WC.sr ?_
    refine WL.box (cs := [_, _, _, _, _]) (OV.p rfl) rfl rfl (fun b4 => ?_)
    refine WL.sg rfl rfl ?_
    refine WL.nil ?_
    refine WC.seq ?_
    refine WC.sr ?_
    refine WL.val (V.loadA (vs := [_, _, _, _, _]) ⟨Tryz.isAgg23, Tryz.sizeOf23⟩ (OV.p rfl) rfl (fun _ => by repeat (first | exact Rds.gets ⟨rfl, rfl, rfl, rfl, rfl, trivial⟩ | apply Rds.up))) rfl ?_
    refine WL.call (vs := [_]) Tryz.call36 ⟨OV.p rfl, trivial⟩ (law11_small g _ _) rfl ?_
    rintro _ H0 ⟨rfl, h0⟩
    subst H0
    refine WL.val (V.not (OV.p rfl)) rfl ?_
    refine WL.mv rfl rfl ?_
    refine WL.valG (oj := _) rfl rfl rfl GC.f (V.move (OV.p rfl)) rfl ?_
    refine WL.valG (oj := _) rfl rfl rfl GC.f (V.len (t := 42) Tryz.runUnderlying42 (OV.g rfl id)) rfl ?_
    refine WL.valG (oj := _) rfl rfl rfl GC.f (V.gtr (OV.g rfl id) (OV.p rfl)) rfl ?_
    refine WL.val (V.pickOr (OV.p rfl) (OV.g rfl id)) rfl ?_
    refine WL.mv rfl rfl ?_
    refine WL.valG (oj := _) rfl rfl rfl GC.f (V.move (OV.p rfl)) rfl ?_
    refine WL.valG (oj := _) rfl rfl rfl GC.f (V.lss (OV.g rfl id) (OV.p rfl)) rfl ?_
    refine WL.val (V.pickOr (OV.p rfl) (OV.g rfl id)) rfl ?_
    refine WL.mv rfl rfl ?_
    refine WL.valG (oj := _) rfl rfl rfl GC.f (V.move (OV.p rfl)) rfl ?_
    refine WL.valG (oj := _) rfl rfl rfl GC.f (V.gtr (OV.g rfl id) (OV.p rfl)) rfl ?_
    refine WL.val (V.pickOr (OV.p rfl) (OV.g rfl id)) rfl ?_
    refine WL.mv rfl rfl ?_
    refine WL.valG (oj := _) rfl rfl rfl GC.f (V.move (OV.p rfl)) rfl ?_
    refine WL.callG (oj := _) (vs := [_]) rfl rfl rfl GC.f Tryz.call40 ⟨OV.g rfl id, trivial⟩ (fun hg => law11_few (l := sc) hs.up) rfl ?_
    refine WL.valG (oj := _) rfl rfl rfl GC.f (V.not (OV.g rfl id)) rfl ?_
    refine WL.val (V.pickOr (OV.p rfl) (OV.g rfl id)) rfl ?_
    refine WL.nil ?_
    refine WC.cond rfl (fun hc0 => ?_) (fun hc0 => ?_)
    ·simp only [Bool.or_eq_true, Bool.or_eq_false_iff, Bool.and_eq_true, decide_eq_true_eq, decide_eq_false_iff_not, Bool.not_eq_true', Bool.not_eq_false'] at hc0
     refine WC.sr ?_
     refine WL.sg rfl rfl ?_
     refine WL.nil ?_
     refine WC.ret ?_
     exact BodyQ.ret (H' := F) (Res.tmp rfl rfl) (fun w h => h.drop 1) ⟨rfl, rfl⟩
    ·simp only [Bool.or_eq_true, Bool.or_eq_false_iff, Bool.and_eq_true, decide_eq_true_eq, decide_eq_false_iff_not, Bool.not_eq_true', Bool.not_eq_false'] at hc0
     obtain ⟨⟨⟨⟨⟨⟨⟨hmay, h32⟩, h12⟩, hp5⟩, hb20⟩, hl1⟩, hl12⟩, hfew⟩ := hc0
     have hgM := Geo.mays_of hmay
     have hgb := hgM
     unfold Geo.mays at hgb
     have hcb := Geo.cap_bd hgM
     obtain ⟨nl, rfl⟩ : ∃ nl : Nat, lebs = (nl : Int) := ⟨lebs.toNat, by omega⟩
     have hnl : 1 ≤ nl ∧ nl ≤ 12 := by omega
     have hfw : m ≤ 80 ∧ ∀ o ∈ sc, o.dx.length ≤ 200 := by
       unfold few11 at hfew
       simp only [Bool.and_eq_true, decide_eq_true_eq, List.all_eq_true, Bool.not_eq_true', decide_eq_false_iff_not] at hfew
       exact ⟨by omega, fun o ho => by have := hfew.2 o ho; omega⟩
     refine WC.skip ?_
     refine WC.sr ?_
     refine WL.val (V.loadA (vs := [_, _, _, _, _]) ⟨Tryz.isAgg23, Tryz.sizeOf23⟩ (OV.p rfl) rfl (fun _ => by repeat (first | exact Rds.gets ⟨rfl, rfl, rfl, rfl, rfl, trivial⟩ | apply Rds.up))) rfl ?_
     refine WL.mv rfl rfl ?_
     refine WL.call (vs := [_, _]) Tryz.call13 ⟨OV.p rfl, OV.p rfl, trivial⟩ (chip_New g hb.up (by omega)) rfl ?_
     rintro _ _ (⟨hm, hin, bc, C0, hC0, s0, rfl, rfl⟩ | ⟨hno, rfl, rfl⟩)
     rotate_left
     · exact (hno hv).elim
     have g0 : C0.g = g := by rw [show C0.g = C0.sem.g from rfl, s0]; rfl
     have u0 : C0.sem.up = true := by rw [s0]; rfl
     have o0 : C0.on.sem = Chip.new g bad := by show C0.sem.on = _; rw [on_same u0, s0]
     refine WL.mv rfl rfl ?_
     refine WL.xt rfl rfl rfl ?_
     refine WL.xt rfl rfl rfl ?_
     refine WL.sg rfl rfl ?_
     refine WL.sg rfl rfl ?_
     refine WL.nil ?_
     refine WC.seq ?_
     refine WC.sr ?_
     refine WL.mv rfl rfl ?_
     refine WL.val (V.neq (OV.p rfl) (OV.p rfl)) rfl ?_
     refine WL.nil ?_
     refine WC.condF' rfl (by first | rfl | (simp; done) | (simp; omega)) ?_
     refine WC.skip ?_
     refine WC.sr ?_
     refine WL.mv rfl rfl ?_
     refine WL.mv rfl rfl ?_
     refine WL.call (vs := [_, _]) Tryz.call38 ⟨OV.p rfl, OV.p rfl, trivial⟩ (law11_open hC0 g0 (lebs := nl) (by omega) (by omega)) rfl ?_
     rintro _ _ ⟨bd0, bs0, T0, hT0, t0, rfl, rfl⟩
     refine WL.sg rfl rfl ?_
     refine WL.nil ?_
     refine WC.seq ?_
     refine WC.sr ?_
     refine WL.mv rfl rfl ?_
     refine WL.val (V.eqlP Tryz.underlying56 (OV.p rfl) (OV.p rfl)) rfl ?_
     refine WL.nil ?_
     refine WC.condF' rfl (by first | rfl | (simp; done) | (simp; omega)) ?_
     refine WC.skip ?_
     refine WC.sr ?_
     refine WL.mv rfl rfl ?_
     refine WL.call (vs := [_]) Tryz.call41 ⟨OV.p rfl, trivial⟩ (ref11_New (n := nl) (by omega)) rfl ?_
     rintro _ _ ⟨M0, hM1, hM2, rfl, rfl⟩
     refine WL.alloc (cs := [(.slice none 0 0), (.slice none 0 0)]) Tryz.zeroValue73 rfl rfl (fun b12 => ?_)
     refine WL.store (cs := [_, _]) Tryz.sizeOf73 (OV.p rfl) (OV.p rfl) rfl rfl rfl (by repeat (first | exact Upd.here (cs' := [_, _]) rfl rfl | apply Upd.up)) ?_
     refine WL.nil ?_
     refine WC.seq ?_
     refine WC.sr ?_
     refine WL.sg rfl rfl ?_
     refine WL.nil ?_
     refine WC.block ?_
     have hI0 : CutI nl g 0 C0.on T0 M0 := by
       have hms : M0.sem = fun _ => none := by
         funext k
         unfold Mw.sem
         rw [hM1]
         have : (List.replicate nl false).getD k false = false := by
           simp only [List.getD, List.getElem?_replicate]
           split <;> rfl
         rw [this]; rfl
       refine ⟨hC0.on, g0, hT0, rfl, ⟨fun _ => none, ?_⟩, ?_, by rw [hM1, List.length_replicate], by rw [hM2, List.length_replicate]⟩
       · rw [t0, o0, hms]
         exact (Chip.open_si (Chip.CM.new hgM nl nl) rfl)
       · rw [t0, o0, open_next hgM]; decide
     refine WC.loop (σ := Nat × Cw × Stw × Nat × Nat × Mw) (fun s => [(2, .int .i64 (nl : Int)), (3, .slice A m cap), (9, ptr bc 0), (11, ptr s.2.2.2.1 0), (12, ptr b12 0), (13, .int .i64 (s.1 : Int))]) (fun s => s.2.1.A bc :: DvA s.2.2.2.2.1 bc g :: s.2.2.1.A s.2.2.2.1 s.2.2.2.2.1 g :: s.2.2.2.2.2.A :: Cells b12 73 s.2.2.2.2.2.cells :: F) (fun s => s.1 ≤ m ∧ CutI nl g s.1 s.2.1 s.2.2.1 s.2.2.2.2.2) (fun s => m - s.1) (0, C0.on, T0, bs0, bd0, M0) ⟨Nat.zero_le _, hI0⟩ (.cons rfl (.cons rfl (.cons rfl (.cons rfl (.cons rfl (.cons rfl (.nil _))))))) (fun w h => h.sel 5 [2, 3, 4, 1, 0] rfl |>.sel 5 [0, 1, 2, 3, 4] rfl |> fun h' => by
       dsimp only
       exact h.sel 6 [2, 3, 4, 1, 0] rfl) ?_
     rintro ⟨i, C, T, bs, bd, M⟩ ⟨hi, hI⟩
     dsimp only at hi hI ⊢
     have hC := hI.ok
     have hg' := hI.geo
     have hT := hI.tok
     refine WC.seq ?_
     refine WC.sr ?_
     refine WL.mv rfl rfl ?_
     refine WL.mv rfl rfl ?_
     refine WL.val (V.len (t := 69) Tryz.runUnderlying69 (OV.p rfl)) rfl ?_
     refine WL.val (V.lss (OV.p rfl) (OV.p rfl)) rfl ?_
     refine WL.nil ?_
     refine WC.cond rfl (fun hc3 => ?_) (fun hc3 => ?_)
     ·simp only [decide_eq_true_eq, decide_eq_false_iff_not] at hc3
      have him : i < m := by omega
      obtain ⟨o, ho'⟩ : ∃ o, sc[i]? = some o := ⟨_, List.getElem?_eq_getElem (by omega)⟩
      have ho := hs.ok o (List.mem_of_getElem? ho')
      have hof := hfw.2 o (List.mem_of_getElem? ho')
      have hti : (i : Int).toNat = i := by omega
      have hel : ∀ (j : Nat) v, o.cells[j]? = some v → Rd K F (A.map (·.add (i * 6 + j))) v := fun j v hj => hs.elem ho' hj
      refine WC.skip ?_
      refine WC.seq ?_
      refine WC.block ?_
      refine WC.sr ?_
      refine WL.mv rfl rfl ?_
      refine WL.mv rfl rfl ?_
      refine WL.val (V.val_eq (v' := sp A (i * 6)) (V.idxS st69 (OV.p rfl) (OV.p rfl) (fun hc => by omega) (fun hc => by rw [hti]; repeat (first | exact hel 0 _ rfl | apply Rd.up))) (fun _ => by rw [hti])) rfl ?_
      refine WL.val (V.loadS (vs := o.cells) ⟨Tryz.isAgg76, Tryz.sizeOf76⟩ (OV.p rfl) rfl (by decide) (fun _ j v hj => by repeat (first | exact hel j v hj | apply Rd.up))) rfl ?_
      refine WL.alloc (cs := [(.int .i64 0), (.int .i64 0), (.int .i64 0), (.int .i64 0), (.int .i64 0), (.slice none 0 0)]) Tryz.zeroValue76 rfl rfl (fun b14 => ?_)
      refine WL.store (cs := [_, _, _, _, _, _]) Tryz.sizeOf76 (OV.p rfl) (OV.p rfl) rfl rfl rfl (by repeat (first | exact Upd.here (cs' := [_, _, _, _, _, _]) rfl rfl | apply Upd.up)) ?_
      refine WL.nil ?_
      refine WC.seq ?_
      refine WC.sr ?_
      refine WL.val (V.fieldAddr fo76_0 (OV.p rfl)) rfl ?_
      refine WL.ld Tryz.isAgg3 rfl rfl ?_
      refine WL.val (V.eql (OV.p rfl) (OV.p rfl)) rfl ?_
      refine WL.nil ?_
      refine WC.cond rfl (fun hc4 => ?_) (fun hc4 => ?_)
      ·try simp only [decide_eq_true_eq, decide_eq_false_iff_not, Bool.and_eq_true, Bool.or_eq_true, Bool.and_eq_false_iff, Bool.or_eq_false_iff, Bool.not_eq_true', Bool.not_eq_false', Bool.not_eq_true, Bool.not_eq_false, Int.not_lt, Int.not_le] at hc4
       refine WC.sr ?_
       refine WL.mv rfl rfl ?_
       refine WL.val (V.fieldAddr fo76_3 (OV.p rfl)) rfl ?_
       refine WL.ld Tryz.isAgg3 rfl rfl ?_
       refine WL.val (V.fieldAddr fo76_4 (OV.p rfl)) rfl ?_
       refine WL.ld Tryz.isAgg3 rfl rfl ?_
       refine WL.sub (Sub.refl _) (fun w h => h.p1) ?_
       refine WL.call (vs := [_, _, _]) Tryz.call42 ⟨OV.p rfl, OV.p rfl, OV.p rfl, trivial⟩ (chip_Arm o.n o.keep) rfl ?_
       rintro _ _ rfl
       obtain ⟨Cx, Tx, Mx, hIx, hmx⟩ : ∃ (Cx : Cw) (Tx : Stw) (Mx : Mw), CutI nl g (i + 1) Cx Tx Mx ∧ ∀ w, Sat K w ((C.arm o.n o.keep).A bc :: Cells b14 76 o.cells :: DvA bd bc g :: T.A bs bd g :: M.A :: Cells b12 73 M.cells :: F) → Sat K w (Cx.A bc :: DvA bd bc g :: Tx.A bs bd g :: Mx.A :: Cells b12 73 Mx.cells :: F) := ⟨C.arm o.n o.keep, T, M, hI.turn (hC.arm ho.n) hg' hI.up (Chip.Eqv.arm _ _ _), fun w h => h.sel 5 [0, 2, 3, 4] rfl⟩
       refine WL.nil ?_
       refine WC.exit ?_
       refine WC.region ?_
       refine WL.mv rfl rfl ?_
       refine WL.ad rfl rfl rfl ?_
       refine WL.sg rfl rfl ?_
       refine WL.nil ?_
       refine ⟨rfl, ?_⟩
       exact ⟨(i + 1, Cx, Tx, bs, bd, Mx), ⟨him, hIx⟩, (by show m - (i + 1) < m - i; omega), .cons rfl (.cons rfl (.cons rfl (.cons rfl (.cons rfl (.cons (look_eq rfl (by simp)) (.nil _)))))), fun w h => hmx w h⟩
      ·try simp only [decide_eq_true_eq, decide_eq_false_iff_not, Bool.and_eq_true, Bool.or_eq_true, Bool.and_eq_false_iff, Bool.or_eq_false_iff, Bool.not_eq_true', Bool.not_eq_false', Bool.not_eq_true, Bool.not_eq_false, Int.not_lt, Int.not_le] at hc4
       refine WC.skip ?_
       refine WC.seq ?_
       refine WC.sr ?_
       refine WL.val (V.fieldAddr fo76_0 (OV.p rfl)) rfl ?_
       refine WL.ld Tryz.isAgg3 rfl rfl ?_
       refine WL.val (V.eql (OV.p rfl) (OV.p rfl)) rfl ?_
       refine WL.nil ?_
       refine WC.cond rfl (fun hc5 => ?_) (fun hc5 => ?_)
       ·try simp only [decide_eq_true_eq, decide_eq_false_iff_not, Bool.and_eq_true, Bool.or_eq_true, Bool.and_eq_false_iff, Bool.or_eq_false_iff, Bool.not_eq_true', Bool.not_eq_false', Bool.not_eq_true, Bool.not_eq_false, Int.not_lt, Int.not_le] at hc5
        refine WC.sr ?_
        refine WL.mv rfl rfl ?_
        refine WL.val (V.fieldAddr fo76_2 (OV.p rfl)) rfl ?_
        refine WL.ld Tryz.isAgg3 rfl rfl ?_
        refine WL.sub (Sub.refl _) (fun w h => h.p1) ?_
        refine WL.call (vs := [_, _]) Tryz.call43 ⟨OV.p rfl, OV.p rfl, trivial⟩ (chip_WeakG hC hg' o.block) rfl ?_
        rintro _ _ ⟨Cy, hCw, gw, rfl, sw⟩
        obtain ⟨Cx, Tx, Mx, hIx, hmx⟩ : ∃ (Cx : Cw) (Tx : Stw) (Mx : Mw), CutI nl g (i + 1) Cx Tx Mx ∧ ∀ w, Sat K w (Cy.A bc :: Cells b14 76 o.cells :: DvA bd bc g :: T.A bs bd g :: M.A :: Cells b12 73 M.cells :: F) → Sat K w (Cx.A bc :: DvA bd bc g :: Tx.A bs bd g :: Mx.A :: Cells b12 73 Mx.cells :: F) := ⟨Cy, T, M, hI.turn hCw gw (by rw [sw]; unfold Chip.weaken; split <;> exact hI.up) (by rw [sw]; exact Chip.Eqv.weaken _ _), fun w h => h.sel 5 [0, 2, 3, 4] rfl⟩
        refine WL.nil ?_
        refine WC.exit ?_
        refine WC.region ?_
        refine WL.mv rfl rfl ?_
        refine WL.ad rfl rfl rfl ?_
        refine WL.sg rfl rfl ?_
        refine WL.nil ?_
        refine ⟨rfl, ?_⟩
        exact ⟨(i + 1, Cx, Tx, bs, bd, Mx), ⟨him, hIx⟩, (by show m - (i + 1) < m - i; omega), .cons rfl (.cons rfl (.cons rfl (.cons rfl (.cons rfl (.cons (look_eq rfl (by simp)) (.nil _)))))), fun w h => hmx w h⟩
       ·try simp only [decide_eq_true_eq, decide_eq_false_iff_not, Bool.and_eq_true, Bool.or_eq_true, Bool.and_eq_false_iff, Bool.or_eq_false_iff, Bool.not_eq_true', Bool.not_eq_false', Bool.not_eq_true, Bool.not_eq_false, Int.not_lt, Int.not_le] at hc5
        refine WC.skip ?_
        refine WC.seq ?_
        refine WC.seq ?_
        refine WC.sub (H' := T.A bs bd g :: C.A bc :: DvA bd bc g :: M.A :: Cells b14 76 o.cells :: Cells b12 73 M.cells :: F) (Sub.refl _) (fun w h => h.sel 5 [3, 1, 2, 4, 0] rfl) ?_
        refine WC.regionQ (by kernel_rfl) (by kernel_rfl) ?_
        refine WQ.val (V.fieldAddr fo76_1 (OV.p rfl)) rfl ?_
        refine WQ.val (V.load Tryz.isAgg3 (OV.p rfl) (fun _ => by repeat (first | exact Rd.here rfl | apply Rd.up))) rfl ?_
        refine WQ.val (V.lss (OV.p rfl) (OV.p rfl)) rfl ?_
        refine WQ.val (V.move (OV.p rfl)) rfl ?_
        refine WQ.valG (oj := _) rfl rfl rfl GC.f (V.fieldAddr fo76_1 (OV.p rfl)) rfl ?_
        refine WQ.valG (oj := _) rfl rfl rfl GC.f (V.load Tryz.isAgg3 (OV.g rfl id) (fun _ => by repeat (first | exact Rd.here rfl | apply Rd.up))) rfl ?_
        refine WQ.valG (oj := _) rfl rfl rfl GC.f (V.move (OV.p rfl)) rfl ?_
        refine WQ.valG (oj := _) rfl rfl rfl GC.f (V.geq (OV.g rfl id) (OV.g rfl id)) rfl ?_
        refine WQ.val (V.pickOr (OV.p rfl) (OV.g rfl id)) rfl ?_
        refine WQ.val (V.move (OV.p rfl)) rfl ?_
        refine WQ.valG (oj := _) rfl rfl rfl GC.f (V.fieldAddr fo76_5 (OV.p rfl)) rfl ?_
        refine WQ.valG (oj := _) rfl rfl rfl GC.f (V.load Tryz.isAgg38 (OV.g rfl id) (fun _ => by repeat (first | exact Rd.here rfl | apply Rd.up))) rfl ?_
        refine WQ.valG (oj := _) rfl rfl rfl GC.f (V.len (t := 38) Tryz.runUnderlying38 (OV.g rfl id)) rfl ?_
        refine WQ.valG (oj := _) rfl rfl rfl GC.f (V.move (OV.p rfl)) rfl ?_
        refine WQ.callG (oj := _) (vs := [_]) rfl rfl rfl GC.f Tryz.call34 ⟨OV.g rfl id, trivial⟩ (fun hg => store_Cap hgM) rfl ?_
        refine WQ.valG (oj := _) rfl rfl rfl GC.f (V.gtr (OV.g rfl id) (OV.g rfl id)) rfl ?_
        refine WQ.val (V.pickOr (OV.p rfl) (OV.g rfl id)) rfl ?_
        refine WQ.val (V.move (OV.p rfl)) rfl ?_
        refine WQ.valG (oj := _) rfl rfl rfl GC.f (V.fieldAddr fo76_0 (OV.p rfl)) rfl ?_
        refine WQ.valG (oj := _) rfl rfl rfl GC.f (V.load Tryz.isAgg3 (OV.g rfl id) (fun _ => by repeat (first | exact Rd.here rfl | apply Rd.up))) rfl ?_
        refine WQ.valG (oj := _) rfl rfl rfl GC.f (V.gtr (OV.g rfl id) (OV.p rfl)) rfl ?_
        refine WQ.val (V.pickOr (OV.p rfl) (OV.g rfl id)) rfl ?_
        refine WQ.nil ?_
        refine WC.cond rfl (fun hc6 => ?_) (fun hc6 => ?_)
        ·simp only [Bool.or_eq_true, Bool.or_eq_false_iff, decide_eq_true_eq, decide_eq_false_iff_not] at hc6
         have h6 := hc6
         obtain ⟨Cx, Tx, Mx, hIx, hmx⟩ : ∃ (Cx : Cw) (Tx : Stw) (Mx : Mw), CutI nl g (i + 1) Cx Tx Mx ∧ ∀ w, Sat K w (T.A bs bd g :: C.A bc :: DvA bd bc g :: M.A :: Cells b14 76 o.cells :: Cells b12 73 M.cells :: F) → Sat K w (Cx.A bc :: DvA bd bc g :: Tx.A bs bd g :: Mx.A :: Cells b12 73 Mx.cells :: F) := ⟨C, T, M, hI.stay, fun w h => h.sel 5 [1, 2, 0, 3] rfl⟩
         refine WC.exit ?_
         refine WC.region ?_
         refine WL.mv rfl rfl ?_
         refine WL.ad rfl rfl rfl ?_
         refine WL.sg rfl rfl ?_
         refine WL.nil ?_
         refine ⟨rfl, ?_⟩
         exact ⟨(i + 1, Cx, Tx, bs, bd, Mx), ⟨him, hIx⟩, (by show m - (i + 1) < m - i; omega), .cons rfl (.cons rfl (.cons rfl (.cons rfl (.cons rfl (.cons (look_eq rfl (by simp)) (.nil _)))))), fun w h => hmx w h⟩
        ·simp only [Bool.or_eq_true, Bool.or_eq_false_iff, decide_eq_true_eq, decide_eq_false_iff_not] at hc6
         have h6 := hc6
         obtain ⟨⟨⟨hq1, hq2⟩, hq3⟩, hq4⟩ := h6
         obtain ⟨i0, hi0⟩ : ∃ i0 : Nat, o.leb = (i0 : Int) := ⟨o.leb.toNat, by omega⟩
         have hi0l : i0 < nl := by omega
         have hlh := hI.lh
         have hld := hI.ld
         obtain ⟨st0, hSI0⟩ := hI.si
         have hlong : ∀ l ∈ T.sem.stale, l.length ≤ 1000 := fun l hl' => Nat.le_trans (hSI0.long l hl') (by omega)
         refine WC.skip ?_
         refine WC.sr ?_
         refine WL.val (V.loadA (vs := [_, _]) ⟨Tryz.isAgg73, Tryz.sizeOf73⟩ (OV.p rfl) rfl (fun _ => by repeat (first | exact Rds.gets ⟨rfl, rfl, trivial⟩ | apply Rds.up))) rfl ?_
         refine WL.sub (Sub.refl _) (fun w h => h.sel 4 [3, 0, 1, 2] rfl) ?_
         refine WL.call (vs := [_]) Tryz.call44 ⟨OV.p rfl, trivial⟩ (ref11_Copy (M := M) (by omega) (by omega)) rfl ?_
         rintro _ _ ⟨M2, hM21, hM22, rfl, rfl⟩
         refine WL.alloc (cs := [(.slice none 0 0), (.slice none 0 0)]) Tryz.zeroValue73 rfl rfl (fun b15 => ?_)
         refine WL.store (cs := M2.cells) Tryz.sizeOf73 (OV.p rfl) (OV.p rfl) rfl rfl rfl (Upd.here rfl rfl) ?_
         refine WL.nil ?_
         refine WC.seq ?_
         refine WC.sub (H' := C.A bc :: DvA bd bc g :: T.A bs bd g :: M2.A :: M.A :: Cells b15 73 M2.cells :: Cells b14 76 o.cells :: Cells b12 73 M.cells :: F) (Sub.refl _) (fun w h => h.sel 7 [4, 5, 3, 1, 2, 0, 6] rfl) ?_
         refine WC.region ?_
         refine WL.sg rfl rfl ?_
         refine WL.nil ?_
         refine WC.seq ?_
         refine WC.sr ?_
         refine WL.val (V.fieldAddr fo76_0 (OV.p rfl)) rfl ?_
         refine WL.ld Tryz.isAgg3 rfl rfl ?_
         refine WL.val (V.eql (OV.p rfl) (OV.p rfl)) rfl ?_
         refine WL.nil ?_
         refine WC.cond rfl (fun hc7 => ?_) (fun hc7 => ?_)
         ·simp only [decide_eq_true_eq, decide_eq_false_iff_not] at hc7
          have h7 := hc7
          refine WC.sr ?_
          refine WL.mv rfl rfl ?_
          refine WL.val (V.fieldAddr fo76_1 (OV.p rfl)) rfl ?_
          refine WL.ld Tryz.isAgg3 rfl rfl ?_
          refine WL.val (V.fieldAddr fo76_5 (OV.p rfl)) rfl ?_
          refine WL.ld Tryz.isAgg38 rfl rfl ?_
          refine WL.call (vs := [_, _, _]) Tryz.call31 ⟨OV.p rfl, OV.p rfl, OV.p rfl, trivial⟩ (store_Change (leb := o.leb) (d := o.dx) hC hg' hT (by repeat (first | exact ho.data | apply Seq.up)) ho.d8 ho.dle (by omega) (fun l hl' => Nat.le_trans (hlong l hl') (by decide))) rfl ?_
          rintro v0 _ ⟨C2, T2, hC2, g2, hT2, s2, t2, rfl, rfl⟩
          obtain ⟨e, he⟩ : ∃ e, e = (sChange C.sem T.sem o.leb o.dx).2.2 := ⟨_, rfl⟩
          have hout := outc_change hI (by omega) (by omega) hi0l (by omega) ho.d8 (by omega)
          rw [← hi0, ← he, ← s2, ← t2] at hout
          rw [← he]
          refine WL.sg rfl rfl ?_
          refine WL.nil ?_
          refine WC.region ?_
          refine WL.val (V.loadA (vs := M2.cells) ⟨Tryz.isAgg73, Tryz.sizeOf73⟩ (OV.p rfl) rfl (fun _ => by repeat (first | exact Rds.gets ⟨rfl, rfl, trivial⟩ | apply Rds.up))) rfl ?_
          refine WL.val (V.fieldAddr fo76_1 (OV.p rfl)) rfl ?_
          refine WL.ld Tryz.isAgg3 rfl rfl ?_
          refine WL.val (V.fieldAddr fo76_5 (OV.p rfl)) rfl ?_
          refine WL.ld Tryz.isAgg38 rfl rfl ?_
          refine WL.val (V.bytesStr (xs := intsOf o.dx) Tryz.underlying38 Tryz.underlying5 Tryz.underlying9 (OV.p rfl) (fun _ => by rw [← nats_intsOf]; repeat (first | exact ho.data | apply Seq.up))) rfl ?_
          refine WL.sub (Sub.refl _) (fun w h => h.sel 4 [3, 0, 1, 2] rfl) ?_
          refine WL.call (vs := [_, _, _]) Tryz.call45 ⟨OV.p rfl, OV.p rfl, OV.p rfl, trivial⟩ (ref11_Put (M := M2) (leb := o.leb) (by rw [hM21]; omega) (by rw [hM21, hM22]; omega) (strOfNums (intsOf o.dx))) rfl ?_
          rintro _ _ rfl
          obtain ⟨M3, hM3⟩ : ∃ M3 : Mw, M3 = { M2 with has := M2.has.set o.leb.toNat true, dat := M2.dat.set o.leb.toNat (strOfNums (intsOf o.dx)) } := ⟨_, rfl⟩
          have hcl : M2.cells = M3.cells := by rw [hM3]; dsimp only [Mw.cells]; rw [List.length_set, List.length_set]
          have h3h : M3.has.length = nl := by rw [hM3]; dsimp only; rw [List.length_set, hM21]; exact hlh
          have h3d : M3.dat.length = nl := by rw [hM3]; dsimp only; rw [List.length_set, hM22]; exact hld
          have h2s : M2.sem = M.sem := by unfold Mw.sem; rw [hM21, hM22]
          have h3s : M3.sem = M.sem.put i0 (some o.dx) := by
            rw [hM3, hi0, Int.toNat_natCast, sem_set M2 (by rw [hM21]; omega) (by rw [hM22]; omega), natsOf_strOf ho.d8, h2s, if_pos rfl]
          rw [← h3s] at hout
          have he3 : e = 0 ∨ e = 6 ∨ e = 70 := by
            rcases hout.res with ⟨h, _⟩ | ⟨h, _⟩ | ⟨h, _⟩
            · exact .inl h
            · exact .inr (.inl h)
            · exact .inr (.inr h)
          rw [← hM3, hcl]
          refine WL.sub (H' := C2.A bc :: DvA bd bc g :: T2.A bs bd g :: M3.A :: M.A :: Cells b15 73 M3.cells :: Cells b14 76 o.cells :: Cells b12 73 M.cells :: F) (Sub.refl _) (fun w h => h.sel 4 [1, 2, 3, 0] rfl) ?_
          refine WL.nil ?_
          refine WC.seq ?_
          refine WC.sr ?_
          refine WL.mv rfl rfl ?_
          refine WL.val (V.eql (OV.p rfl) (OV.p rfl)) rfl ?_
          refine WL.nil ?_
          refine WC.cond rfl (fun hc8 => ?_) (fun hc8 => ?_)
          ·simp only [decide_eq_true_eq, decide_eq_false_iff_not] at hc8
           have h8 := hc8
           have hdead : T2.sem.dead = true := by
             rcases hout.res with ⟨h1, _⟩ | ⟨h1, _⟩ | ⟨_, h1, _⟩
             · rw [h8] at h1; exact absurd h1.symm n0_70
             · rw [h8] at h1; exact absurd h1.symm n6_70
             · exact h1
           refine WC.seq ?_
           refine WC.sr ?_
           refine WL.mv rfl rfl ?_
           refine WL.val (V.fieldAddr fo76_1 (OV.p rfl)) rfl ?_
           refine WL.ld Tryz.isAgg3 rfl rfl ?_
           refine WL.sub (Sub.refl _) (fun w h => h.sel 3 [2, 0, 1] rfl) ?_
           refine WL.call (vs := [_, _, _]) Tryz.call31 ⟨OV.p rfl, OV.p rfl, OV.p rfl, trivial⟩ (store_deadChange hdead o.leb) rfl ?_
           rintro _ H0 ⟨rfl, h0⟩
           subst H0
           refine WL.val (V.neq (OV.p rfl) (OV.p rfl)) rfl ?_
           refine WL.nil ?_
           refine WC.condF' rfl (by first | rfl | (simp; done) | (simp; omega)) ?_
           refine WC.skip ?_
           refine WC.sr ?_
           refine WL.mv rfl rfl ?_
           refine WL.sub (Sub.refl _) (fun w h => h.sel 3 [1, 2, 0] rfl) ?_
           refine WL.call (vs := [_, _, _]) Tryz.call42 ⟨OV.p rfl, OV.p rfl, OV.p rfl, trivial⟩ (chip_Arm 0 0) rfl ?_
           rintro _ _ rfl
           have hC4 : (C2.arm 0 0).Ok := hC2.arm (by decide)
           refine WL.nil ?_
           refine WC.sr ?_
           refine WL.mv rfl rfl ?_
           refine WL.mv rfl rfl ?_
           refine WL.call (vs := [_, _]) Tryz.call38 ⟨OV.p rfl, OV.p rfl, trivial⟩ (law11_open (g := g) hC4 g2 (lebs := nl) (by omega) (by omega)) rfl ?_
           rintro _ _ ⟨bd, bs, T5, hT5, t5, rfl, rfl⟩
           obtain ⟨C5, hC5e⟩ : ∃ C5, C5 = (C2.arm 0 0).on := ⟨_, rfl⟩
           have hC5 : C5.Ok := by rw [hC5e]; exact hC4.on
           have g5 : C5.g = g := by rw [hC5e]; exact g2
           have u5 : C5.sem.up = true := by rw [hC5e]; rfl
           obtain ⟨mm, hmm, ⟨st5, hI5⟩, hn5⟩ := hout.opened h8 (S' := C5.sem) (by rw [hC5e]; exact (Chip.Eqv.arm C2.sem 0 0).trans (Chip.Eqv.on _)) u5
           rw [← hC5e] at t5 ⊢
           rw [← t5] at hI5 hn5
           refine WL.sub (H' := C5.A bc :: DvA bd bc g :: T5.A bs bd g :: M.A :: M3.A :: Cells b15 73 M3.cells :: Cells b14 76 o.cells :: Cells b12 73 M.cells :: F) (Sub.refl _) (fun w h => h.sel 9 [0, 1, 2, 6, 5, 7, 8] rfl) ?_
           refine WL.sg rfl rfl ?_
           refine WL.nil ?_
           refine WC.seq ?_
           refine WC.sr ?_
           refine WL.mv rfl rfl ?_
           refine WL.val (V.eqlP Tryz.underlying56 (OV.p rfl) (OV.p rfl)) rfl ?_
           refine WL.nil ?_
           refine WC.condF' rfl (by first | rfl | (simp; done) | (simp; omega)) ?_
           refine WC.skip ?_
           refine WC.sr ?_
           refine WL.mv rfl rfl ?_
           refine WL.val (V.loadA (vs := M.cells) ⟨Tryz.isAgg73, Tryz.sizeOf73⟩ (OV.p rfl) rfl (fun _ => by repeat (first | exact Rds.gets ⟨rfl, rfl, trivial⟩ | apply Rds.up))) rfl ?_
           refine WL.call (vs := [_, _]) Tryz.call47 ⟨OV.p rfl, OV.p rfl, trivial⟩ (law11_all (M := M) hC5 g5 hT5 hI5 u5 hlh hld (by omega)) rfl ?_
           rintro _ _ ⟨rr, rfl, hrr, T6, hT6, t6, rfl⟩
           refine WL.nil ?_
           refine WC.cond rfl (fun hc11 => ?_) (fun hc11 => ?_)
           ·skip
            have h11 := hc11
            obtain ⟨Cx, Tx, Mx, hIx, hmx⟩ : ∃ (Cx : Cw) (Tx : Stw) (Mx : Mw), CutI nl g (i + 1) Cx Tx Mx ∧ ∀ w, Sat K w (C5.A bc :: DvA bd bc g :: T6.A bs bd g :: M.A :: M3.A :: Cells b15 73 M3.cells :: Cells b14 76 o.cells :: Cells b12 73 M.cells :: F) → Sat K w (Cx.A bc :: DvA bd bc g :: Tx.A bs bd g :: Mx.A :: Cells b12 73 Mx.cells :: F) := ⟨C5, T6, M, ⟨hC5, g5, hT6, u5, ⟨st5, by rw [t6]; exact hI5.same (hrr.1 h11)⟩, by rw [t6]; exact hn5, hlh, hld⟩, fun w h => h.sel 8 [0, 1, 2, 3, 7] rfl⟩
            refine WC.exit ?_
            refine WC.region ?_
            refine WL.mv rfl rfl ?_
            refine WL.ad rfl rfl rfl ?_
            refine WL.sg rfl rfl ?_
            refine WL.nil ?_
            refine ⟨rfl, ?_⟩
            exact ⟨(i + 1, Cx, Tx, bs, bd, Mx), ⟨him, hIx⟩, (by show m - (i + 1) < m - i; omega), .cons rfl (.cons rfl (.cons rfl (.cons rfl (.cons rfl (.cons (look_eq rfl (by simp)) (.nil _)))))), fun w h => hmx w h⟩
           ·skip
            have h11 := hc11
            have hmm3 : mm = M3.sem := by
              rcases hmm with h | h
              · rw [h] at hrr; rw [hrr.2 (fun _ _ => rfl)] at h11; cases h11
              · exact h
            have h68 : e ≠ 6 := by rw [h8]; exact fun h => n6_70 h.symm
            refine WC.sub (H' := C5.A bc :: DvA bd bc g :: T6.A bs bd g :: M3.A :: M.A :: Cells b15 73 M3.cells :: Cells b12 73 M.cells :: F) (Sub.refl _) (fun w h => h.sel 8 [0, 1, 2, 4, 3, 5, 7] rfl) ?_
            obtain ⟨C9, T9, hC9, g9, hT9, hu9, hn9, ⟨mm9, ⟨st9, hI9⟩, hm6, hm3⟩, hmem9⟩ : ∃ (C9 : Cw) (T9 : Stw), C9.Ok ∧ C9.g = g ∧ T9.Ok g ∧ C9.sem.up = true ∧ T9.sem.next ≤ 1 + 20 * ((i + 1 : Nat) : Int) ∧ (∃ mm, (∃ st, Chip.SI nl nl (256 + (i + 1)) C9.sem st T9.sem mm) ∧ (e = 6 → mm = M.sem) ∧ (e ≠ 6 → mm = M3.sem)) ∧ ∀ w, Sat K w (C5.A bc :: DvA bd bc g :: T6.A bs bd g :: M3.A :: M.A :: Cells b15 73 M3.cells :: Cells b12 73 M.cells :: F) → Sat K w (C9.A bc :: DvA bd bc g :: T9.A bs bd g :: M3.A :: M.A :: Cells b15 73 M3.cells :: Cells b12 73 M.cells :: F) := ⟨C5, T6, hC5, g5, hT6, u5, by rw [t6]; exact hn5, ⟨mm, ⟨st5, by rw [t6]; exact hI5⟩, fun h => absurd h h68, fun _ => hmm3⟩, fun w h => h⟩
            refine WC.skip ?_
            refine WC.seq ?_
            refine WC.seq ?_
            refine WC.sub (H' := C9.A bc :: DvA bd bc g :: T9.A bs bd g :: M3.A :: M.A :: Cells b15 73 M3.cells :: Cells b12 73 M.cells :: F) (Sub.refl _) hmem9 ?_
            refine WC.region ?_
            refine WL.mv rfl rfl ?_
            refine WL.val (V.eql (OV.p rfl) (OV.p rfl)) rfl ?_
            refine WL.nil ?_
            refine WC.cond rfl (fun hc12 => ?_) (fun hc12 => ?_)
            ·simp only [decide_eq_true_eq, decide_eq_false_iff_not] at hc12
             have h12 := hc12
             obtain ⟨My, hMy⟩ : ∃ My, My = M := ⟨_, rfl⟩
             have hmy : mm9 = My.sem := by rw [hMy]; exact hm6 h12
             have hyh : My.has.length = nl := by rw [hMy]; exact hlh
             have hyd : My.dat.length = nl := by rw [hMy]; exact hld
             refine WC.region ?_
             refine WL.val (V.loadA (vs := M.cells) ⟨Tryz.isAgg73, Tryz.sizeOf73⟩ (OV.p rfl) rfl (fun _ => by repeat (first | exact Rds.gets ⟨rfl, rfl, trivial⟩ | apply Rds.up))) rfl ?_
             refine WL.store (cs := M.cells) Tryz.sizeOf73 (OV.p rfl) (OV.p rfl) rfl rfl rfl (Upd.up (Upd.up (Upd.up (Upd.up (Upd.up (Upd.here rfl rfl)))))) ?_
             refine WL.nil ?_
             refine WC.seq ?_
             refine WC.sub (H' := Cells b15 73 My.cells :: C9.A bc :: DvA bd bc g :: T9.A bs bd g :: My.A :: Cells b12 73 M.cells :: F) (Sub.refl _) (fun w h => by first | (rw [hMy]; exact h.sel 7 [5, 0, 1, 2, 3, 6] rfl) | (rw [hMy]; exact h.sel 7 [5, 0, 1, 2, 4, 6] rfl)) ?_
             refine WC.region ?_
             refine WL.val (V.loadA (vs := My.cells) ⟨Tryz.isAgg73, Tryz.sizeOf73⟩ (OV.p rfl) rfl (fun _ => by repeat (first | exact Rds.gets ⟨rfl, rfl, trivial⟩ | apply Rds.up))) rfl ?_
             refine WL.store (cs := My.cells) Tryz.sizeOf73 (OV.p rfl) (OV.p rfl) rfl rfl rfl (Upd.up (Upd.up (Upd.up (Upd.up (Upd.up (Upd.here rfl rfl)))))) ?_
             refine WL.nil ?_
             refine WC.seq ?_
             refine WC.sub (H' := C9.A bc :: DvA bd bc g :: T9.A bs bd g :: My.A :: Cells b12 73 My.cells :: F) (Sub.refl _) (fun w h => h.sel 6 [1, 2, 3, 4, 5] rfl) ?_
             refine WC.region ?_
             refine WL.mv rfl rfl ?_
             refine WL.val (V.loadA (vs := My.cells) ⟨Tryz.isAgg73, Tryz.sizeOf73⟩ (OV.p rfl) rfl (fun _ => by repeat (first | exact Rds.gets ⟨rfl, rfl, trivial⟩ | apply Rds.up))) rfl ?_
             refine WL.call (vs := [_, _]) Tryz.call47 ⟨OV.p rfl, OV.p rfl, trivial⟩ (law11_all (M := My) hC9 g9 hT9 hI9 hu9 hyh hyd (by omega)) rfl ?_
             rintro _ _ ⟨rr, rfl, hrr, T7, hT7, t7, rfl⟩
             have hrt : rr = true := hrr.2 (fun k _ => by rw [hmy])
             obtain ⟨Cx, Tx, Mx, hIx, hmx⟩ : ∃ (Cx : Cw) (Tx : Stw) (Mx : Mw), CutI nl g (i + 1) Cx Tx Mx ∧ ∀ w, Sat K w (C9.A bc :: DvA bd bc g :: T7.A bs bd g :: My.A :: Cells b12 73 My.cells :: F) → Sat K w (Cx.A bc :: DvA bd bc g :: Tx.A bs bd g :: Mx.A :: Cells b12 73 Mx.cells :: F) := ⟨C9, T7, My, ⟨hC9, g9, hT7, hu9, ⟨st9, by rw [t7, ← hmy]; exact hI9⟩, by rw [t7]; exact hn9, hyh, hyd⟩, fun w h => h⟩
             refine WL.val (V.not (OV.p rfl)) rfl ?_
             refine WL.nil ?_
             refine WC.condF' rfl ((by rw [hrt]; rfl)) ?_
             refine WC.skip ?_
             refine WC.region ?_
             refine WL.mv rfl rfl ?_
             refine WL.ad rfl rfl rfl ?_
             refine WL.sg rfl rfl ?_
             refine WL.nil ?_
             refine ⟨rfl, ?_⟩
             exact ⟨(i + 1, Cx, Tx, bs, bd, Mx), ⟨him, hIx⟩, (by show m - (i + 1) < m - i; omega), .cons rfl (.cons rfl (.cons rfl (.cons rfl (.cons rfl (.cons (look_eq rfl (by simp)) (.nil _)))))), fun w h => hmx w h⟩
            ·simp only [decide_eq_true_eq, decide_eq_false_iff_not] at hc12
             have h12 := hc12
             obtain ⟨My, hMy⟩ : ∃ My, My = M3 := ⟨_, rfl⟩
             have hmy : mm9 = My.sem := by rw [hMy]; exact hm3 h12
             have hyh : My.has.length = nl := by rw [hMy]; exact h3h
             have hyd : My.dat.length = nl := by rw [hMy]; exact h3d
             refine WC.sr ?_
             refine WL.mv rfl rfl ?_
             refine WL.val (V.neq (OV.p rfl) (OV.p rfl)) rfl ?_
             refine WL.mv rfl rfl ?_
             refine WL.valG (oj := _) rfl rfl rfl GC.t (V.move (OV.p rfl)) rfl ?_
             refine WL.valG (oj := _) rfl rfl rfl GC.t (V.neq (OV.g rfl id) (OV.p rfl)) rfl ?_
             refine WL.val (V.pickAnd (OV.p rfl) (OV.g rfl id)) rfl ?_
             refine WL.nil ?_
             refine WC.condF' rfl ((by
               rcases he3 with h | h | h
               · simp [h]
               · exact absurd h h12
               · simp [h])) ?_
             refine WC.skip ?_
             refine WC.seq ?_
             refine WC.sub (H' := Cells b15 73 My.cells :: C9.A bc :: DvA bd bc g :: T9.A bs bd g :: My.A :: Cells b12 73 M.cells :: F) (Sub.refl _) (fun w h => by first | (rw [hMy]; exact h.sel 7 [5, 0, 1, 2, 3, 6] rfl) | (rw [hMy]; exact h.sel 7 [5, 0, 1, 2, 4, 6] rfl)) ?_
             refine WC.region ?_
             refine WL.val (V.loadA (vs := My.cells) ⟨Tryz.isAgg73, Tryz.sizeOf73⟩ (OV.p rfl) rfl (fun _ => by repeat (first | exact Rds.gets ⟨rfl, rfl, trivial⟩ | apply Rds.up))) rfl ?_
             refine WL.store (cs := My.cells) Tryz.sizeOf73 (OV.p rfl) (OV.p rfl) rfl rfl rfl (Upd.up (Upd.up (Upd.up (Upd.up (Upd.up (Upd.here rfl rfl)))))) ?_
             refine WL.nil ?_
             refine WC.seq ?_
             refine WC.sub (H' := C9.A bc :: DvA bd bc g :: T9.A bs bd g :: My.A :: Cells b12 73 My.cells :: F) (Sub.refl _) (fun w h => h.sel 6 [1, 2, 3, 4, 5] rfl) ?_
             refine WC.region ?_
             refine WL.mv rfl rfl ?_
             refine WL.val (V.loadA (vs := My.cells) ⟨Tryz.isAgg73, Tryz.sizeOf73⟩ (OV.p rfl) rfl (fun _ => by repeat (first | exact Rds.gets ⟨rfl, rfl, trivial⟩ | apply Rds.up))) rfl ?_
             refine WL.call (vs := [_, _]) Tryz.call47 ⟨OV.p rfl, OV.p rfl, trivial⟩ (law11_all (M := My) hC9 g9 hT9 hI9 hu9 hyh hyd (by omega)) rfl ?_
             rintro _ _ ⟨rr, rfl, hrr, T7, hT7, t7, rfl⟩
             have hrt : rr = true := hrr.2 (fun k _ => by rw [hmy])
             obtain ⟨Cx, Tx, Mx, hIx, hmx⟩ : ∃ (Cx : Cw) (Tx : Stw) (Mx : Mw), CutI nl g (i + 1) Cx Tx Mx ∧ ∀ w, Sat K w (C9.A bc :: DvA bd bc g :: T7.A bs bd g :: My.A :: Cells b12 73 My.cells :: F) → Sat K w (Cx.A bc :: DvA bd bc g :: Tx.A bs bd g :: Mx.A :: Cells b12 73 Mx.cells :: F) := ⟨C9, T7, My, ⟨hC9, g9, hT7, hu9, ⟨st9, by rw [t7, ← hmy]; exact hI9⟩, by rw [t7]; exact hn9, hyh, hyd⟩, fun w h => h⟩
             refine WL.val (V.not (OV.p rfl)) rfl ?_
             refine WL.nil ?_
             refine WC.condF' rfl ((by rw [hrt]; rfl)) ?_
             refine WC.skip ?_
             refine WC.region ?_
             refine WL.mv rfl rfl ?_
             refine WL.ad rfl rfl rfl ?_
             refine WL.sg rfl rfl ?_
             refine WL.nil ?_
             refine ⟨rfl, ?_⟩
             exact ⟨(i + 1, Cx, Tx, bs, bd, Mx), ⟨him, hIx⟩, (by show m - (i + 1) < m - i; omega), .cons rfl (.cons rfl (.cons rfl (.cons rfl (.cons rfl (.cons (look_eq rfl (by simp)) (.nil _)))))), fun w h => hmx w h⟩
          ·simp only [decide_eq_true_eq, decide_eq_false_iff_not] at hc8
           have h8 := hc8
           obtain ⟨C9, T9, hC9, g9, hT9, hu9, hn9, ⟨mm9, ⟨st9, hI9⟩, hm6, hm3⟩, hmem9⟩ : ∃ (C9 : Cw) (T9 : Stw), C9.Ok ∧ C9.g = g ∧ T9.Ok g ∧ C9.sem.up = true ∧ T9.sem.next ≤ 1 + 20 * ((i + 1 : Nat) : Int) ∧ (∃ mm, (∃ st, Chip.SI nl nl (256 + (i + 1)) C9.sem st T9.sem mm) ∧ (e = 6 → mm = M.sem) ∧ (e ≠ 6 → mm = M3.sem)) ∧ ∀ w, Sat K w (C2.A bc :: DvA bd bc g :: T2.A bs bd g :: M3.A :: M.A :: Cells b15 73 M3.cells :: Cells b14 76 o.cells :: Cells b12 73 M.cells :: F) → Sat K w (C9.A bc :: DvA bd bc g :: T9.A bs bd g :: M3.A :: M.A :: Cells b15 73 M3.cells :: Cells b12 73 M.cells :: F) := by
             rcases hout.res with ⟨h1, h2, h3⟩ | ⟨h1, h2, h3⟩ | ⟨h1, _, _⟩
             · exact ⟨C2, T2, hC2, g2, hT2, h2, hout.next, ⟨M3.sem, h3, fun h => by rw [h1] at h; exact absurd h (by decide), fun _ => rfl⟩, fun w h => h.sel 7 [0, 1, 2, 3, 4, 5] rfl⟩
             · exact ⟨C2, T2, hC2, g2, hT2, h2, hout.next, ⟨M.sem, h3, fun _ => rfl, fun h => absurd h1 h⟩, fun w h => h.sel 7 [0, 1, 2, 3, 4, 5] rfl⟩
             · exact absurd h1 h8
           refine WC.skip ?_
           refine WC.seq ?_
           refine WC.seq ?_
           refine WC.sub (H' := C9.A bc :: DvA bd bc g :: T9.A bs bd g :: M3.A :: M.A :: Cells b15 73 M3.cells :: Cells b12 73 M.cells :: F) (Sub.refl _) hmem9 ?_
           refine WC.region ?_
           refine WL.mv rfl rfl ?_
           refine WL.val (V.eql (OV.p rfl) (OV.p rfl)) rfl ?_
           refine WL.nil ?_
           refine WC.cond rfl (fun hc12 => ?_) (fun hc12 => ?_)
           ·simp only [decide_eq_true_eq, decide_eq_false_iff_not] at hc12
            have h12 := hc12
            obtain ⟨My, hMy⟩ : ∃ My, My = M := ⟨_, rfl⟩
            have hmy : mm9 = My.sem := by rw [hMy]; exact hm6 h12
            have hyh : My.has.length = nl := by rw [hMy]; exact hlh
            have hyd : My.dat.length = nl := by rw [hMy]; exact hld
            refine WC.region ?_
            refine WL.val (V.loadA (vs := M.cells) ⟨Tryz.isAgg73, Tryz.sizeOf73⟩ (OV.p rfl) rfl (fun _ => by repeat (first | exact Rds.gets ⟨rfl, rfl, trivial⟩ | apply Rds.up))) rfl ?_
            refine WL.store (cs := M.cells) Tryz.sizeOf73 (OV.p rfl) (OV.p rfl) rfl rfl rfl (Upd.up (Upd.up (Upd.up (Upd.up (Upd.up (Upd.here rfl rfl)))))) ?_
            refine WL.nil ?_
            refine WC.seq ?_
            refine WC.sub (H' := Cells b15 73 My.cells :: C9.A bc :: DvA bd bc g :: T9.A bs bd g :: My.A :: Cells b12 73 M.cells :: F) (Sub.refl _) (fun w h => by first | (rw [hMy]; exact h.sel 7 [5, 0, 1, 2, 3, 6] rfl) | (rw [hMy]; exact h.sel 7 [5, 0, 1, 2, 4, 6] rfl)) ?_
            refine WC.region ?_
            refine WL.val (V.loadA (vs := My.cells) ⟨Tryz.isAgg73, Tryz.sizeOf73⟩ (OV.p rfl) rfl (fun _ => by repeat (first | exact Rds.gets ⟨rfl, rfl, trivial⟩ | apply Rds.up))) rfl ?_
            refine WL.store (cs := My.cells) Tryz.sizeOf73 (OV.p rfl) (OV.p rfl) rfl rfl rfl (Upd.up (Upd.up (Upd.up (Upd.up (Upd.up (Upd.here rfl rfl)))))) ?_
            refine WL.nil ?_
            refine WC.seq ?_
            refine WC.sub (H' := C9.A bc :: DvA bd bc g :: T9.A bs bd g :: My.A :: Cells b12 73 My.cells :: F) (Sub.refl _) (fun w h => h.sel 6 [1, 2, 3, 4, 5] rfl) ?_
            refine WC.region ?_
            refine WL.mv rfl rfl ?_
            refine WL.val (V.loadA (vs := My.cells) ⟨Tryz.isAgg73, Tryz.sizeOf73⟩ (OV.p rfl) rfl (fun _ => by repeat (first | exact Rds.gets ⟨rfl, rfl, trivial⟩ | apply Rds.up))) rfl ?_
            refine WL.call (vs := [_, _]) Tryz.call47 ⟨OV.p rfl, OV.p rfl, trivial⟩ (law11_all (M := My) hC9 g9 hT9 hI9 hu9 hyh hyd (by omega)) rfl ?_
            rintro _ _ ⟨rr, rfl, hrr, T7, hT7, t7, rfl⟩
            have hrt : rr = true := hrr.2 (fun k _ => by rw [hmy])
            obtain ⟨Cx, Tx, Mx, hIx, hmx⟩ : ∃ (Cx : Cw) (Tx : Stw) (Mx : Mw), CutI nl g (i + 1) Cx Tx Mx ∧ ∀ w, Sat K w (C9.A bc :: DvA bd bc g :: T7.A bs bd g :: My.A :: Cells b12 73 My.cells :: F) → Sat K w (Cx.A bc :: DvA bd bc g :: Tx.A bs bd g :: Mx.A :: Cells b12 73 Mx.cells :: F) := ⟨C9, T7, My, ⟨hC9, g9, hT7, hu9, ⟨st9, by rw [t7, ← hmy]; exact hI9⟩, by rw [t7]; exact hn9, hyh, hyd⟩, fun w h => h⟩
            refine WL.val (V.not (OV.p rfl)) rfl ?_
            refine WL.nil ?_
            refine WC.condF' rfl ((by rw [hrt]; rfl)) ?_
            refine WC.skip ?_
            refine WC.region ?_
            refine WL.mv rfl rfl ?_
            refine WL.ad rfl rfl rfl ?_
            refine WL.sg rfl rfl ?_
            refine WL.nil ?_
            refine ⟨rfl, ?_⟩
            exact ⟨(i + 1, Cx, Tx, bs, bd, Mx), ⟨him, hIx⟩, (by show m - (i + 1) < m - i; omega), .cons rfl (.cons rfl (.cons rfl (.cons rfl (.cons rfl (.cons (look_eq rfl (by simp)) (.nil _)))))), fun w h => hmx w h⟩
           ·simp only [decide_eq_true_eq, decide_eq_false_iff_not] at hc12
            have h12 := hc12
            obtain ⟨My, hMy⟩ : ∃ My, My = M3 := ⟨_, rfl⟩
            have hmy : mm9 = My.sem := by rw [hMy]; exact hm3 h12
            have hyh : My.has.length = nl := by rw [hMy]; exact h3h
            have hyd : My.dat.length = nl := by rw [hMy]; exact h3d
            refine WC.sr ?_
            refine WL.mv rfl rfl ?_
            refine WL.val (V.neq (OV.p rfl) (OV.p rfl)) rfl ?_
            refine WL.mv rfl rfl ?_
            refine WL.valG (oj := _) rfl rfl rfl GC.t (V.move (OV.p rfl)) rfl ?_
            refine WL.valG (oj := _) rfl rfl rfl GC.t (V.neq (OV.g rfl id) (OV.p rfl)) rfl ?_
            refine WL.val (V.pickAnd (OV.p rfl) (OV.g rfl id)) rfl ?_
            refine WL.nil ?_
            refine WC.condF' rfl ((by
              rcases he3 with h | h | h
              · simp [h]
              · exact absurd h h12
              · simp [h])) ?_
            refine WC.skip ?_
            refine WC.seq ?_
            refine WC.sub (H' := Cells b15 73 My.cells :: C9.A bc :: DvA bd bc g :: T9.A bs bd g :: My.A :: Cells b12 73 M.cells :: F) (Sub.refl _) (fun w h => by first | (rw [hMy]; exact h.sel 7 [5, 0, 1, 2, 3, 6] rfl) | (rw [hMy]; exact h.sel 7 [5, 0, 1, 2, 4, 6] rfl)) ?_
            refine WC.region ?_
            refine WL.val (V.loadA (vs := My.cells) ⟨Tryz.isAgg73, Tryz.sizeOf73⟩ (OV.p rfl) rfl (fun _ => by repeat (first | exact Rds.gets ⟨rfl, rfl, trivial⟩ | apply Rds.up))) rfl ?_
            refine WL.store (cs := My.cells) Tryz.sizeOf73 (OV.p rfl) (OV.p rfl) rfl rfl rfl (Upd.up (Upd.up (Upd.up (Upd.up (Upd.up (Upd.here rfl rfl)))))) ?_
            refine WL.nil ?_
            refine WC.seq ?_
            refine WC.sub (H' := C9.A bc :: DvA bd bc g :: T9.A bs bd g :: My.A :: Cells b12 73 My.cells :: F) (Sub.refl _) (fun w h => h.sel 6 [1, 2, 3, 4, 5] rfl) ?_
            refine WC.region ?_
            refine WL.mv rfl rfl ?_
            refine WL.val (V.loadA (vs := My.cells) ⟨Tryz.isAgg73, Tryz.sizeOf73⟩ (OV.p rfl) rfl (fun _ => by repeat (first | exact Rds.gets ⟨rfl, rfl, trivial⟩ | apply Rds.up))) rfl ?_
            refine WL.call (vs := [_, _]) Tryz.call47 ⟨OV.p rfl, OV.p rfl, trivial⟩ (law11_all (M := My) hC9 g9 hT9 hI9 hu9 hyh hyd (by omega)) rfl ?_
            rintro _ _ ⟨rr, rfl, hrr, T7, hT7, t7, rfl⟩
            have hrt : rr = true := hrr.2 (fun k _ => by rw [hmy])
            obtain ⟨Cx, Tx, Mx, hIx, hmx⟩ : ∃ (Cx : Cw) (Tx : Stw) (Mx : Mw), CutI nl g (i + 1) Cx Tx Mx ∧ ∀ w, Sat K w (C9.A bc :: DvA bd bc g :: T7.A bs bd g :: My.A :: Cells b12 73 My.cells :: F) → Sat K w (Cx.A bc :: DvA bd bc g :: Tx.A bs bd g :: Mx.A :: Cells b12 73 Mx.cells :: F) := ⟨C9, T7, My, ⟨hC9, g9, hT7, hu9, ⟨st9, by rw [t7, ← hmy]; exact hI9⟩, by rw [t7]; exact hn9, hyh, hyd⟩, fun w h => h⟩
            refine WL.val (V.not (OV.p rfl)) rfl ?_
            refine WL.nil ?_
            refine WC.condF' rfl ((by rw [hrt]; rfl)) ?_
            refine WC.skip ?_
            refine WC.region ?_
            refine WL.mv rfl rfl ?_
            refine WL.ad rfl rfl rfl ?_
            refine WL.sg rfl rfl ?_
            refine WL.nil ?_
            refine ⟨rfl, ?_⟩
            exact ⟨(i + 1, Cx, Tx, bs, bd, Mx), ⟨him, hIx⟩, (by show m - (i + 1) < m - i; omega), .cons rfl (.cons rfl (.cons rfl (.cons rfl (.cons rfl (.cons (look_eq rfl (by simp)) (.nil _)))))), fun w h => hmx w h⟩
         ·simp only [decide_eq_true_eq, decide_eq_false_iff_not] at hc7
          have h7 := hc7
          refine WC.sr ?_
          refine WL.mv rfl rfl ?_
          refine WL.val (V.fieldAddr fo76_1 (OV.p rfl)) rfl ?_
          refine WL.ld Tryz.isAgg3 rfl rfl ?_
          refine WL.call (vs := [_, _]) Tryz.call32 ⟨OV.p rfl, OV.p rfl, trivial⟩ (store_Unmap hC hg' hT o.leb (fun l hl' => Nat.le_trans (hlong l hl') (by decide))) rfl ?_
          rintro v0 _ ⟨C2, T2, hC2, g2, hT2, s2, t2, rfl, rfl⟩
          obtain ⟨e, he⟩ : ∃ e, e = (sUnmap C.sem T.sem o.leb).2.2 := ⟨_, rfl⟩
          have hout := outc_unmap hI hi0l
          rw [← hi0, ← he, ← s2, ← t2] at hout
          rw [← he]
          refine WL.sg rfl rfl ?_
          refine WL.nil ?_
          refine WC.region ?_
          refine WL.val (V.loadA (vs := M2.cells) ⟨Tryz.isAgg73, Tryz.sizeOf73⟩ (OV.p rfl) rfl (fun _ => by repeat (first | exact Rds.gets ⟨rfl, rfl, trivial⟩ | apply Rds.up))) rfl ?_
          refine WL.val (V.fieldAddr fo76_1 (OV.p rfl)) rfl ?_
          refine WL.ld Tryz.isAgg3 rfl rfl ?_
          refine WL.sub (Sub.refl _) (fun w h => h.sel 4 [3, 0, 1, 2] rfl) ?_
          refine WL.call (vs := [_, _]) Tryz.call46 ⟨OV.p rfl, OV.p rfl, trivial⟩ (ref11_Drop (M := M2) (leb := o.leb) (by rw [hM21]; omega) (by rw [hM21, hM22]; omega)) rfl ?_
          rintro _ _ ⟨sD, rfl⟩
          obtain ⟨M3, hM3⟩ : ∃ M3 : Mw, M3 = { M2 with has := M2.has.set o.leb.toNat false, dat := M2.dat.set o.leb.toNat sD } := ⟨_, rfl⟩
          have hcl : M2.cells = M3.cells := by rw [hM3]; dsimp only [Mw.cells]; rw [List.length_set, List.length_set]
          have h3h : M3.has.length = nl := by rw [hM3]; dsimp only; rw [List.length_set, hM21]; exact hlh
          have h3d : M3.dat.length = nl := by rw [hM3]; dsimp only; rw [List.length_set, hM22]; exact hld
          have h2s : M2.sem = M.sem := by unfold Mw.sem; rw [hM21, hM22]
          have h3s : M3.sem = M.sem.put i0 none := by
            rw [hM3, hi0, Int.toNat_natCast, sem_set M2 (by rw [hM21]; omega) (by rw [hM22]; omega), h2s, if_neg Bool.false_ne_true]
          rw [← h3s] at hout
          have he3 : e = 0 ∨ e = 6 ∨ e = 70 := by
            rcases hout.res with ⟨h, _⟩ | ⟨h, _⟩ | ⟨h, _⟩
            · exact .inl h
            · exact .inr (.inl h)
            · exact .inr (.inr h)
          rw [← hM3, hcl]
          refine WL.sub (H' := C2.A bc :: DvA bd bc g :: T2.A bs bd g :: M3.A :: M.A :: Cells b15 73 M3.cells :: Cells b14 76 o.cells :: Cells b12 73 M.cells :: F) (Sub.refl _) (fun w h => h.sel 4 [1, 2, 3, 0] rfl) ?_
          refine WL.nil ?_
          refine WC.seq ?_
          refine WC.sr ?_
          refine WL.mv rfl rfl ?_
          refine WL.val (V.eql (OV.p rfl) (OV.p rfl)) rfl ?_
          refine WL.nil ?_
          refine WC.cond rfl (fun hc8 => ?_) (fun hc8 => ?_)
          ·simp only [decide_eq_true_eq, decide_eq_false_iff_not] at hc8
           have h8 := hc8
           have hdead : T2.sem.dead = true := by
             rcases hout.res with ⟨h1, _⟩ | ⟨h1, _⟩ | ⟨_, h1, _⟩
             · rw [h8] at h1; exact absurd h1.symm n0_70
             · rw [h8] at h1; exact absurd h1.symm n6_70
             · exact h1
           refine WC.seq ?_
           refine WC.sr ?_
           refine WL.mv rfl rfl ?_
           refine WL.val (V.fieldAddr fo76_1 (OV.p rfl)) rfl ?_
           refine WL.ld Tryz.isAgg3 rfl rfl ?_
           refine WL.sub (Sub.refl _) (fun w h => h.sel 3 [2, 0, 1] rfl) ?_
           refine WL.call (vs := [_, _, _]) Tryz.call31 ⟨OV.p rfl, OV.p rfl, OV.p rfl, trivial⟩ (store_deadChange hdead o.leb) rfl ?_
           rintro _ H0 ⟨rfl, h0⟩
           subst H0
           refine WL.val (V.neq (OV.p rfl) (OV.p rfl)) rfl ?_
           refine WL.nil ?_
           refine WC.condF' rfl (by first | rfl | (simp; done) | (simp; omega)) ?_
           refine WC.skip ?_
           refine WC.sr ?_
           refine WL.mv rfl rfl ?_
           refine WL.sub (Sub.refl _) (fun w h => h.sel 3 [1, 2, 0] rfl) ?_
           refine WL.call (vs := [_, _, _]) Tryz.call42 ⟨OV.p rfl, OV.p rfl, OV.p rfl, trivial⟩ (chip_Arm 0 0) rfl ?_
           rintro _ _ rfl
           have hC4 : (C2.arm 0 0).Ok := hC2.arm (by decide)
           refine WL.nil ?_
           refine WC.sr ?_
           refine WL.mv rfl rfl ?_
           refine WL.mv rfl rfl ?_
           refine WL.call (vs := [_, _]) Tryz.call38 ⟨OV.p rfl, OV.p rfl, trivial⟩ (law11_open (g := g) hC4 g2 (lebs := nl) (by omega) (by omega)) rfl ?_
           rintro _ _ ⟨bd, bs, T5, hT5, t5, rfl, rfl⟩
           obtain ⟨C5, hC5e⟩ : ∃ C5, C5 = (C2.arm 0 0).on := ⟨_, rfl⟩
           have hC5 : C5.Ok := by rw [hC5e]; exact hC4.on
           have g5 : C5.g = g := by rw [hC5e]; exact g2
           have u5 : C5.sem.up = true := by rw [hC5e]; rfl
           obtain ⟨mm, hmm, ⟨st5, hI5⟩, hn5⟩ := hout.opened h8 (S' := C5.sem) (by rw [hC5e]; exact (Chip.Eqv.arm C2.sem 0 0).trans (Chip.Eqv.on _)) u5
           rw [← hC5e] at t5 ⊢
           rw [← t5] at hI5 hn5
           refine WL.sub (H' := C5.A bc :: DvA bd bc g :: T5.A bs bd g :: M.A :: M3.A :: Cells b15 73 M3.cells :: Cells b14 76 o.cells :: Cells b12 73 M.cells :: F) (Sub.refl _) (fun w h => h.sel 9 [0, 1, 2, 6, 5, 7, 8] rfl) ?_
           refine WL.sg rfl rfl ?_
           refine WL.nil ?_
           refine WC.seq ?_
           refine WC.sr ?_
           refine WL.mv rfl rfl ?_
           refine WL.val (V.eqlP Tryz.underlying56 (OV.p rfl) (OV.p rfl)) rfl ?_
           refine WL.nil ?_
           refine WC.condF' rfl (by first | rfl | (simp; done) | (simp; omega)) ?_
           refine WC.skip ?_
           refine WC.sr ?_
           refine WL.mv rfl rfl ?_
           refine WL.val (V.loadA (vs := M.cells) ⟨Tryz.isAgg73, Tryz.sizeOf73⟩ (OV.p rfl) rfl (fun _ => by repeat (first | exact Rds.gets ⟨rfl, rfl, trivial⟩ | apply Rds.up))) rfl ?_
           refine WL.call (vs := [_, _]) Tryz.call47 ⟨OV.p rfl, OV.p rfl, trivial⟩ (law11_all (M := M) hC5 g5 hT5 hI5 u5 hlh hld (by omega)) rfl ?_
           rintro _ _ ⟨rr, rfl, hrr, T6, hT6, t6, rfl⟩
           refine WL.nil ?_
           refine WC.cond rfl (fun hc11 => ?_) (fun hc11 => ?_)
           ·skip
            have h11 := hc11
            obtain ⟨Cx, Tx, Mx, hIx, hmx⟩ : ∃ (Cx : Cw) (Tx : Stw) (Mx : Mw), CutI nl g (i + 1) Cx Tx Mx ∧ ∀ w, Sat K w (C5.A bc :: DvA bd bc g :: T6.A bs bd g :: M.A :: M3.A :: Cells b15 73 M3.cells :: Cells b14 76 o.cells :: Cells b12 73 M.cells :: F) → Sat K w (Cx.A bc :: DvA bd bc g :: Tx.A bs bd g :: Mx.A :: Cells b12 73 Mx.cells :: F) := ⟨C5, T6, M, ⟨hC5, g5, hT6, u5, ⟨st5, by rw [t6]; exact hI5.same (hrr.1 h11)⟩, by rw [t6]; exact hn5, hlh, hld⟩, fun w h => h.sel 8 [0, 1, 2, 3, 7] rfl⟩
            refine WC.exit ?_
            refine WC.region ?_
            refine WL.mv rfl rfl ?_
            refine WL.ad rfl rfl rfl ?_
            refine WL.sg rfl rfl ?_
            refine WL.nil ?_
            refine ⟨rfl, ?_⟩
            exact ⟨(i + 1, Cx, Tx, bs, bd, Mx), ⟨him, hIx⟩, (by show m - (i + 1) < m - i; omega), .cons rfl (.cons rfl (.cons rfl (.cons rfl (.cons rfl (.cons (look_eq rfl (by simp)) (.nil _)))))), fun w h => hmx w h⟩
           ·skip
            have h11 := hc11
            have hmm3 : mm = M3.sem := by
              rcases hmm with h | h
              · rw [h] at hrr; rw [hrr.2 (fun _ _ => rfl)] at h11; cases h11
              · exact h
            have h68 : e ≠ 6 := by rw [h8]; exact fun h => n6_70 h.symm
            refine WC.sub (H' := C5.A bc :: DvA bd bc g :: T6.A bs bd g :: M3.A :: M.A :: Cells b15 73 M3.cells :: Cells b12 73 M.cells :: F) (Sub.refl _) (fun w h => h.sel 8 [0, 1, 2, 4, 3, 5, 7] rfl) ?_
            obtain ⟨C9, T9, hC9, g9, hT9, hu9, hn9, ⟨mm9, ⟨st9, hI9⟩, hm6, hm3⟩, hmem9⟩ : ∃ (C9 : Cw) (T9 : Stw), C9.Ok ∧ C9.g = g ∧ T9.Ok g ∧ C9.sem.up = true ∧ T9.sem.next ≤ 1 + 20 * ((i + 1 : Nat) : Int) ∧ (∃ mm, (∃ st, Chip.SI nl nl (256 + (i + 1)) C9.sem st T9.sem mm) ∧ (e = 6 → mm = M.sem) ∧ (e ≠ 6 → mm = M3.sem)) ∧ ∀ w, Sat K w (C5.A bc :: DvA bd bc g :: T6.A bs bd g :: M3.A :: M.A :: Cells b15 73 M3.cells :: Cells b12 73 M.cells :: F) → Sat K w (C9.A bc :: DvA bd bc g :: T9.A bs bd g :: M3.A :: M.A :: Cells b15 73 M3.cells :: Cells b12 73 M.cells :: F) := ⟨C5, T6, hC5, g5, hT6, u5, by rw [t6]; exact hn5, ⟨mm, ⟨st5, by rw [t6]; exact hI5⟩, fun h => absurd h h68, fun _ => hmm3⟩, fun w h => h⟩
            refine WC.skip ?_
            refine WC.seq ?_
            refine WC.seq ?_
            refine WC.sub (H' := C9.A bc :: DvA bd bc g :: T9.A bs bd g :: M3.A :: M.A :: Cells b15 73 M3.cells :: Cells b12 73 M.cells :: F) (Sub.refl _) hmem9 ?_
            refine WC.region ?_
            refine WL.mv rfl rfl ?_
            refine WL.val (V.eql (OV.p rfl) (OV.p rfl)) rfl ?_
            refine WL.nil ?_
            refine WC.cond rfl (fun hc12 => ?_) (fun hc12 => ?_)
            ·simp only [decide_eq_true_eq, decide_eq_false_iff_not] at hc12
             have h12 := hc12
             obtain ⟨My, hMy⟩ : ∃ My, My = M := ⟨_, rfl⟩
             have hmy : mm9 = My.sem := by rw [hMy]; exact hm6 h12
             have hyh : My.has.length = nl := by rw [hMy]; exact hlh
             have hyd : My.dat.length = nl := by rw [hMy]; exact hld
             refine WC.region ?_
             refine WL.val (V.loadA (vs := M.cells) ⟨Tryz.isAgg73, Tryz.sizeOf73⟩ (OV.p rfl) rfl (fun _ => by repeat (first | exact Rds.gets ⟨rfl, rfl, trivial⟩ | apply Rds.up))) rfl ?_
             refine WL.store (cs := M.cells) Tryz.sizeOf73 (OV.p rfl) (OV.p rfl) rfl rfl rfl (Upd.up (Upd.up (Upd.up (Upd.up (Upd.up (Upd.here rfl rfl)))))) ?_
             refine WL.nil ?_
             refine WC.seq ?_
             refine WC.sub (H' := Cells b15 73 My.cells :: C9.A bc :: DvA bd bc g :: T9.A bs bd g :: My.A :: Cells b12 73 M.cells :: F) (Sub.refl _) (fun w h => by first | (rw [hMy]; exact h.sel 7 [5, 0, 1, 2, 3, 6] rfl) | (rw [hMy]; exact h.sel 7 [5, 0, 1, 2, 4, 6] rfl)) ?_
             refine WC.region ?_
             refine WL.val (V.loadA (vs := My.cells) ⟨Tryz.isAgg73, Tryz.sizeOf73⟩ (OV.p rfl) rfl (fun _ => by repeat (first | exact Rds.gets ⟨rfl, rfl, trivial⟩ | apply Rds.up))) rfl ?_
             refine WL.store (cs := My.cells) Tryz.sizeOf73 (OV.p rfl) (OV.p rfl) rfl rfl rfl (Upd.up (Upd.up (Upd.up (Upd.up (Upd.up (Upd.here rfl rfl)))))) ?_
             refine WL.nil ?_
             refine WC.seq ?_
             refine WC.sub (H' := C9.A bc :: DvA bd bc g :: T9.A bs bd g :: My.A :: Cells b12 73 My.cells :: F) (Sub.refl _) (fun w h => h.sel 6 [1, 2, 3, 4, 5] rfl) ?_
             refine WC.region ?_
             refine WL.mv rfl rfl ?_
             refine WL.val (V.loadA (vs := My.cells) ⟨Tryz.isAgg73, Tryz.sizeOf73⟩ (OV.p rfl) rfl (fun _ => by repeat (first | exact Rds.gets ⟨rfl, rfl, trivial⟩ | apply Rds.up))) rfl ?_
             refine WL.call (vs := [_, _]) Tryz.call47 ⟨OV.p rfl, OV.p rfl, trivial⟩ (law11_all (M := My) hC9 g9 hT9 hI9 hu9 hyh hyd (by omega)) rfl ?_
             rintro _ _ ⟨rr, rfl, hrr, T7, hT7, t7, rfl⟩
             have hrt : rr = true := hrr.2 (fun k _ => by rw [hmy])
             obtain ⟨Cx, Tx, Mx, hIx, hmx⟩ : ∃ (Cx : Cw) (Tx : Stw) (Mx : Mw), CutI nl g (i + 1) Cx Tx Mx ∧ ∀ w, Sat K w (C9.A bc :: DvA bd bc g :: T7.A bs bd g :: My.A :: Cells b12 73 My.cells :: F) → Sat K w (Cx.A bc :: DvA bd bc g :: Tx.A bs bd g :: Mx.A :: Cells b12 73 Mx.cells :: F) := ⟨C9, T7, My, ⟨hC9, g9, hT7, hu9, ⟨st9, by rw [t7, ← hmy]; exact hI9⟩, by rw [t7]; exact hn9, hyh, hyd⟩, fun w h => h⟩
             refine WL.val (V.not (OV.p rfl)) rfl ?_
             refine WL.nil ?_
             refine WC.condF' rfl ((by rw [hrt]; rfl)) ?_
             refine WC.skip ?_
             refine WC.region ?_
             refine WL.mv rfl rfl ?_
             refine WL.ad rfl rfl rfl ?_
             refine WL.sg rfl rfl ?_
             refine WL.nil ?_
             refine ⟨rfl, ?_⟩
             exact ⟨(i + 1, Cx, Tx, bs, bd, Mx), ⟨him, hIx⟩, (by show m - (i + 1) < m - i; omega), .cons rfl (.cons rfl (.cons rfl (.cons rfl (.cons rfl (.cons (look_eq rfl (by simp)) (.nil _)))))), fun w h => hmx w h⟩
            ·simp only [decide_eq_true_eq, decide_eq_false_iff_not] at hc12
             have h12 := hc12
             obtain ⟨My, hMy⟩ : ∃ My, My = M3 := ⟨_, rfl⟩
             have hmy : mm9 = My.sem := by rw [hMy]; exact hm3 h12
             have hyh : My.has.length = nl := by rw [hMy]; exact h3h
             have hyd : My.dat.length = nl := by rw [hMy]; exact h3d
             refine WC.sr ?_
             refine WL.mv rfl rfl ?_
             refine WL.val (V.neq (OV.p rfl) (OV.p rfl)) rfl ?_
             refine WL.mv rfl rfl ?_
             refine WL.valG (oj := _) rfl rfl rfl GC.t (V.move (OV.p rfl)) rfl ?_
             refine WL.valG (oj := _) rfl rfl rfl GC.t (V.neq (OV.g rfl id) (OV.p rfl)) rfl ?_
             refine WL.val (V.pickAnd (OV.p rfl) (OV.g rfl id)) rfl ?_
             refine WL.nil ?_
             refine WC.condF' rfl ((by
               rcases he3 with h | h | h
               · simp [h]
               · exact absurd h h12
               · simp [h])) ?_
             refine WC.skip ?_
             refine WC.seq ?_
             refine WC.sub (H' := Cells b15 73 My.cells :: C9.A bc :: DvA bd bc g :: T9.A bs bd g :: My.A :: Cells b12 73 M.cells :: F) (Sub.refl _) (fun w h => by first | (rw [hMy]; exact h.sel 7 [5, 0, 1, 2, 3, 6] rfl) | (rw [hMy]; exact h.sel 7 [5, 0, 1, 2, 4, 6] rfl)) ?_
             refine WC.region ?_
             refine WL.val (V.loadA (vs := My.cells) ⟨Tryz.isAgg73, Tryz.sizeOf73⟩ (OV.p rfl) rfl (fun _ => by repeat (first | exact Rds.gets ⟨rfl, rfl, trivial⟩ | apply Rds.up))) rfl ?_
             refine WL.store (cs := My.cells) Tryz.sizeOf73 (OV.p rfl) (OV.p rfl) rfl rfl rfl (Upd.up (Upd.up (Upd.up (Upd.up (Upd.up (Upd.here rfl rfl)))))) ?_
             refine WL.nil ?_
             refine WC.seq ?_
             refine WC.sub (H' := C9.A bc :: DvA bd bc g :: T9.A bs bd g :: My.A :: Cells b12 73 My.cells :: F) (Sub.refl _) (fun w h => h.sel 6 [1, 2, 3, 4, 5] rfl) ?_
             refine WC.region ?_
             refine WL.mv rfl rfl ?_
             refine WL.val (V.loadA (vs := My.cells) ⟨Tryz.isAgg73, Tryz.sizeOf73⟩ (OV.p rfl) rfl (fun _ => by repeat (first | exact Rds.gets ⟨rfl, rfl, trivial⟩ | apply Rds.up))) rfl ?_
             refine WL.call (vs := [_, _]) Tryz.call47 ⟨OV.p rfl, OV.p rfl, trivial⟩ (law11_all (M := My) hC9 g9 hT9 hI9 hu9 hyh hyd (by omega)) rfl ?_
             rintro _ _ ⟨rr, rfl, hrr, T7, hT7, t7, rfl⟩
             have hrt : rr = true := hrr.2 (fun k _ => by rw [hmy])
             obtain ⟨Cx, Tx, Mx, hIx, hmx⟩ : ∃ (Cx : Cw) (Tx : Stw) (Mx : Mw), CutI nl g (i + 1) Cx Tx Mx ∧ ∀ w, Sat K w (C9.A bc :: DvA bd bc g :: T7.A bs bd g :: My.A :: Cells b12 73 My.cells :: F) → Sat K w (Cx.A bc :: DvA bd bc g :: Tx.A bs bd g :: Mx.A :: Cells b12 73 Mx.cells :: F) := ⟨C9, T7, My, ⟨hC9, g9, hT7, hu9, ⟨st9, by rw [t7, ← hmy]; exact hI9⟩, by rw [t7]; exact hn9, hyh, hyd⟩, fun w h => h⟩
             refine WL.val (V.not (OV.p rfl)) rfl ?_
             refine WL.nil ?_
             refine WC.condF' rfl ((by rw [hrt]; rfl)) ?_
             refine WC.skip ?_
             refine WC.region ?_
             refine WL.mv rfl rfl ?_
             refine WL.ad rfl rfl rfl ?_
             refine WL.sg rfl rfl ?_
             refine WL.nil ?_
             refine ⟨rfl, ?_⟩
             exact ⟨(i + 1, Cx, Tx, bs, bd, Mx), ⟨him, hIx⟩, (by show m - (i + 1) < m - i; omega), .cons rfl (.cons rfl (.cons rfl (.cons rfl (.cons rfl (.cons (look_eq rfl (by simp)) (.nil _)))))), fun w h => hmx w h⟩
          ·simp only [decide_eq_true_eq, decide_eq_false_iff_not] at hc8
           have h8 := hc8
           obtain ⟨C9, T9, hC9, g9, hT9, hu9, hn9, ⟨mm9, ⟨st9, hI9⟩, hm6, hm3⟩, hmem9⟩ : ∃ (C9 : Cw) (T9 : Stw), C9.Ok ∧ C9.g = g ∧ T9.Ok g ∧ C9.sem.up = true ∧ T9.sem.next ≤ 1 + 20 * ((i + 1 : Nat) : Int) ∧ (∃ mm, (∃ st, Chip.SI nl nl (256 + (i + 1)) C9.sem st T9.sem mm) ∧ (e = 6 → mm = M.sem) ∧ (e ≠ 6 → mm = M3.sem)) ∧ ∀ w, Sat K w (C2.A bc :: DvA bd bc g :: T2.A bs bd g :: M3.A :: M.A :: Cells b15 73 M3.cells :: Cells b14 76 o.cells :: Cells b12 73 M.cells :: F) → Sat K w (C9.A bc :: DvA bd bc g :: T9.A bs bd g :: M3.A :: M.A :: Cells b15 73 M3.cells :: Cells b12 73 M.cells :: F) := by
             rcases hout.res with ⟨h1, h2, h3⟩ | ⟨h1, h2, h3⟩ | ⟨h1, _, _⟩
             · exact ⟨C2, T2, hC2, g2, hT2, h2, hout.next, ⟨M3.sem, h3, fun h => by rw [h1] at h; exact absurd h (by decide), fun _ => rfl⟩, fun w h => h.sel 7 [0, 1, 2, 3, 4, 5] rfl⟩
             · exact ⟨C2, T2, hC2, g2, hT2, h2, hout.next, ⟨M.sem, h3, fun _ => rfl, fun h => absurd h1 h⟩, fun w h => h.sel 7 [0, 1, 2, 3, 4, 5] rfl⟩
             · exact absurd h1 h8
           refine WC.skip ?_
           refine WC.seq ?_
           refine WC.seq ?_
           refine WC.sub (H' := C9.A bc :: DvA bd bc g :: T9.A bs bd g :: M3.A :: M.A :: Cells b15 73 M3.cells :: Cells b12 73 M.cells :: F) (Sub.refl _) hmem9 ?_
           refine WC.region ?_
           refine WL.mv rfl rfl ?_
           refine WL.val (V.eql (OV.p rfl) (OV.p rfl)) rfl ?_
           refine WL.nil ?_
           refine WC.cond rfl (fun hc12 => ?_) (fun hc12 => ?_)
           ·simp only [decide_eq_true_eq, decide_eq_false_iff_not] at hc12
            have h12 := hc12
            obtain ⟨My, hMy⟩ : ∃ My, My = M := ⟨_, rfl⟩
            have hmy : mm9 = My.sem := by rw [hMy]; exact hm6 h12
            have hyh : My.has.length = nl := by rw [hMy]; exact hlh
            have hyd : My.dat.length = nl := by rw [hMy]; exact hld
            refine WC.region ?_
            refine WL.val (V.loadA (vs := M.cells) ⟨Tryz.isAgg73, Tryz.sizeOf73⟩ (OV.p rfl) rfl (fun _ => by repeat (first | exact Rds.gets ⟨rfl, rfl, trivial⟩ | apply Rds.up))) rfl ?_
            refine WL.store (cs := M.cells) Tryz.sizeOf73 (OV.p rfl) (OV.p rfl) rfl rfl rfl (Upd.up (Upd.up (Upd.up (Upd.up (Upd.up (Upd.here rfl rfl)))))) ?_
            refine WL.nil ?_
            refine WC.seq ?_
            refine WC.sub (H' := Cells b15 73 My.cells :: C9.A bc :: DvA bd bc g :: T9.A bs bd g :: My.A :: Cells b12 73 M.cells :: F) (Sub.refl _) (fun w h => by first | (rw [hMy]; exact h.sel 7 [5, 0, 1, 2, 3, 6] rfl) | (rw [hMy]; exact h.sel 7 [5, 0, 1, 2, 4, 6] rfl)) ?_
            refine WC.region ?_
            refine WL.val (V.loadA (vs := My.cells) ⟨Tryz.isAgg73, Tryz.sizeOf73⟩ (OV.p rfl) rfl (fun _ => by repeat (first | exact Rds.gets ⟨rfl, rfl, trivial⟩ | apply Rds.up))) rfl ?_
            refine WL.store (cs := My.cells) Tryz.sizeOf73 (OV.p rfl) (OV.p rfl) rfl rfl rfl (Upd.up (Upd.up (Upd.up (Upd.up (Upd.up (Upd.here rfl rfl)))))) ?_
            refine WL.nil ?_
            refine WC.seq ?_
            refine WC.sub (H' := C9.A bc :: DvA bd bc g :: T9.A bs bd g :: My.A :: Cells b12 73 My.cells :: F) (Sub.refl _) (fun w h => h.sel 6 [1, 2, 3, 4, 5] rfl) ?_
            refine WC.region ?_
            refine WL.mv rfl rfl ?_
            refine WL.val (V.loadA (vs := My.cells) ⟨Tryz.isAgg73, Tryz.sizeOf73⟩ (OV.p rfl) rfl (fun _ => by repeat (first | exact Rds.gets ⟨rfl, rfl, trivial⟩ | apply Rds.up))) rfl ?_
            refine WL.call (vs := [_, _]) Tryz.call47 ⟨OV.p rfl, OV.p rfl, trivial⟩ (law11_all (M := My) hC9 g9 hT9 hI9 hu9 hyh hyd (by omega)) rfl ?_
            rintro _ _ ⟨rr, rfl, hrr, T7, hT7, t7, rfl⟩
            have hrt : rr = true := hrr.2 (fun k _ => by rw [hmy])
            obtain ⟨Cx, Tx, Mx, hIx, hmx⟩ : ∃ (Cx : Cw) (Tx : Stw) (Mx : Mw), CutI nl g (i + 1) Cx Tx Mx ∧ ∀ w, Sat K w (C9.A bc :: DvA bd bc g :: T7.A bs bd g :: My.A :: Cells b12 73 My.cells :: F) → Sat K w (Cx.A bc :: DvA bd bc g :: Tx.A bs bd g :: Mx.A :: Cells b12 73 Mx.cells :: F) := ⟨C9, T7, My, ⟨hC9, g9, hT7, hu9, ⟨st9, by rw [t7, ← hmy]; exact hI9⟩, by rw [t7]; exact hn9, hyh, hyd⟩, fun w h => h⟩
            refine WL.val (V.not (OV.p rfl)) rfl ?_
            refine WL.nil ?_
            refine WC.condF' rfl ((by rw [hrt]; rfl)) ?_
            refine WC.skip ?_
            refine WC.region ?_
            refine WL.mv rfl rfl ?_
            refine WL.ad rfl rfl rfl ?_
            refine WL.sg rfl rfl ?_
            refine WL.nil ?_
            refine ⟨rfl, ?_⟩
            exact ⟨(i + 1, Cx, Tx, bs, bd, Mx), ⟨him, hIx⟩, (by show m - (i + 1) < m - i; omega), .cons rfl (.cons rfl (.cons rfl (.cons rfl (.cons rfl (.cons (look_eq rfl (by simp)) (.nil _)))))), fun w h => hmx w h⟩
           ·simp only [decide_eq_true_eq, decide_eq_false_iff_not] at hc12
            have h12 := hc12
            obtain ⟨My, hMy⟩ : ∃ My, My = M3 := ⟨_, rfl⟩
            have hmy : mm9 = My.sem := by rw [hMy]; exact hm3 h12
            have hyh : My.has.length = nl := by rw [hMy]; exact h3h
            have hyd : My.dat.length = nl := by rw [hMy]; exact h3d
            refine WC.sr ?_
            refine WL.mv rfl rfl ?_
            refine WL.val (V.neq (OV.p rfl) (OV.p rfl)) rfl ?_
            refine WL.mv rfl rfl ?_
            refine WL.valG (oj := _) rfl rfl rfl GC.t (V.move (OV.p rfl)) rfl ?_
            refine WL.valG (oj := _) rfl rfl rfl GC.t (V.neq (OV.g rfl id) (OV.p rfl)) rfl ?_
            refine WL.val (V.pickAnd (OV.p rfl) (OV.g rfl id)) rfl ?_
            refine WL.nil ?_
            refine WC.condF' rfl ((by
              rcases he3 with h | h | h
              · simp [h]
              · exact absurd h h12
              · simp [h])) ?_
            refine WC.skip ?_
            refine WC.seq ?_
            refine WC.sub (H' := Cells b15 73 My.cells :: C9.A bc :: DvA bd bc g :: T9.A bs bd g :: My.A :: Cells b12 73 M.cells :: F) (Sub.refl _) (fun w h => by first | (rw [hMy]; exact h.sel 7 [5, 0, 1, 2, 3, 6] rfl) | (rw [hMy]; exact h.sel 7 [5, 0, 1, 2, 4, 6] rfl)) ?_
            refine WC.region ?_
            refine WL.val (V.loadA (vs := My.cells) ⟨Tryz.isAgg73, Tryz.sizeOf73⟩ (OV.p rfl) rfl (fun _ => by repeat (first | exact Rds.gets ⟨rfl, rfl, trivial⟩ | apply Rds.up))) rfl ?_
            refine WL.store (cs := My.cells) Tryz.sizeOf73 (OV.p rfl) (OV.p rfl) rfl rfl rfl (Upd.up (Upd.up (Upd.up (Upd.up (Upd.up (Upd.here rfl rfl)))))) ?_
            refine WL.nil ?_
            refine WC.seq ?_
            refine WC.sub (H' := C9.A bc :: DvA bd bc g :: T9.A bs bd g :: My.A :: Cells b12 73 My.cells :: F) (Sub.refl _) (fun w h => h.sel 6 [1, 2, 3, 4, 5] rfl) ?_
            refine WC.region ?_
            refine WL.mv rfl rfl ?_
            refine WL.val (V.loadA (vs := My.cells) ⟨Tryz.isAgg73, Tryz.sizeOf73⟩ (OV.p rfl) rfl (fun _ => by repeat (first | exact Rds.gets ⟨rfl, rfl, trivial⟩ | apply Rds.up))) rfl ?_
            refine WL.call (vs := [_, _]) Tryz.call47 ⟨OV.p rfl, OV.p rfl, trivial⟩ (law11_all (M := My) hC9 g9 hT9 hI9 hu9 hyh hyd (by omega)) rfl ?_
            rintro _ _ ⟨rr, rfl, hrr, T7, hT7, t7, rfl⟩
            have hrt : rr = true := hrr.2 (fun k _ => by rw [hmy])
            obtain ⟨Cx, Tx, Mx, hIx, hmx⟩ : ∃ (Cx : Cw) (Tx : Stw) (Mx : Mw), CutI nl g (i + 1) Cx Tx Mx ∧ ∀ w, Sat K w (C9.A bc :: DvA bd bc g :: T7.A bs bd g :: My.A :: Cells b12 73 My.cells :: F) → Sat K w (Cx.A bc :: DvA bd bc g :: Tx.A bs bd g :: Mx.A :: Cells b12 73 Mx.cells :: F) := ⟨C9, T7, My, ⟨hC9, g9, hT7, hu9, ⟨st9, by rw [t7, ← hmy]; exact hI9⟩, by rw [t7]; exact hn9, hyh, hyd⟩, fun w h => h⟩
            refine WL.val (V.not (OV.p rfl)) rfl ?_
            refine WL.nil ?_
            refine WC.condF' rfl ((by rw [hrt]; rfl)) ?_
            refine WC.skip ?_
            refine WC.region ?_
            refine WL.mv rfl rfl ?_
            refine WL.ad rfl rfl rfl ?_
            refine WL.sg rfl rfl ?_
            refine WL.nil ?_
            refine ⟨rfl, ?_⟩
            exact ⟨(i + 1, Cx, Tx, bs, bd, Mx), ⟨him, hIx⟩, (by show m - (i + 1) < m - i; omega), .cons rfl (.cons rfl (.cons rfl (.cons rfl (.cons rfl (.cons (look_eq rfl (by simp)) (.nil _)))))), fun w h => hmx w h⟩
     ·simp only [decide_eq_true_eq, decide_eq_false_iff_not] at hc3
      refine WC.exit ?_
      refine WC.sr ?_
      refine WL.call (vs := []) Tryz.call30 trivial (law11_awake _ _) rfl ?_
      rintro _ H0 ⟨rfl, h0⟩
      subst H0
      refine WL.sg rfl rfl ?_
      refine WL.nil ?_
      refine WC.ret ?_
      exact BodyQ.ret (H' := F) (Res.tmp rfl rfl) (fun w h => h.drop 5) ⟨rfl, rfl⟩
end Go.Proofs.YtohkefolnmcjnaaGreat
