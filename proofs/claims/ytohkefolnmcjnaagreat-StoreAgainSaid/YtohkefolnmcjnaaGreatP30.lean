import Derived.Test.YtohkefolnmcjnaaGreatP29
/- The law StoreAgain. -/
namespace Go.Proofs.YtohkefolnmcjnaaGreat
open Go.Sl Go.RowKit
set_option linter.unusedVariables false
set_option linter.unusedSimpArgs false
set_option maxRecDepth 20000

theorem Chip.SI.more {lebs L B B' : Nat} {S : Chip} {st : Int → Sta} {T : St} {m : Lm} (h : Chip.SI lebs L B S st T m) (hB : B ≤ B') : Chip.SI lebs L B' S st T m :=
  ⟨h.ci, h.low, h.uniq, h.dead, h.len, h.slen, h.at_, h.next, h.num, fun l hl => Nat.le_trans (h.long l hl) hB, h.none_, h.some_, h.stal⟩
theorem Fine.more {lebs L B B' : Nat} {N N' : Int} {S : Chip} {T : St} {m : Lm} (h : Fine lebs L B N S T m) (hB : B ≤ B') (hn : N ≤ N') : Fine lebs L B' N' S T m := by
  obtain ⟨st, hI⟩ := h.si
  exact ⟨⟨st, hI.more hB⟩, h.up, h.left, h.weak, h.un, h.wrong, by have := h.next; omega⟩
theorem Chip.SI.open_next {lebs L B : Nat} {S : Chip} {st : Int → Sta} {T : St} {m : Lm} (h : Chip.SI lebs L B S st T m) (hu : S.up = true) (k : Nat) : (openF S k).next ≤ T.next := by
  show nextF S.scanF ≤ T.next
  have hn := h.next
  unfold nextF
  split
  · exact hn
  · rename_i h0
    have h1 := mxTo_mem (c := cmpM) (fs := S.scanF) (by omega) (S.scanF.length - 1) (by omega)
    obtain ⟨k1, k2, k3, d, k4⟩ := (Chip.mem_scan h.ci hu _).1 h1
    have := h.num _ k1 k2 k3 _ _ _ k4
    omega
theorem Fine.again {lebs B : Nat} {N : Int} {S : Chip} {T : St} {m : Lm} (h : Fine lebs lebs B N S T m) (hm : ∀ i, lebs ≤ i → m i = none) : Fine lebs lebs 256 N S (openF S lebs) m := by
  obtain ⟨st, hI⟩ := h.si
  obtain ⟨st', h'⟩ := h.opened rfl (k := lebs) (m' := m) (fun i => by
    by_cases hi : i < lebs
    · rw [if_pos hi]
    · rw [if_neg hi, hm i (by omega)])
  exact ⟨⟨st', h'⟩, h.up, h.left, h.weak, h.un, h.wrong, by have := h.next; have := hI.open_next h.up lebs; omega⟩
def mapI (ss : List ByteArray) (base : Lm) (i : Nat) : Lm := fun k => if k < i then some (datS ss k) else base k
theorem mapI_succ (ss : List ByteArray) (base : Lm) (i : Nat) : (mapI ss base i).put i (some (datS ss i)) = mapI ss base (i + 1) := by
  funext k
  unfold Lm.put mapI
  by_cases h : k = i
  · subst h; rw [if_pos rfl, if_pos (by omega)]
  · rw [if_neg h]
    by_cases hk : k < i
    · rw [if_pos hk, if_pos (by omega)]
    · rw [if_neg hk, if_neg (by omega)]
theorem mapI_all {ss : List ByteArray} {base : Lm} {m : Nat} (h : ∀ k, m ≤ k → base k = none) : mapI ss base m = mapS ss m := by
  funext k
  unfold mapI mapS
  by_cases hk : k < m
  · rw [if_pos hk, if_pos hk]
  · rw [if_neg hk, if_neg hk, h k (by omega)]
theorem mapS_past {ss : List ByteArray} {m : Nat} : ∀ k, m ≤ k → mapS ss m k = none := fun k hk => by unfold mapS; rw [if_neg (by omega)]
theorem law11_StoreAgain (g : Geo) (times : Int) {A : Option Addr} {m cap : Nat} {ss : List ByteArray} {K : World} {F : List Assn} (hs : Seq K F A m 1 (strs ss)) (hl : ss.length = m) :
    Tells Tryz.prog 7 #[g.v, .slice A m cap, .int .i64 times] K F (.bool true) := by
  refine Does.enter Tryz.func7 rfl Tryz.ntmps7 rfl ?_
  simp only [env0, Nat.reduceAdd]
  refine WC.sr ?_
  refine WL.box (cs := [_, _, _, _, _]) (OV.p rfl) rfl rfl (fun b3 => ?_)
  refine WL.val (V.assign (OV.p rfl)) rfl ?_
  refine WL.nil ?_
  refine WC.seq ?_
  refine WC.sr ?_
  refine WL.val (V.loadA (vs := [_, _, _, _, _]) ⟨Tryz.isAgg23, Tryz.sizeOf23⟩ (OV.p rfl) rfl (fun _ => by repeat (first | exact Rds.gets ⟨rfl, rfl, rfl, rfl, rfl, trivial⟩ | apply Rds.up))) rfl ?_
  refine WL.call (vs := [_]) Tryz.call36 ⟨OV.p rfl, trivial⟩ (law11_small g _ _) rfl ?_
  rintro _ H0 ⟨rfl, h0⟩
  subst H0
  refine WL.val (V.not (OV.p rfl)) rfl ?_
  refine WL.val (V.move (OV.p rfl)) rfl ?_
  refine WL.valG (oj := _) rfl rfl rfl GC.f (V.move (OV.p rfl)) rfl ?_
  refine WL.valG (oj := _) rfl rfl rfl GC.f (V.len (t := 66) Tryz.runUnderlying66 (OV.g rfl id)) rfl ?_
  refine WL.valG (oj := _) rfl rfl rfl GC.f (V.lss (OV.g rfl id) (OV.p rfl)) rfl ?_
  refine WL.val (V.pickOr (OV.p rfl) (OV.g rfl id)) rfl ?_
  refine WL.val (V.move (OV.p rfl)) rfl ?_
  refine WL.valG (oj := _) rfl rfl rfl GC.f (V.move (OV.p rfl)) rfl ?_
  refine WL.valG (oj := _) rfl rfl rfl GC.f (V.len (t := 66) Tryz.runUnderlying66 (OV.g rfl id)) rfl ?_
  refine WL.valG (oj := _) rfl rfl rfl GC.f (V.fieldAddr fo23_0 (OV.p rfl)) rfl ?_
  refine WL.valG (oj := _) rfl rfl rfl GC.f (V.load Tryz.isAgg3 (OV.g rfl id) (fun _ => by repeat (first | exact Rd.here rfl | apply Rd.up))) rfl ?_
  refine WL.valG (oj := _) rfl rfl rfl GC.f (V.geq (OV.g rfl id) (OV.g rfl id)) rfl ?_
  refine WL.val (V.pickOr (OV.p rfl) (OV.g rfl id)) rfl ?_
  refine WL.val (V.move (OV.p rfl)) rfl ?_
  refine WL.valG (oj := _) rfl rfl rfl GC.f (V.move (OV.p rfl)) rfl ?_
  refine WL.valG (oj := _) rfl rfl rfl GC.f (V.lss (OV.g rfl id) (OV.p rfl)) rfl ?_
  refine WL.val (V.pickOr (OV.p rfl) (OV.g rfl id)) rfl ?_
  refine WL.val (V.move (OV.p rfl)) rfl ?_
  refine WL.valG (oj := _) rfl rfl rfl GC.f (V.move (OV.p rfl)) rfl ?_
  refine WL.valG (oj := _) rfl rfl rfl GC.f (V.gtr (OV.g rfl id) (OV.p rfl)) rfl ?_
  refine WL.val (V.pickOr (OV.p rfl) (OV.g rfl id)) rfl ?_
  refine WL.nil ?_
  refine WC.cond rfl (fun hc0 => ?_) (fun hc0 => ?_)
  ·simp only [Bool.or_eq_true, Bool.or_eq_false_iff, Bool.and_eq_true, decide_eq_true_eq, decide_eq_false_iff_not, Bool.not_eq_true', Bool.not_eq_false'] at hc0
   refine WC.sr ?_
   refine WL.val (V.assign (OV.p rfl)) rfl ?_
   refine WL.nil ?_
   refine WC.ret ?_
   exact BodyQ.ret (H' := F) (Res.tmp rfl rfl) (fun w h => h.drop 1) ⟨rfl, rfl⟩
  ·simp only [Bool.or_eq_true, Bool.or_eq_false_iff, Bool.and_eq_true, decide_eq_true_eq, decide_eq_false_iff_not, Bool.not_eq_true', Bool.not_eq_false'] at hc0
   obtain ⟨⟨⟨⟨⟨⟨⟨hmay, h32⟩, h12⟩, hp5⟩, hm1⟩, hm2⟩, ht1⟩, ht2⟩ := hc0
   have hg := Geo.mays_of hmay
   have hgb := hg
   unfold Geo.mays at hgb
   have hcb := Geo.cap_bd hg
   have hmn : 1 ≤ m ∧ m ≤ 11 := by omega
   obtain ⟨tm, rfl⟩ : ∃ tm : Nat, times = (tm : Int) := ⟨times.toNat, by omega⟩
   refine WC.skip ?_
   refine WC.sr ?_
   refine WL.val (V.loadA (vs := [_, _, _, _, _]) ⟨Tryz.isAgg23, Tryz.sizeOf23⟩ (OV.p rfl) rfl (fun _ => by repeat (first | exact Rds.gets ⟨rfl, rfl, rfl, rfl, rfl, trivial⟩ | apply Rds.up))) rfl ?_
   refine WL.call (vs := [_, _]) Tryz.call13 ⟨OV.p rfl, OV.p rfl, trivial⟩ (chip_New g (l := []) Seq.nil (by decide)) rfl ?_
   rintro _ _ (⟨hm, hin, bc, C0, hC0, s0, rfl, rfl⟩ | ⟨hno, rfl, rfl⟩)
   rotate_left
   · exact (hno ⟨hmay, fun x hx => by simp at hx⟩).elim
   have g0 : C0.g = g := by rw [show C0.g = C0.sem.g from rfl, s0]; rfl
   have u0 : C0.sem.up = true := by rw [s0]; rfl
   have o0 : C0.on.sem = Chip.new g [] := by show C0.sem.on = _; rw [on_same u0, s0]
   refine WL.val (V.move (OV.p rfl)) rfl ?_
   refine WL.val (V.extract (OV.p rfl) rfl) rfl ?_
   refine WL.val (V.extract (OV.p rfl) rfl) rfl ?_
   refine WL.val (V.assign (OV.p rfl)) rfl ?_
   refine WL.val (V.assign (OV.p rfl)) rfl ?_
   refine WL.nil ?_
   refine WC.seq ?_
   refine WC.sr ?_
   refine WL.val (V.move (OV.p rfl)) rfl ?_
   refine WL.val (V.neq (OV.p rfl) (OV.p rfl)) rfl ?_
   refine WL.nil ?_
   refine WC.condF' rfl (by first | rfl | (simp; done) | (simp; omega)) ?_
   refine WC.skip ?_
   refine WC.sr ?_
   refine WL.val (V.move (OV.p rfl)) rfl ?_
   refine WL.val (V.move (OV.p rfl)) rfl ?_
   refine WL.val (V.len (t := 66) Tryz.runUnderlying66 (OV.p rfl)) rfl ?_
   refine WL.call (vs := [_, _]) Tryz.call38 ⟨OV.p rfl, OV.p rfl, trivial⟩ (law11_open hC0 g0 (lebs := m) (by omega) (by omega)) rfl ?_
   rintro _ _ ⟨bd0, bs0, T0, hT0, t0, rfl, rfl⟩
   refine WL.val (V.assign (OV.p rfl)) rfl ?_
   refine WL.nil ?_
   refine WC.seq ?_
   refine WC.sr ?_
   refine WL.val (V.move (OV.p rfl)) rfl ?_
   refine WL.val (V.eqlP Tryz.underlying56 (OV.p rfl) (OV.p rfl)) rfl ?_
   refine WL.nil ?_
   refine WC.condF' rfl (by first | rfl | (simp; done) | (simp; omega)) ?_
   refine WC.skip ?_
   refine WC.seq ?_
   refine WC.sr ?_
   refine WL.val (V.assign (OV.p rfl)) rfl ?_
   refine WL.nil ?_
   refine WC.block ?_
   have hF0 : Fine m m 300 1 C0.on.sem T0.sem (fun _ => none) := by
     rw [t0, o0]
     exact (Fine.new hg m).more (by omega) (Int.le_refl _)
   refine WC.loop (σ := Nat × Cw × Stw × Nat × Nat) (fun s => [(1, .slice A m cap), (2, .int .i64 (tm : Int)), (3, ptr b3 0), (7, ptr bc 0), (9, ptr s.2.2.2.1 0), (10, .int .i64 (s.1 : Int))]) (fun s => s.2.1.A bc :: DvA s.2.2.2.2 bc g :: s.2.2.1.A s.2.2.2.1 s.2.2.2.2 g :: Cells b3 23 [.int .i64 g.bl, .int .i64 g.pg, .int .i64 g.se, .int .i64 g.sb, .int .i64 g.fl] :: F) (fun s => s.1 ≤ tm ∧ s.2.1.Ok ∧ s.2.1.g = g ∧ s.2.2.1.Ok g ∧ ∃ base : Lm, (∀ k, m ≤ k → base k = none) ∧ Fine m m 300 (1 + 231 * (s.1 : Int)) s.2.1.sem s.2.2.1.sem base) (fun s => tm - s.1) (0, C0.on, T0, bs0, bd0) ⟨Nat.zero_le _, hC0.on, g0, hT0, _, fun _ _ => rfl, by simpa using hF0⟩ (.cons rfl (.cons rfl (.cons rfl (.cons rfl (.cons rfl (.cons rfl (.nil _))))))) (fun w h => h) ?_
   rintro ⟨n, Cn, Tn, bs, bd⟩ ⟨hn, hCn, hgn, hTn, base, hbase, hFn⟩
   dsimp only at hn hCn hgn hTn hFn ⊢
   refine WC.seq ?_
   refine WC.sr ?_
   refine WL.val (V.move (OV.p rfl)) rfl ?_
   refine WL.val (V.move (OV.p rfl)) rfl ?_
   refine WL.val (V.lss (OV.p rfl) (OV.p rfl)) rfl ?_
   refine WL.nil ?_
   refine WC.cond rfl (fun hc3 => ?_) (fun hc3 => ?_)
   ·simp only [decide_eq_true_eq, decide_eq_false_iff_not] at hc3
    have hnt : n < tm := by omega
    refine WC.skip ?_
    refine WC.seq ?_
    refine WC.block ?_
    refine WC.seq ?_
    refine WC.sr ?_
    refine WL.val (V.assign (OV.p rfl)) rfl ?_
    refine WL.nil ?_
    refine WC.block ?_
    refine WC.loop (σ := Nat × Cw × Stw) (fun s => [(1, .slice A m cap), (2, .int .i64 (tm : Int)), (3, ptr b3 0), (7, ptr bc 0), (9, ptr bs 0), (10, .int .i64 (n : Int)), (11, .int .i64 (s.1 : Int))]) (fun s => s.2.1.A bc :: DvA bd bc g :: s.2.2.A bs bd g :: Cells b3 23 [.int .i64 g.bl, .int .i64 g.pg, .int .i64 g.se, .int .i64 g.sb, .int .i64 g.fl] :: F) (fun s => s.1 ≤ m ∧ s.2.1.Ok ∧ s.2.1.g = g ∧ s.2.2.Ok g ∧ Fine m m (300 + s.1) (1 + 231 * (n : Int) + 21 * (s.1 : Int)) s.2.1.sem s.2.2.sem (mapI ss base s.1)) (fun s => m - s.1) (0, Cn, Tn) ⟨Nat.zero_le _, hCn, hgn, hTn, by
      have : mapI ss base 0 = base := by funext k; unfold mapI; rw [if_neg (Nat.not_lt_zero k)]
      dsimp only
      rw [this]
      simpa using hFn⟩ (.cons rfl (.cons rfl (.cons rfl (.cons rfl (.cons rfl (.cons rfl (.cons rfl (.nil _)))))))) (fun w h => h) ?_
    rintro ⟨i, C, T⟩ ⟨hi, hC, hg', hT, hFi⟩
    dsimp only at hi hC hg' hT hFi ⊢
    have hgs : C.sem.g = g := hg'
    refine WC.seq ?_
    refine WC.sr ?_
    refine WL.val (V.move (OV.p rfl)) rfl ?_
    refine WL.val (V.move (OV.p rfl)) rfl ?_
    refine WL.val (V.len (t := 66) Tryz.runUnderlying66 (OV.p rfl)) rfl ?_
    refine WL.val (V.lss (OV.p rfl) (OV.p rfl)) rfl ?_
    refine WL.nil ?_
    refine WC.cond rfl (fun hc4 => ?_) (fun hc4 => ?_)
    ·simp only [decide_eq_true_eq, decide_eq_false_iff_not] at hc4
     have him : i < m := by omega
     have hti : (i : Int).toNat = i := by omega
     obtain ⟨s, hsd⟩ : ∃ s, s = ss.getD i ByteArray.empty := ⟨_, rfl⟩
     have hrd : Rd K F (A.map (·.add ((i : Int).toNat * 1))) (.string s) := by rw [hti, hsd]; exact Seq.str_rd hs him
     have hdl := datS_length ss i
     rw [← hsd] at hdl
     obtain ⟨d, hd⟩ : ∃ d, d = datS ss i := ⟨_, rfl⟩
     have hd8 : Small 256 d := by rw [hd]; exact datS_small ss i
     rw [← hd] at hdl
     refine WC.skip ?_
     refine WC.seq ?_
     refine WC.block ?_
     refine WC.seq ?_
     refine WC.seq ?_
     refine WC.regionQ (by kernel_rfl) (by kernel_rfl) ?_
     refine WQ.val (V.move (OV.p rfl)) rfl ?_
     refine WQ.val (V.move (OV.p rfl)) rfl ?_
     refine WQ.val (V.idxS st66 (OV.p rfl) (OV.p rfl) (fun _ => by omega) (fun _ => by repeat (first | exact hrd | apply Rd.up))) rfl ?_
     refine WQ.val (V.load Tryz.isAgg9 (OV.p rfl) (fun _ => by repeat (first | exact hrd | apply Rd.up))) rfl ?_
     refine WQ.val (V.lenStr Tryz.runUnderlying9 (OV.p rfl)) rfl ?_
     refine WQ.val (V.loadA (vs := [_, _, _, _, _]) ⟨Tryz.isAgg23, Tryz.sizeOf23⟩ (OV.p rfl) rfl (fun _ => by repeat (first | exact Rds.gets ⟨rfl, rfl, rfl, rfl, rfl, trivial⟩ | apply Rds.up))) rfl ?_
     refine WQ.call (vs := [_]) Tryz.call39 ⟨OV.p rfl, trivial⟩ (ref09_Cap hg) rfl ?_
     refine WQ.val (V.gtr (OV.p rfl) (OV.p rfl)) rfl ?_
     refine WQ.nil ?_
     refine WC.cond rfl (fun hc5 => ?_) (fun hc5 => ?_)
     ·simp only [decide_eq_true_eq, decide_eq_false_iff_not] at hc5
      have h4 := hc5
      refine WC.sr ?_
      refine WL.val (V.assign (OV.p rfl)) rfl ?_
      refine WL.nil ?_
      refine WC.ret ?_
      exact BodyQ.ret (H' := F) (Res.tmp rfl rfl) (fun w h => h.drop 4) ⟨rfl, rfl⟩
     ·simp only [decide_eq_true_eq, decide_eq_false_iff_not] at hc5
      have h4 := hc5
      have hdc : (d.length : Int) ≤ g.cap := by rw [hdl]; omega
      refine WC.skip ?_
      refine WC.sr ?_
      refine WL.val (V.move (OV.p rfl)) rfl ?_
      refine WL.val (V.move (OV.p rfl)) rfl ?_
      refine WL.val (V.move (OV.p rfl)) rfl ?_
      refine WL.val (V.move (OV.p rfl)) rfl ?_
      refine WL.val (V.idxS st66 (OV.p rfl) (OV.p rfl) (fun _ => by omega) (fun _ => by repeat (first | exact hrd | apply Rd.up))) rfl ?_
      refine WL.val (V.load Tryz.isAgg9 (OV.p rfl) (fun _ => by repeat (first | exact hrd | apply Rd.up))) rfl ?_
      refine WL.strBytes (s := s) rfl Tryz.underlying9 Tryz.underlying38 Tryz.underlying5 (OV.p rfl) rfl (fun b72 cp72 cs72 hcp hsq => ?_)
      refine WL.sub (Sub.refl _) (fun w h => h.sel 4 [1, 2, 3, 0] rfl) ?_
      have hsn : ∀ H' : List Assn, Seq K (CellsZ b72 5 cs72 :: H') (some ⟨b72, 0, none⟩) s.size 1 (nats .u8 d) := fun H' => by
        have := hsq H'
        rw [ints_natsOf (bytesOf_bytes s)] at this
        rw [hd]
        unfold datS
        rw [← hsd]; exact this
      obtain ⟨st0, hI0⟩ := hFi.si
      have hlong : ∀ l ∈ T.sem.stale, l.length ≤ 1000000 := fun l hl' => Nat.le_trans (hI0.long l hl') (by omega)
      obtain ⟨hc1, hc2, hc3⟩ := hFi.change (by rw [hgs]; omega) (by rw [hgs]; omega) (by omega) (i0 := i) him him (by omega) hd8 (by rw [hgs]; exact hdc)
      refine WL.call (vs := [_, _, _]) Tryz.call31 ⟨OV.p rfl, OV.p rfl, OV.p rfl, trivial⟩ (store_Change (d := d) hC hg' hT (hsn _) hd8 hcp (by omega) hlong) rfl ?_
      rintro v73 _ ⟨C2, T2, hC2, g2, hT2, s2, t2, hv2, rfl⟩
      rw [hc1] at hv2
      subst hv2
      rw [← s2, ← t2, hd, mapI_succ] at hc3
      refine WL.val (V.neq (OV.p rfl) (OV.p rfl)) rfl ?_
      refine WL.nil ?_
      refine WC.condF' rfl (by first | rfl | (simp; done) | (simp; omega)) ?_
      refine WC.skip ?_
      refine WC.region ?_
      refine WL.val (V.move (OV.p rfl)) rfl ?_
      refine WL.val (V.addI (OV.p rfl) (OV.p rfl) (fun hc => by first | omega | (simp at hc; omega))) rfl ?_
      refine WL.val (V.assign (OV.p rfl)) rfl ?_
      refine WL.nil ?_
      refine ⟨rfl, ?_⟩
      exact ⟨(i + 1, C2, T2), ⟨him, hC2, g2, hT2, by
        rw [show 300 + (i + 1) = 300 + i + 1 by omega, show 1 + 231 * (n : Int) + 21 * (((i + 1 : Nat)) : Int) = 1 + 231 * (n : Int) + 21 * (i : Int) + 21 by omega]
        exact hc3⟩, (by show m - (i + 1) < m - i; omega), .cons rfl (.cons rfl (.cons rfl (.cons rfl (.cons rfl (.cons rfl (.cons (look_eq rfl (by simp)) (.nil _))))))), fun w h => h.sel 4 [0, 1, 2] rfl⟩
    ·simp only [decide_eq_true_eq, decide_eq_false_iff_not] at hc4
     refine WC.exit ?_
     refine WC.seq ?_
     obtain rfl : i = m := by omega
     rw [mapI_all hbase] at hFi
     refine WC.region ?_
     refine WL.val (V.assign (OV.p rfl)) rfl ?_
     refine WL.nil ?_
     refine WC.block ?_
     refine WC.loop (σ := Nat × Cw × Stw × Nat × Nat) (fun s => [(1, .slice A i cap), (2, .int .i64 (tm : Int)), (3, ptr b3 0), (7, ptr bc 0), (9, ptr s.2.2.2.1 0), (10, .int .i64 (n : Int)), (12, .int .i64 (s.1 : Int))]) (fun s => s.2.1.A bc :: DvA s.2.2.2.2 bc g :: s.2.2.1.A s.2.2.2.1 s.2.2.2.2 g :: Cells b3 23 [.int .i64 g.bl, .int .i64 g.pg, .int .i64 g.se, .int .i64 g.sb, .int .i64 g.fl] :: F) (fun s => s.1 ≤ 2 ∧ s.2.1.Ok ∧ s.2.1.g = g ∧ s.2.2.1.Ok g ∧ Fine i i (if s.1 = 0 then 400 else 300) (1 + 231 * (n : Int) + 231) s.2.1.sem s.2.2.1.sem (mapS ss i)) (fun s => 2 - s.1) (0, C, T, bs, bd) ⟨Nat.zero_le _, hC, hg', hT, hFi.more (by show 300 + i ≤ 400; omega) (by omega)⟩ (.cons rfl (.cons rfl (.cons rfl (.cons rfl (.cons rfl (.cons rfl (.cons rfl (.nil _)))))))) (fun w h => h) ?_
     rintro ⟨k, Ck, Tk, bsk, bdk⟩ ⟨hk, hCk, hgk, hTk, hFk⟩
     dsimp only at hk hCk hgk hTk hFk ⊢
     refine WC.seq ?_
     refine WC.sr ?_
     refine WL.val (V.move (OV.p rfl)) rfl ?_
     refine WL.val (V.lss (OV.p rfl) (OV.p rfl)) rfl ?_
     refine WL.nil ?_
     refine WC.cond rfl (fun hc7 => ?_) (fun hc7 => ?_)
     ·simp only [decide_eq_true_eq, decide_eq_false_iff_not] at hc7
      have hk2 : k < 2 := by omega
      refine WC.skip ?_
      refine WC.seq ?_
      refine WC.block ?_
      refine WC.sr ?_
      refine WL.val (V.move (OV.p rfl)) rfl ?_
      refine WL.val (V.move (OV.p rfl)) rfl ?_
      refine WL.val (V.len (t := 66) Tryz.runUnderlying66 (OV.p rfl)) rfl ?_
      refine WL.call (vs := [_, _]) Tryz.call38 ⟨OV.p rfl, OV.p rfl, trivial⟩ (law11_open hCk hgk (lebs := i) (by omega) (by omega)) rfl ?_
      rintro _ _ ⟨bd2, bs2, T1, hT1, t1, rfl, rfl⟩
      have oC : Ck.on.sem = Ck.sem := on_same hFk.up
      rw [oC] at t1
      have hFo : Fine i i 300 (1 + 231 * (n : Int) + 231) Ck.on.sem T1.sem (mapS ss i) := by
        rw [oC, t1]
        exact (hFk.again mapS_past).more (by omega) (Int.le_refl _)
      obtain ⟨st1, hI1⟩ := hFo.si
      refine WL.sub (Sub.refl _) (fun w h => h.sel 6 [0, 1, 2, 5] rfl) ?_
      refine WL.val (V.assign (OV.p rfl)) rfl ?_
      refine WL.nil ?_
      refine WC.seq ?_
      refine WC.sr ?_
      refine WL.val (V.move (OV.p rfl)) rfl ?_
      refine WL.val (V.eqlP Tryz.underlying56 (OV.p rfl) (OV.p rfl)) rfl ?_
      refine WL.nil ?_
      refine WC.condF' rfl (by first | rfl | (simp; done) | (simp; omega)) ?_
      refine WC.skip ?_
      refine WC.sr ?_
      refine WL.val (V.assign (OV.p rfl)) rfl ?_
      refine WL.nil ?_
      refine WC.block ?_
      refine WC.loop (σ := Nat × Stw) (fun s => [(1, .slice A i cap), (2, .int .i64 (tm : Int)), (3, ptr b3 0), (7, ptr bc 0), (9, ptr bs2 0), (10, .int .i64 (n : Int)), (12, .int .i64 (k : Int)), (13, .int .i64 (s.1 : Int))]) (fun s => Ck.on.A bc :: DvA bd2 bc g :: s.2.A bs2 bd2 g :: Cells b3 23 [.int .i64 g.bl, .int .i64 g.pg, .int .i64 g.se, .int .i64 g.sb, .int .i64 g.fl] :: F) (fun s => s.1 ≤ i ∧ s.2.Ok g ∧ s.2.sem = T1.sem) (fun s => i - s.1) (0, T1) ⟨Nat.zero_le _, hT1, rfl⟩ (.cons rfl (.cons rfl (.cons rfl (.cons rfl (.cons rfl (.cons rfl (.cons rfl (.cons rfl (.nil _))))))))) (fun w h => h) ?_
      rintro ⟨j, T2⟩ ⟨hj, hT2, e2⟩
      dsimp only at hj hT2 e2 ⊢
      refine WC.seq ?_
      refine WC.sr ?_
      refine WL.val (V.move (OV.p rfl)) rfl ?_
      refine WL.val (V.move (OV.p rfl)) rfl ?_
      refine WL.val (V.len (t := 66) Tryz.runUnderlying66 (OV.p rfl)) rfl ?_
      refine WL.val (V.lss (OV.p rfl) (OV.p rfl)) rfl ?_
      refine WL.nil ?_
      refine WC.cond rfl (fun hc9 => ?_) (fun hc9 => ?_)
      ·simp only [decide_eq_true_eq, decide_eq_false_iff_not] at hc9
       have hji : j < i := by omega
       have htj : (j : Int).toNat = j := by omega
       have hG : sRead Ck.on.sem T2.sem (j : Int) = (⟨0, datS ss j, 0⟩, T1.sem) := by
         rw [e2]
         obtain ⟨⟨N, h1, h2⟩, _⟩ := hI1.read_some rfl hji (v := datS ss j) (if_pos hji)
         rw [h2, h1 hFo.wrong]
       have hrj : Rd K F (A.map (·.add ((j : Int).toNat * 1))) (.string (ss.getD j ByteArray.empty)) := by rw [htj]; exact Seq.str_rd hs hji
       refine WC.skip ?_
       refine WC.seq ?_
       refine WC.block ?_
       refine WC.sr ?_
       refine WL.val (V.move (OV.p rfl)) rfl ?_
       refine WL.val (V.move (OV.p rfl)) rfl ?_
       refine WL.call (vs := [_, _]) Tryz.call28 ⟨OV.p rfl, OV.p rfl, trivial⟩ (store_Read hCk.on hgk hT2 (j : Int)) rfl ?_
       rintro _ _ ⟨A9, c9, T3, hT3, t3, rfl, rfl⟩
       rw [hG] at t3 ⊢
       dsimp only at t3 ⊢
       have hsG : ∀ {H : List Assn}, Seq K (SlA (.slice A9 (datS ss j).length c9) 5 1 (datS ss j).length (nats .u8 (datS ss j)) :: H) A9 (datS ss j).length 1 (ints .u8 (intsOf (datS ss j))) := fun {H} => by rw [← nats_intsOf]; exact SlA.seq (by rw [nats_length, Nat.mul_one])
       refine WL.val (V.move (OV.p rfl)) rfl ?_
       refine WL.val (V.extract (OV.p rfl) rfl) rfl ?_
       refine WL.val (V.extract (OV.p rfl) rfl) rfl ?_
       refine WL.val (V.extract (OV.p rfl) rfl) rfl ?_
       refine WL.val (V.assign (OV.p rfl)) rfl ?_
       refine WL.val (V.assign (OV.p rfl)) rfl ?_
       refine WL.val (V.assign (OV.p rfl)) rfl ?_
       refine WL.nil ?_
       refine WC.seq ?_
       refine WC.regionQ (by kernel_rfl) (by kernel_rfl) ?_
       refine WQ.val (V.move (OV.p rfl)) rfl ?_
       refine WQ.val (V.neq (OV.p rfl) (OV.p rfl)) rfl ?_
       refine WQ.val (V.move (OV.p rfl)) rfl ?_
       refine WQ.valG (oj := _) rfl rfl rfl GC.f (V.move (OV.p rfl)) rfl ?_
       refine WQ.valG (oj := _) rfl rfl rfl GC.f (V.bytesStr (xs := intsOf (datS ss j)) Tryz.underlying38 Tryz.underlying5 Tryz.underlying9 (OV.g rfl id) (fun _ => hsG)) rfl ?_
       refine WQ.valG (oj := _) rfl rfl rfl GC.f (V.move (OV.p rfl)) rfl ?_
       refine WQ.valG (oj := _) rfl rfl rfl GC.f (V.move (OV.p rfl)) rfl ?_
       refine WQ.valG (oj := _) rfl rfl rfl GC.f (V.idxS st66 (OV.g rfl id) (OV.g rfl id) (fun hc => by omega) (fun hc => by repeat (first | exact hrj | apply Rd.up))) rfl ?_
       refine WQ.valG (oj := _) rfl rfl rfl GC.f (V.load Tryz.isAgg9 (OV.g rfl id) (fun hc => by repeat (first | exact hrj | apply Rd.up))) rfl ?_
       refine WQ.valG (oj := _) rfl rfl rfl GC.f (V.neqS (OV.g rfl id) (OV.g rfl id)) rfl ?_
       refine WQ.val (V.pickOr (OV.p rfl) (OV.g rfl id)) rfl ?_
       refine WQ.val (V.move (OV.p rfl)) rfl ?_
       refine WQ.valG (oj := _) rfl rfl rfl GC.f (V.move (OV.p rfl)) rfl ?_
       refine WQ.valG (oj := _) rfl rfl rfl GC.f (V.neq (OV.g rfl id) (OV.p rfl)) rfl ?_
       refine WQ.val (V.pickOr (OV.p rfl) (OV.g rfl id)) rfl ?_
       refine WQ.nil ?_
       refine WC.condF' rfl ((by rw [datS_str]; simp)) ?_
       refine WC.skip ?_
       refine WC.region ?_
       refine WL.val (V.move (OV.p rfl)) rfl ?_
       refine WL.val (V.addI (OV.p rfl) (OV.p rfl) (fun hc => by first | omega | (simp at hc; omega))) rfl ?_
       refine WL.val (V.assign (OV.p rfl)) rfl ?_
       refine WL.nil ?_
       refine ⟨rfl, ?_⟩
       exact ⟨(j + 1, T3), ⟨hji, hT3, t3⟩, (by show i - (j + 1) < i - j; omega), .cons rfl (.cons rfl (.cons rfl (.cons rfl (.cons rfl (.cons rfl (.cons rfl (.cons (look_eq rfl (by simp)) (.nil _)))))))), fun w h => h.tail⟩
      ·simp only [decide_eq_true_eq, decide_eq_false_iff_not] at hc9
       refine WC.exit ?_
       refine WC.region ?_
       refine WL.val (V.move (OV.p rfl)) rfl ?_
       refine WL.val (V.addI (OV.p rfl) (OV.p rfl) (fun hc => by first | omega | (simp at hc; omega))) rfl ?_
       refine WL.val (V.assign (OV.p rfl)) rfl ?_
       refine WL.nil ?_
       refine ⟨rfl, ?_⟩
       refine ⟨(k + 1, Ck.on, T2, bs2, bd2), ⟨by show k + 1 ≤ 2; omega, hCk.on, hgk, hT2, ?_⟩, (by show 2 - (k + 1) < 2 - k; omega), .cons rfl (.cons rfl (.cons rfl (.cons rfl (.cons rfl (.cons rfl (.cons (look_eq rfl (by simp)) (.nil _))))))), fun w h => h⟩
       dsimp only
       rw [e2, if_neg (by omega)]
       exact hFo
     ·simp only [decide_eq_true_eq, decide_eq_false_iff_not] at hc7
      refine WC.exit ?_
      refine WC.region ?_
      refine WL.val (V.move (OV.p rfl)) rfl ?_
      refine WL.val (V.addI (OV.p rfl) (OV.p rfl) (fun hc => by first | omega | (simp at hc; omega))) rfl ?_
      refine WL.val (V.assign (OV.p rfl)) rfl ?_
      refine WL.nil ?_
      refine ⟨rfl, ?_⟩
      refine ⟨(n + 1, Ck, Tk, bsk, bdk), ⟨hnt, hCk, hgk, hTk, mapS ss i, mapS_past, ?_⟩, (by show tm - (n + 1) < tm - n; omega), .cons rfl (.cons rfl (.cons rfl (.cons rfl (.cons rfl (.cons (look_eq rfl (by simp)) (.nil _)))))), fun w h => h⟩
      rw [if_neg (by omega)] at hFk
      dsimp only
      rw [show 1 + 231 * (((n + 1 : Nat)) : Int) = 1 + 231 * (n : Int) + 231 by omega]
      exact hFk
   ·simp only [decide_eq_true_eq, decide_eq_false_iff_not] at hc3
    refine WC.exit ?_
    refine WC.sr ?_
    refine WL.call (vs := []) Tryz.call30 trivial (law11_awake _ _) rfl ?_
    rintro _ H0 ⟨rfl, h0⟩
    subst H0
    refine WL.val (V.assign (OV.p rfl)) rfl ?_
    refine WL.nil ?_
    refine WC.ret ?_
    exact BodyQ.ret (H' := F) (Res.tmp rfl rfl) (fun w h => h.drop 4) ⟨rfl, rfl⟩
end Go.Proofs.YtohkefolnmcjnaaGreat
