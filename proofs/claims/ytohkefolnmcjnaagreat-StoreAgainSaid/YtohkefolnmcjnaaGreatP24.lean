import Derived.Test.YtohkefolnmcjnaaGreatP23
/- store: Open, Lebs, Cap, ready, told, Has, full. -/
namespace Go.Proofs.YtohkefolnmcjnaaGreat
open Go.Sl Go.RowKit
set_option linter.unusedVariables false
set_option linter.unusedSimpArgs false
set_option maxRecDepth 20000

/-! ### A store, plainly -/
structure St where
  stands : List Int
  stale : List (List Int)
  (next at_ : Int)
  dead : Bool
def openF (S : Chip) (lebs : Nat) : St := ⟨pickF lebs S.scanF, staleF lebs S.scanF, nextF S.scanF, 0, false⟩
namespace St
def ready (T : St) (leb : Int) : Int := if T.dead then 70 else if leb < 0 ∨ (T.stands.length : Int) ≤ leb then 1 else 0
def told (T : St) (e : Int) : St := { T with dead := T.dead || decide (e = 70) }
def at' (T : St) (leb : Int) : Int := T.stands.getD leb.toNat 0
end St
/-! ### In memory -/
structure Stw where
  stands : List Int
  sA : Option Addr
  sc : Nat
  b8 : Nat
  irs : List IRow
  (next at_ : Int)
  dead : Bool
namespace Stw
def sem (T : Stw) : St := ⟨T.stands, T.irs.map IRow.l, T.next, T.at_, T.dead⟩
abbrev cells (T : Stw) (bd : Nat) (g : Geo) : List Value := [ptr bd 0, .int .i64 g.bl, .int .i64 g.pg, .int .i64 g.se, .int .i64 g.sb, .int .i64 g.fl, .slice T.sA T.stands.length T.sc, .slice (some ⟨T.b8, 0, none⟩) T.irs.length T.irs.length, .int .i64 T.next, .int .i64 T.at_, .bool T.dead]
abbrev sl (T : Stw) : Assn := SlA (.slice T.sA T.stands.length T.sc) 3 1 T.stands.length (ints .i64 T.stands)
abbrev parts (bs bd : Nat) (g : Geo) (T : Stw) : List Assn := [Cells bs 126 (T.cells bd g), T.sl, Cells T.b8 42 (T.irs.map IRow.v), AllA (T.irs.map IRow.row)]
def A (bs bd : Nat) (g : Geo) (T : Stw) : Assn := AllA (parts bs bd g T)
structure Ok (g : Geo) (T : Stw) : Prop where
  len : T.irs.length = T.stands.length
  lebs : 1 ≤ T.stands.length ∧ T.stands.length ≤ 64
  next : 1 ≤ T.next ∧ T.next ≤ 1000000001
  at_ : 0 ≤ T.at_ ∧ T.at_ < g.bl
  std : ∀ b ∈ T.stands, -1 ≤ b ∧ b < g.bl
end Stw
theorem Seq.inAll {K : World} {l H : List Assn} {A : Assn} {B : Option Addr} {m s : Nat} {vs : List Value} (hA : A ∈ l) (h : Seq K [A] B m s vs) : Seq K (AllA l :: H) B m s vs := ⟨h.len, fun i v hi => Rd.inAll hA (h.rd i v hi)⟩
section
variable {bs bd bc : Nat} {g : Geo} {T : Stw} {C : Cw} {K : World} {F : List Assn}
theorem Stw.rds : Rds K (Stw.A bs bd g T :: F) bs 0 (T.cells bd g) := fun i v hi => by
  show Rd K (AllA (Stw.parts bs bd g T) :: F) _ v
  refine Rd.inAll (A := Cells bs 126 (T.cells bd g)) (.head _) (Rd.here ?_)
  rw [Nat.zero_add]; exact hi
theorem Stw.rdg : Rds K (Stw.A bs bd g T :: F) bs 1 [.int .i64 g.bl, .int .i64 g.pg, .int .i64 g.se, .int .i64 g.sb, .int .i64 g.fl] := fun i v hi => by
  have key : ∀ k v, (T.cells bd g)[k]? = some v → Rd K (Stw.A bs bd g T :: F) (some ⟨bs, k, none⟩) v := fun k v hk => by
    have := Stw.rds (K := K) (F := F) (bs := bs) (bd := bd) (g := g) (T := T) k v hk
    rwa [Nat.zero_add] at this
  match i, hi with
  | 0, hi => exact key 1 v hi
  | 1, hi => exact key 2 v hi
  | 2, hi => exact key 3 v hi
  | 3, hi => exact key 4 v hi
  | 4, hi => exact key 5 v hi
theorem Stw.seqS : Seq K (Stw.A bs bd g T :: F) T.sA T.stands.length 1 (ints .i64 T.stands) :=
  Seq.inAll (A := T.sl) (l := Stw.parts bs bd g T) (.tail _ (.head _)) (SlA.seq (by rw [ints_length, Nat.mul_one]))
theorem Stw.rdS {leb : Int} (h : 0 ≤ leb ∧ leb < T.stands.length) : Rd K (Stw.A bs bd g T :: F) (T.sA.map (·.add (leb.toNat * 1))) (.int .i64 (T.sem.at' leb)) := Seq.int_rd Stw.seqS h
theorem Does.openS {f : FuncId} {args : Array Value} {post : Value → List Assn → Prop} (h : Does Tryz.prog f args K (Stw.parts bs bd g T ++ F) post) : Does Tryz.prog f args K (Stw.A bs bd g T :: F) post := h.sat fun w hw => hw.unall
theorem pickF_bd {lebs : Nat} {fs : List Fd} {B : Int} (h : ∀ x ∈ fs, 0 ≤ x.block ∧ x.block < B) (hB : 0 < B) : ∀ b ∈ pickF lebs fs, -1 ≤ b ∧ b < B := fun b hb => by
  unfold pickF at hb
  obtain ⟨l, hl, rfl⟩ := List.mem_map.1 hb
  unfold rowsF at hl
  obtain ⟨leb, _, rfl⟩ := List.mem_map.1 hl
  unfold lastB
  cases hx : (isort (ltOf cmpN) (fs.filter (isOf leb))).getLast? with
  | none => exact ⟨by decide, by dsimp only; omega⟩
  | some x =>
    have h1 := mem_isort.1 (List.mem_of_getLast? hx)
    have := h x (List.mem_filter.1 h1).1
    exact ⟨by dsimp only; omega, this.2⟩
theorem scanB_facts {S : Chip} {b : Int} {x : Fd} (hg : S.g.mays) (h : S.scanB b = some x) : x.block = b ∧ x.hd.may S.g = true := by
  unfold Chip.scanB at h
  split at h
  · cases h
  · split at h
    · cases h
    · rename_i hp
      injection h with h
      subst h
      exact ⟨rfl, (parse_len hg hp).2.1⟩
theorem scanF_facts {S : Chip} (hg : S.g.mays) : ∀ x ∈ S.scanF, (0 ≤ x.block ∧ x.block < S.g.bl) ∧ x.hd.may S.g = true := fun x hx => by
  unfold Chip.scanF at hx
  obtain ⟨b, hb, hs⟩ := List.mem_filterMap.1 hx
  obtain ⟨h1, h2⟩ := scanB_facts hg hs
  have h3 := Chip.goodTo_mem S _ b hb
  unfold Geo.mays at hg
  exact ⟨by rw [h1]; omega, h2⟩
theorem Hd.num_bd {g : Geo} {h : Hd} (hm : h.may g = true) : 1 ≤ h.num ∧ h.num ≤ 1000000000 := by
  unfold Hd.may at hm
  simp only [Bool.and_eq_true, decide_eq_true_eq] at hm
  exact ⟨hm.1.2, hm.2⟩
theorem mxTo_mem {c : Fd → Fd → Int} {fs : List Fd} (h0 : 0 < fs.length) : ∀ k, k < fs.length → mxTo c fs k ∈ fs
  | 0, _ => by show fs.getD 0 fd0 ∈ fs; simp only [List.getD, List.getElem?_eq_getElem h0]; exact List.getElem_mem _
  | k + 1, hk => by
    rw [mxTo]
    split
    · simp only [List.getD, List.getElem?_eq_getElem hk]; exact List.getElem_mem _
    · exact mxTo_mem h0 k (by omega)
theorem nextF_bd {fs : List Fd} (h : ∀ x ∈ fs, 1 ≤ x.hd.num ∧ x.hd.num ≤ 1000000000) : 1 ≤ nextF fs ∧ nextF fs ≤ 1000000001 := by
  unfold nextF
  split
  · omega
  · have := h _ (mxTo_mem (c := cmpM) (by omega) (fs.length - 1) (by omega))
    omega
theorem store_Open (hC : C.Ok) (hg : C.g = g) {lebs : Nat} (hl : 1 ≤ lebs ∧ lebs ≤ 64) (h19 : g.bl ≤ 19) (he : C.sem.scanE = 0) : Does Tryz.prog 29 #[ptr bd 0, .int .i64 (lebs : Int)] K (C.A bc :: DvA bd bc g :: F)
    (fun v H' => ∃ bs : Nat, ∃ T : Stw, T.Ok g ∧ T.sem = openF C.sem lebs ∧ v = .tuple #[ptr bs 0, .int .i64 0] ∧ H' = C.A bc :: DvA bd bc g :: T.A bs bd g :: F) := by
  have hgm : g.mays := by rw [← hg]; exact hC.mays
  have hgb := hgm
  unfold Geo.mays at hgb
  have hsf := scanF_facts (S := C.sem) hC.mays
  have hfl : C.sem.scanF.length ≤ 19 := by
    have h1 := Chip.goodTo_length C.sem C.sem.g.bl.toNat
    have h2 : C.sem.g.bl.toNat ≤ 19 := by rw [show C.sem.g = C.g from rfl, hg]; omega
    unfold Chip.scanF
    refine Nat.le_trans (List.length_filterMap_le _ _) ?_
    unfold Chip.good; omega
  obtain ⟨fs, hfs⟩ : ∃ fs, fs = C.sem.scanF := ⟨_, rfl⟩
  have hnx := nextF_bd (fs := fs) (fun x hx => Hd.num_bd (hsf x (by rw [← hfs]; exact hx)).2)
  refine Does.enter Tryz.func29 rfl Tryz.ntmps29 rfl ?_
  simp only [env0, Nat.reduceAdd]
  refine WC.sr ?_
  refine WL.val (V.assign (OV.p rfl)) rfl ?_
  refine WL.val (V.assign (OV.p rfl)) rfl ?_
  refine WL.nil ?_
  refine WC.seq ?_
  refine WC.sr ?_
  refine WL.val (V.move (OV.p rfl)) rfl ?_
  refine WL.val (V.eqlP Tryz.underlying31 (OV.p rfl) (OV.p rfl)) rfl ?_
  refine WL.nil ?_
  refine WC.condF' rfl (by first | rfl | (simp; done) | (simp; omega)) ?_
  refine WC.skip ?_
  refine WC.seq ?_
  refine WC.sr ?_
  refine WL.val (V.move (OV.p rfl)) rfl ?_
  refine WL.val (V.lss (OV.p rfl) (OV.p rfl)) rfl ?_
  refine WL.val (V.move (OV.p rfl)) rfl ?_
  refine WL.valG (oj := _) rfl rfl rfl GC.f (V.move (OV.p rfl)) rfl ?_
  refine WL.valG (oj := _) rfl rfl rfl GC.f (V.gtr (OV.g rfl id) (OV.p rfl)) rfl ?_
  refine WL.val (V.pickOr (OV.p rfl) (OV.g rfl id)) rfl ?_
  refine WL.nil ?_
  refine WC.condF' rfl ((by simp; omega)) ?_
  refine WC.skip ?_
  refine WC.sr ?_
  refine WL.val (V.move (OV.p rfl)) rfl ?_
  refine WL.call (vs := [_]) Tryz.call92 ⟨OV.p rfl, trivial⟩ (attach_Scan hC hg h19 he) rfl ?_
  rintro _ _ ⟨Af, cf, rfl, rfl⟩
  rw [← hfs] at hfl hsf ⊢
  refine WL.val (V.move (OV.p rfl)) rfl ?_
  refine WL.val (V.extract (OV.p rfl) rfl) rfl ?_
  refine WL.val (V.extract (OV.p rfl) rfl) rfl ?_
  refine WL.val (V.assign (OV.p rfl)) rfl ?_
  refine WL.val (V.assign (OV.p rfl)) rfl ?_
  refine WL.nil ?_
  refine WC.seq ?_
  refine WC.sr ?_
  refine WL.val (V.move (OV.p rfl)) rfl ?_
  refine WL.val (V.neq (OV.p rfl) (OV.p rfl)) rfl ?_
  refine WL.nil ?_
  refine WC.condF' rfl (by first | rfl | (simp; done) | (simp; omega)) ?_
  refine WC.skip ?_
  refine WC.sr ?_
  refine WL.val (V.move (OV.p rfl)) rfl ?_
  refine WL.val (V.move (OV.p rfl)) rfl ?_
  refine WL.call (vs := [_]) Tryz.call20 ⟨OV.p rfl, trivial⟩ (drive_Geometry) rfl ?_
  rintro _ H0 ⟨rfl, h0⟩
  subst H0
  refine WL.val (V.build (vs := [(0, _), (1, _)]) ⟨OV.p rfl, OV.p rfl, trivial⟩ rfl (bld126_0_1 _ _ _ _ _ _)) rfl ?_
  refine WL.box (cs := [_, _, _, _, _, _, _, _, _, _, _]) (OV.p rfl) rfl rfl (fun b29 => ?_)
  refine WL.val (V.assign (OV.p rfl)) rfl ?_
  refine WL.nil ?_
  refine WC.sr ?_
  refine WL.val (V.move (OV.p rfl)) rfl ?_
  refine WL.val (V.move (OV.p rfl)) rfl ?_
  refine WL.val (V.move (OV.p rfl)) rfl ?_
  refine WL.val (V.move (OV.p rfl)) rfl ?_
  refine WL.call (vs := [_, _]) Tryz.call93 ⟨OV.p rfl, OV.p rfl, trivial⟩ (attach_Pick (fs := fs) hl (by repeat (first | exact SlA.seq (flatF_length _) | apply Seq.up)) rfl (by omega) (fun x hx => by have := Hd.num_bd (hsf x hx).2; omega)) rfl ?_
  rintro _ _ ⟨Ap, cp, rfl, rfl⟩
  refine WL.val (V.move (OV.p rfl)) rfl ?_
  refine WL.val (V.extract (OV.p rfl) rfl) rfl ?_
  refine WL.val (V.extract (OV.p rfl) rfl) rfl ?_
  refine WL.val (V.extract (OV.p rfl) rfl) rfl ?_
  refine WL.val (V.nilCheck (OV.p rfl)) rfl ?_
  refine WL.val (V.fieldAddr fo126_2 (OV.p rfl)) rfl ?_
  refine WL.store (cs := [_]) Tryz.sizeOf42 (OV.p rfl) (OV.p rfl) rfl rfl rfl (by repeat (first | exact Upd.here (cs' := [_, _, _, _, _, _, _, _, _, _, _]) rfl rfl | apply Upd.up)) ?_
  refine WL.val (V.nilCheck (OV.p rfl)) rfl ?_
  refine WL.val (V.fieldAddr fo126_4 (OV.p rfl)) rfl ?_
  refine WL.store (cs := [_]) Tryz.sizeOf3 (OV.p rfl) (OV.p rfl) rfl rfl rfl (by repeat (first | exact Upd.here (cs' := [_, _, _, _, _, _, _, _, _, _, _]) rfl rfl | apply Upd.up)) ?_
  refine WL.nil ?_
  refine WC.sr ?_
  refine WL.val (V.move (OV.p rfl)) rfl ?_
  refine WL.val (V.move (OV.p rfl)) rfl ?_
  refine WL.val (V.move (OV.p rfl)) rfl ?_
  refine WL.call (vs := [_, _]) Tryz.call94 ⟨OV.p rfl, OV.p rfl, trivial⟩ (attach_Stale (fs := fs) hl (by repeat (first | exact SlA.seq (flatF_length _) | apply Seq.up)) rfl (by omega)) rfl ?_
  rintro _ _ ⟨b8, irs, hil, his, rfl, rfl⟩
  refine WL.val (V.move (OV.p rfl)) rfl ?_
  refine WL.val (V.extract (OV.p rfl) rfl) rfl ?_
  refine WL.val (V.extract (OV.p rfl) rfl) rfl ?_
  refine WL.val (V.nilCheck (OV.p rfl)) rfl ?_
  refine WL.val (V.fieldAddr fo126_3 (OV.p rfl)) rfl ?_
  refine WL.store (cs := [_]) Tryz.sizeOf124 (OV.p rfl) (OV.p rfl) rfl rfl rfl (by repeat (first | exact Upd.here (cs' := [_, _, _, _, _, _, _, _, _, _, _]) rfl rfl | apply Upd.up)) ?_
  refine WL.nil ?_
  refine WC.sr ?_
  refine WL.val (V.move (OV.p rfl)) rfl ?_
  refine WL.val (V.assign (OV.p rfl)) rfl ?_
  refine WL.val (V.assign (OV.p rfl)) rfl ?_
  refine WL.nil ?_
  refine WC.ret ?_
  obtain ⟨T, hT⟩ : ∃ T : Stw, T = ⟨pickF lebs fs, Ap, cp, b8, irs, nextF fs, 0, false⟩ := ⟨_, rfl⟩
  have hpl := pickF_length lebs fs
  refine BodyQ.ret (H' := C.A bc :: DvA bd bc g :: T.A b29 bd g :: F) (Res.tmp2 rfl rfl rfl) (fun w h => ?_) ⟨b29, T, ?_, ?_, rfl, rfl⟩
  · have h1 := h.sel 7 [3, 2, 0, 1, 4, 5] rfl
    have h2 := Sat.all (l := Stw.parts b29 bd g T) (H := C.A bc :: DvA bd bc g :: F) (K := K) (w := w) (by
      unfold Stw.parts Stw.cells Stw.sl
      rw [hT]
      dsimp only
      rw [hpl, hil]
      exact h1)
    exact h2.sel 3 [1, 2, 0] rfl
  · rw [hT]
    refine ⟨by show irs.length = (pickF lebs fs).length; omega, by show 1 ≤ (pickF lebs fs).length ∧ (pickF lebs fs).length ≤ 64; omega, by show 1 ≤ nextF fs ∧ nextF fs ≤ 1000000001; omega, by show (0 : Int) ≤ 0 ∧ 0 < g.bl; omega, ?_⟩
    exact pickF_bd (fun x hx => by have := (hsf x hx).1; rw [show C.sem.g = C.g from rfl, hg] at this; exact this) (by omega)
  · rw [hT]
    unfold Stw.sem openF
    rw [← hfs, his]
theorem store_Lebs : Tells Tryz.prog 33 #[ptr bs 0] K (T.A bs bd g :: F) (.int .i64 (T.stands.length : Int)) := by
  refine Does.enter Tryz.func33 rfl Tryz.ntmps33 rfl ?_
  simp only [env0, Nat.reduceAdd]
  refine WC.sr ?_
  refine WL.val (V.assign (OV.p rfl)) rfl ?_
  refine WL.nil ?_
  refine WC.seq ?_
  refine WC.sr ?_
  refine WL.val (V.move (OV.p rfl)) rfl ?_
  refine WL.val (V.eqlP Tryz.underlying56 (OV.p rfl) (OV.p rfl)) rfl ?_
  refine WL.nil ?_
  refine WC.condF' rfl (by first | rfl | (simp; done) | (simp; omega)) ?_
  refine WC.skip ?_
  refine WC.sr ?_
  refine WL.val (V.move (OV.p rfl)) rfl ?_
  refine WL.val (V.nilCheck (OV.p rfl)) rfl ?_
  refine WL.val (V.fieldAddr fo126_2 (OV.p rfl)) rfl ?_
  refine WL.val (V.load Tryz.isAgg42 (OV.p rfl) (fun _ => Stw.rds 6 _ rfl)) rfl ?_
  refine WL.val (V.len (t := 42) Tryz.runUnderlying42 (OV.p rfl)) rfl ?_
  refine WL.val (V.assign (OV.p rfl)) rfl ?_
  refine WL.nil ?_
  refine WC.ret ?_
  exact BodyQ.ret (H' := T.A bs bd g :: F) (Res.tmp rfl rfl) (fun w h => h) ⟨rfl, rfl⟩
theorem store_Cap (hg : g.mays) : Tells Tryz.prog 34 #[ptr bs 0] K (T.A bs bd g :: F) (.int .i64 g.cap) := by
  refine Does.enter Tryz.func34 rfl Tryz.ntmps34 rfl ?_
  simp only [env0, Nat.reduceAdd]
  refine WC.sr ?_
  refine WL.val (V.assign (OV.p rfl)) rfl ?_
  refine WL.nil ?_
  refine WC.seq ?_
  refine WC.sr ?_
  refine WL.val (V.move (OV.p rfl)) rfl ?_
  refine WL.val (V.eqlP Tryz.underlying56 (OV.p rfl) (OV.p rfl)) rfl ?_
  refine WL.nil ?_
  refine WC.condF' rfl (by first | rfl | (simp; done) | (simp; omega)) ?_
  refine WC.skip ?_
  refine WC.sr ?_
  refine WL.val (V.move (OV.p rfl)) rfl ?_
  refine WL.val (V.nilCheck (OV.p rfl)) rfl ?_
  refine WL.val (V.fieldAddr fo126_1 (OV.p rfl)) rfl ?_
  refine WL.val (V.loadA (vs := [.int .i64 g.bl, .int .i64 g.pg, .int .i64 g.se, .int .i64 g.sb, .int .i64 g.fl]) ⟨Tryz.isAgg23, Tryz.sizeOf23⟩ (OV.p rfl) rfl (fun _ => Stw.rdg)) rfl ?_
  refine WL.call (vs := [_]) Tryz.call100 ⟨OV.p rfl, trivial⟩ (head_Cap hg) rfl ?_
  rintro _ H0 ⟨rfl, h0⟩
  subst H0
  refine WL.val (V.move (OV.p rfl)) rfl ?_
  refine WL.val (V.extract (OV.p rfl) rfl) rfl ?_
  refine WL.val (V.extract (OV.p rfl) rfl) rfl ?_
  refine WL.val (V.assign (OV.p rfl)) rfl ?_
  refine WL.val (V.assign (OV.p rfl)) rfl ?_
  refine WL.nil ?_
  refine WC.sr ?_
  refine WL.val (V.move (OV.p rfl)) rfl ?_
  refine WL.val (V.assign (OV.p rfl)) rfl ?_
  refine WL.nil ?_
  refine WC.ret ?_
  exact BodyQ.ret (H' := T.A bs bd g :: F) (Res.tmp rfl rfl) (fun w h => h) ⟨rfl, rfl⟩
theorem store_ready (leb : Int) : Tells Tryz.prog 88 #[ptr bs 0, .int .i64 leb] K (T.A bs bd g :: F) (.int .i64 (T.sem.ready leb)) := by
  obtain ⟨X, hX⟩ : ∃ X, X = T.sem.ready leb := ⟨_, rfl⟩
  rw [← hX]
  unfold St.ready Stw.sem at hX
  dsimp only at hX
  refine Does.enter Tryz.func88 rfl Tryz.ntmps88 rfl ?_
  simp only [env0, Nat.reduceAdd]
  refine WC.sr ?_
  refine WL.val (V.assign (OV.p rfl)) rfl ?_
  refine WL.nil ?_
  refine WC.seq ?_
  refine WC.block ?_
  refine WC.sr ?_
  refine WL.val (V.move (OV.p rfl)) rfl ?_
  refine WL.val (V.eqlP Tryz.underlying56 (OV.p rfl) (OV.p rfl)) rfl ?_
  refine WL.val (V.assign (OV.p rfl)) rfl ?_
  refine WL.nil ?_
  refine WC.condF' rfl (by first | rfl | (simp; done) | (simp; omega)) ?_
  refine WC.sr ?_
  refine WL.val (V.move (OV.p rfl)) rfl ?_
  refine WL.val (V.nilCheck (OV.p rfl)) rfl ?_
  refine WL.val (V.fieldAddr fo126_6 (OV.p rfl)) rfl ?_
  refine WL.val (V.load Tryz.isAgg4 (OV.p rfl) (fun _ => Stw.rds 10 _ rfl)) rfl ?_
  refine WL.val (V.assign (OV.p rfl)) rfl ?_
  refine WL.nil ?_
  refine WC.cond rfl (fun hc1 => ?_) (fun hc1 => ?_)
  ·skip
   have h1 := hc1
   rw [h1] at hX
   refine WC.sr ?_
   refine WL.val (V.assign (OV.p rfl)) rfl ?_
   refine WL.nil ?_
   refine WC.ret ?_
   exact BodyQ.ret (H' := T.A bs bd g :: F) (Res.tmp rfl rfl) (fun w h => h) ⟨by rw [hX]; rfl, rfl⟩
  ·skip
   have h1 := hc1
   rw [h1] at hX
   rw [if_neg Bool.false_ne_true] at hX
   refine WC.sr ?_
   refine WL.val (V.move (OV.p rfl)) rfl ?_
   refine WL.val (V.lss (OV.p rfl) (OV.p rfl)) rfl ?_
   refine WL.val (V.move (OV.p rfl)) rfl ?_
   refine WL.valG (oj := _) rfl rfl rfl GC.f (V.move (OV.p rfl)) rfl ?_
   refine WL.valG (oj := _) rfl rfl rfl GC.f (V.move (OV.p rfl)) rfl ?_
   refine WL.valG (oj := _) rfl rfl rfl GC.f (V.nilCheck (OV.g rfl id)) rfl ?_
   refine WL.valG (oj := _) rfl rfl rfl GC.f (V.fieldAddr fo126_2 (OV.g rfl id)) rfl ?_
   refine WL.valG (oj := _) rfl rfl rfl GC.f (V.load Tryz.isAgg42 (OV.g rfl id) (fun _ => Stw.rds 6 _ rfl)) rfl ?_
   refine WL.valG (oj := _) rfl rfl rfl GC.f (V.len (t := 42) Tryz.runUnderlying42 (OV.g rfl id)) rfl ?_
   refine WL.valG (oj := _) rfl rfl rfl GC.f (V.geq (OV.g rfl id) (OV.g rfl id)) rfl ?_
   refine WL.val (V.pickOr (OV.p rfl) (OV.g rfl id)) rfl ?_
   refine WL.val (V.assign (OV.p rfl)) rfl ?_
   refine WL.nil ?_
   refine WC.cond rfl (fun hc2 => ?_) (fun hc2 => ?_)
   ·simp only [Bool.or_eq_true, Bool.or_eq_false_iff, decide_eq_true_eq, decide_eq_false_iff_not] at hc2
    have h2 := hc2
    rw [if_pos h2] at hX
    refine WC.sr ?_
    refine WL.val (V.assign (OV.p rfl)) rfl ?_
    refine WL.nil ?_
    refine WC.ret ?_
    exact BodyQ.ret (H' := T.A bs bd g :: F) (Res.tmp rfl rfl) (fun w h => h) ⟨by rw [hX], rfl⟩
   ·simp only [Bool.or_eq_true, Bool.or_eq_false_iff, decide_eq_true_eq, decide_eq_false_iff_not] at hc2
    have h2 := hc2
    rw [if_neg (by rintro (h | h); exact h2.1 h; exact h2.2 h)] at hX
    refine WC.skip ?_
    refine WC.sr ?_
    refine WL.val (V.assign (OV.p rfl)) rfl ?_
    refine WL.nil ?_
    refine WC.ret ?_
    exact BodyQ.ret (H' := T.A bs bd g :: F) (Res.tmp rfl rfl) (fun w h => h) ⟨by rw [hX], rfl⟩
def Stw.told (T : Stw) (e : Int) : Stw := { T with dead := T.dead || decide (e = 70) }
theorem Stw.Ok.told {T : Stw} (h : T.Ok g) (e : Int) : (T.told e).Ok g := ⟨h.len, h.lebs, h.next, h.at_, h.std⟩
theorem store_told (e : Int) : Does Tryz.prog 89 #[ptr bs 0, .int .i64 e] K (T.A bs bd g :: F) (fun v H' => v = .int .i64 e ∧ H' = (T.told e).A bs bd g :: F) := by
  refine Does.openS ?_
  dsimp only [Stw.parts, List.cons_append, List.nil_append]
  refine Does.enter Tryz.func89 rfl Tryz.ntmps89 rfl ?_
  simp only [env0, Nat.reduceAdd]
  refine WC.sr ?_
  refine WL.val (V.assign (OV.p rfl)) rfl ?_
  refine WL.nil ?_
  refine WC.sr ?_
  refine WL.val (V.move (OV.p rfl)) rfl ?_
  refine WL.val (V.move (OV.p rfl)) rfl ?_
  refine WL.val (V.nilCheck (OV.p rfl)) rfl ?_
  refine WL.val (V.fieldAddr fo126_6 (OV.p rfl)) rfl ?_
  refine WL.val (V.load Tryz.isAgg4 (OV.p rfl) (fun _ => by repeat (first | exact Rd.here rfl | apply Rd.up))) rfl ?_
  refine WL.val (V.move (OV.p rfl)) rfl ?_
  refine WL.valG (oj := _) rfl rfl rfl GC.f (V.move (OV.p rfl)) rfl ?_
  refine WL.valG (oj := _) rfl rfl rfl GC.f (V.eql (OV.g rfl id) (OV.p rfl)) rfl ?_
  refine WL.val (V.pickOr (OV.p rfl) (OV.g rfl id)) rfl ?_
  refine WL.val (V.nilCheck (OV.p rfl)) rfl ?_
  refine WL.val (V.fieldAddr fo126_6 (OV.p rfl)) rfl ?_
  refine WL.store (cs := [_]) Tryz.sizeOf4 (OV.p rfl) (OV.p rfl) rfl rfl rfl (by repeat (first | exact Upd.here rfl rfl | apply Upd.up)) ?_
  refine WL.nil ?_
  refine WC.sr ?_
  refine WL.val (V.move (OV.p rfl)) rfl ?_
  refine WL.val (V.assign (OV.p rfl)) rfl ?_
  refine WL.nil ?_
  refine WC.ret ?_
  exact BodyQ.ret (H' := (T.told e).A bs bd g :: F) (Res.tmp rfl rfl) (fun w h => Sat.all (l := Stw.parts bs bd g (T.told e)) h) ⟨rfl, rfl⟩
theorem store_full (hC : C.Ok) (hg : C.g = g) : Tells Tryz.prog 99 #[ptr bs 0] K (C.A bc :: DvA bd bc g :: T.A bs bd g :: F) (.int .i64 (if C.sem.scanE = 70 then 70 else 6)) := by
  refine Does.enter Tryz.func99 rfl Tryz.ntmps99 rfl ?_
  simp only [env0, Nat.reduceAdd]
  refine WC.sr ?_
  refine WL.val (V.assign (OV.p rfl)) rfl ?_
  refine WL.nil ?_
  refine WC.seq ?_
  refine WC.sr ?_
  refine WL.val (V.move (OV.p rfl)) rfl ?_
  refine WL.val (V.nilCheck (OV.p rfl)) rfl ?_
  refine WL.val (V.fieldAddr fo126_0 (OV.p rfl)) rfl ?_
  refine WL.val (V.load Tryz.isAgg31 (OV.p rfl) (fun _ => Rd.up (Rd.up (Stw.rds 0 _ rfl)))) rfl ?_
  refine WL.call (vs := [_, _, _]) Tryz.call27 ⟨OV.p rfl, OV.p rfl, OV.p rfl, trivial⟩ (drive_WholeG hC hg 0 0 (by decide)) rfl ?_
  rintro _ H0 ⟨rfl, h0⟩
  subst H0
  refine WL.val (V.move (OV.p rfl)) rfl ?_
  refine WL.val (V.extract (OV.p rfl) rfl) rfl ?_
  refine WL.val (V.extract (OV.p rfl) rfl) rfl ?_
  refine WL.val (V.assign (OV.p rfl)) rfl ?_
  refine WL.val (V.assign (OV.p rfl)) rfl ?_
  refine WL.nil ?_
  refine WC.sr ?_
  refine WL.val (V.move (OV.p rfl)) rfl ?_
  refine WL.val (V.eql (OV.p rfl) (OV.p rfl)) rfl ?_
  refine WL.nil ?_
  refine WC.cond rfl (fun hc0 => ?_) (fun hc0 => ?_)
  ·simp only [decide_eq_true_eq, decide_eq_false_iff_not] at hc0
   have h0 := hc0
   refine WC.sr ?_
   refine WL.val (V.move (OV.p rfl)) rfl ?_
   refine WL.val (V.assign (OV.p rfl)) rfl ?_
   refine WL.nil ?_
   refine WC.ret ?_
   exact BodyQ.ret (H' := C.A bc :: DvA bd bc g :: T.A bs bd g :: F) (Res.tmp rfl rfl) (fun w h => h) ⟨by rw [if_pos (show C.sem.scanE = 70 from h0)]; exact congrArg _ h0, rfl⟩
  ·simp only [decide_eq_true_eq, decide_eq_false_iff_not] at hc0
   have h0 := hc0
   refine WC.skip ?_
   refine WC.sr ?_
   refine WL.val (V.assign (OV.p rfl)) rfl ?_
   refine WL.nil ?_
   refine WC.ret ?_
   exact BodyQ.ret (H' := C.A bc :: DvA bd bc g :: T.A bs bd g :: F) (Res.tmp rfl rfl) (fun w h => h) ⟨by rw [if_neg (show ¬ C.sem.scanE = 70 from h0)], rfl⟩
end
end Go.Proofs.YtohkefolnmcjnaaGreat
/- store: Read. -/
namespace Go.Proofs.YtohkefolnmcjnaaGreat
open Go.Sl Go.RowKit
set_option linter.unusedVariables false
set_option linter.unusedSimpArgs false
set_option maxRecDepth 20000

theorem decF_len {t : Nat} {d m : List Nat} {p : LL} {k : Nat} (hd : decF t d m = some (p, k)) : p.1.length = d.length := by
  unfold decF at hd
  split at hd
  · cases hd
  · split at hd
    · cases hd
    · split at hd
      · cases hd
      · injection hd with hd
        have := (decTo_len t (locC (sums2 t (d, maskM t m))) (locL (sums2 t (d, maskM t m))) (d, maskM t m) (13 * t + 8 * d.length)).1
        rw [hd] at this
        exact this
theorem readF_full {t S B : Nat} {raw : List Nat} (hr : raw.length = rawN S B t) (he : (readF t S B raw).err = 0) : (readF t S B raw).d.length = S * B := by
  unfold readF at he ⊢
  split at he
  · rename_i h; exact absurd he h
  · rename_i h
    rw [if_neg h]
    have key : ∀ (l : List (Option (LL × Nat))) (d : List Nat) (n : Nat), (∀ o ∈ l, ∀ p k, o = some (p, k) → p.1.length = B) → (readTo l d n).err = 0 → (readTo l d n).d.length = d.length + l.length * B := fun l => by
      induction l with
      | nil => intro d n _ _; show d.length = _; simp
      | cons o l ih =>
        intro d n h he
        cases o with
        | none => exact absurd he (by show ¬ (50 = 0); decide)
        | some r =>
          obtain ⟨p, k⟩ := r
          rw [readTo] at he ⊢
          have h1 := ih (d ++ p.1) (max n k) (fun o ho => h o (.tail _ ho)) he
          have h2 := h _ (.head _) p k rfl
          rw [List.length_append] at h1
          rw [List.length_cons, Nat.succ_mul]
          omega
    have := key ((List.range S).map (uSec t B (B + moreLen t) raw)) [] 0 (fun o ho p k hp => by
      obtain ⟨j, hj, rfl⟩ := List.mem_map.1 ho
      have hj := List.mem_range.1 hj
      unfold uSec at hp
      rw [decF_len hp]
      unfold secD
      have h3 : (j + 1) * (B + moreLen t) ≤ S * (B + moreLen t) := Nat.mul_le_mul_right _ hj
      rw [Nat.succ_mul] at h3
      rw [List.length_take, List.length_drop, hr]
      unfold rawN
      omega) he
    rw [List.length_map, List.length_range] at this
    simpa using this
theorem Cw.Ok.dRead_full {C : Cw} (hC : C.Ok) {b p : Int} (he : (C.sem.dRead b p).err = 0) : (C.sem.dRead b p).d.length = C.g.room.toNat := by
  have hg := hC.mays
  unfold Chip.dRead at he ⊢
  split at he
  · rename_i h; exact absurd he h
  · rename_i h
    rw [if_neg h]
    have h0 : (readF C.sem.g.fl.toNat C.sem.g.se.toNat C.sem.g.sb.toNat (C.sem.rawN b p)).err = 0 := by
      have he' : ((readF C.sem.g.fl.toNat C.sem.g.se.toNat C.sem.g.sb.toNat (C.sem.rawN b p)).err : Int) = 0 := he
      omega
    have h1 := readF_full (by rw [(hC.rawN_facts b p).2.2, Geo.raw_nat hg, Int.toNat_natCast]; rfl) h0
    show (readF _ _ _ _).d.length = _
    rw [h1, Geo.room_nat hg, Int.toNat_natCast]; rfl
theorem Geo.pages_fit {g : Geo} (hg : g.mays) {n : Int} (h : g.fits n = true) : 0 ≤ g.pagesOf n ∧ g.pagesOf n ≤ g.pg - 1 ∧ n ≤ g.pagesOf n * g.room ∧ (n ≤ 0 → g.pagesOf n = 0) := by
  have hr := Geo.room_bd hg
  have hgb := hg
  unfold Geo.mays at hgb
  unfold Geo.fits at h
  simp only [Bool.and_eq_true, decide_eq_true_eq] at h
  have h1 := Int.emod_add_mul_ediv (n + g.room - 1) g.room
  have h2 := Int.emod_lt_of_pos (n + g.room - 1) (show 0 < g.room by omega)
  have h3 := Int.emod_nonneg (n + g.room - 1) (show g.room ≠ 0 by omega)
  have hq : g.pagesOf n = (n + g.room - 1) / g.room := rfl
  rw [← hq, Int.mul_comm] at h1
  have h4 : 0 ≤ g.pagesOf n := by rw [hq]; exact Int.ediv_nonneg (by omega) (by omega)
  refine ⟨h4, ?_, by omega, fun hn => ?_⟩
  · have h5 : g.pagesOf n * g.room ≤ g.cap + g.room - 1 := by omega
    have h6 : g.cap + g.room = g.pg * g.room := by unfold Geo.cap; rw [Int.sub_mul, Int.one_mul]; omega
    have h7 : g.pagesOf n * g.room < g.pg * g.room := by omega
    have := Int.lt_of_mul_lt_mul_right h7 (by omega)
    omega
  · have : n = 0 := by omega
    rw [hq, this]
    exact Int.ediv_eq_zero_of_lt (by omega) (by omega)
/-! ### Read, plainly -/
def sRdTo (S : Chip) (b : Int) (n0 : Nat) : Nat → Chip.Got
  | 0 => ⟨0, [], n0⟩
  | k + 1 => if (sRdTo S b n0 k).err ≠ 0 then sRdTo S b n0 k
    else if (S.dRead b (1 + (k : Int))).err ≠ 0 then ⟨(S.dRead b (1 + (k : Int))).err, [], 0⟩
    else ⟨0, (sRdTo S b n0 k).d ++ (S.dRead b (1 + (k : Int))).d, max (sRdTo S b n0 k).n (S.dRead b (1 + (k : Int))).n⟩
theorem sRdTo_err {S : Chip} {b : Int} {n0 k : Nat} (h : (sRdTo S b n0 k).err ≠ 0) : ∀ m, sRdTo S b n0 (k + m) = sRdTo S b n0 k
  | 0 => rfl
  | m + 1 => by rw [← Nat.add_assoc, sRdTo, sRdTo_err h m, if_pos h]
def sRead (S : Chip) (T : St) (leb : Int) : Chip.Got × St :=
  if T.ready leb ≠ 0 then (⟨T.ready leb, [], 0⟩, T)
  else if T.at' leb < 0 then (⟨5, [], 0⟩, T)
  else if (S.dRead (T.at' leb) 0).err ≠ 0 then (⟨(S.dRead (T.at' leb) 0).err, [], 0⟩, T.told (S.dRead (T.at' leb) 0).err)
  else if parseE S.g (S.dRead (T.at' leb) 0).d ≠ 0 then (⟨parseE S.g (S.dRead (T.at' leb) 0).d, [], 0⟩, T)
  else if (sRdTo S (T.at' leb) (S.dRead (T.at' leb) 0).n (S.g.pagesOf (parseH S.g (S.dRead (T.at' leb) 0).d).len).toNat).err ≠ 0 then
    (⟨(sRdTo S (T.at' leb) (S.dRead (T.at' leb) 0).n (S.g.pagesOf (parseH S.g (S.dRead (T.at' leb) 0).d).len).toNat).err, [], 0⟩, T.told (sRdTo S (T.at' leb) (S.dRead (T.at' leb) 0).n (S.g.pagesOf (parseH S.g (S.dRead (T.at' leb) 0).d).len).toNat).err)
  else (⟨0, (sRdTo S (T.at' leb) (S.dRead (T.at' leb) 0).n (S.g.pagesOf (parseH S.g (S.dRead (T.at' leb) 0).d).len).toNat).d.take (parseH S.g (S.dRead (T.at' leb) 0).d).len.toNat, (sRdTo S (T.at' leb) (S.dRead (T.at' leb) 0).n (S.g.pagesOf (parseH S.g (S.dRead (T.at' leb) 0).d).len).toNat).n⟩, T)
theorem slA_cut {K : World} {F : List Assn} {A : Option Addr} {m n cap E : Nat} {cs : List Value} (hn : n ≤ m) : ∀ w, Sat K w (SlA (.slice A m cap) E 1 m cs :: F) → Sat K w (SlA (.slice A n cap) E 1 n (cs.take n) :: F) := fun w h => by
  cases A with
  | none =>
    obtain ⟨h1, h2, h3⟩ := SlA.nilCs h
    obtain rfl : n = 0 := by omega
    subst h1 h2 h3
    exact h
  | some a =>
    obtain ⟨g, rfl⟩ := SlA.addr h
    obtain ⟨r, ⟨h1, h2, h3, h4⟩, h5⟩ := Sat.slCells h
    have h6 := Sat.toSl (m := n) (cap := cap) (s := 1) h5 h1 (by omega) h4
    rw [Nat.mul_one, List.take_append_of_le_length (by omega)] at h6
    exact h6
theorem parseE_zero {g : Geo} {d : List Nat} (hg : g.mays) (h : parseE g d = 0) : (parseH g d).may g = true ∧ parseF g d = some (parseH g d) := by
  unfold parseE at h
  unfold parseH
  cases hp : parseF g d with
  | none => rw [hp] at h; dsimp only at h; split at h <;> cases h
  | some x => exact ⟨(parse_len hg hp).2.1, rfl⟩
section
variable {bs bd bc : Nat} {g : Geo} {T : Stw} {C : Cw} {K : World} {F : List Assn}
theorem store_Read (hC : C.Ok) (hg : C.g = g) (hT : T.Ok g) (leb : Int) : Does Tryz.prog 28 #[ptr bs 0, .int .i64 leb] K (C.A bc :: DvA bd bc g :: T.A bs bd g :: F)
    (fun v H' => ∃ (A' : Option Addr) (c' : Nat) (T' : Stw), T'.Ok g ∧ T'.sem = (sRead C.sem T.sem leb).2 ∧ v = .tuple #[.slice A' (sRead C.sem T.sem leb).1.d.length c', .int .i64 ((sRead C.sem T.sem leb).1.n : Nat), .int .i64 (sRead C.sem T.sem leb).1.err] ∧
      H' = SlA (.slice A' (sRead C.sem T.sem leb).1.d.length c') 5 1 (sRead C.sem T.sem leb).1.d.length (nats .u8 (sRead C.sem T.sem leb).1.d) :: C.A bc :: DvA bd bc g :: T'.A bs bd g :: F) := by
  have hgm : g.mays := by rw [← hg]; exact hC.mays
  have hgs : C.sem.g = g := hg
  have hrb := Geo.room_bd hgm
  have hgb := hgm
  unfold Geo.mays at hgb
  obtain ⟨X, hX⟩ : ∃ X, X = sRead C.sem T.sem leb := ⟨_, rfl⟩
  rw [← hX]
  unfold sRead at hX
  rw [hgs] at hX
  have hin : T.sem.ready leb = 0 → 0 ≤ leb ∧ leb < T.stands.length := fun h => by
    unfold St.ready Stw.sem at h
    dsimp only at h
    split at h
    · cases h
    · split at h
      · cases h
      · omega
  refine Does.enter Tryz.func28 rfl Tryz.ntmps28 rfl ?_
  simp only [env0, Nat.reduceAdd]
  refine WC.sr ?_
  refine WL.val (V.assign (OV.p rfl)) rfl ?_
  refine WL.val (V.assign (OV.p rfl)) rfl ?_
  refine WL.val (V.assign (OV.p rfl)) rfl ?_
  refine WL.nil ?_
  refine WC.seq ?_
  refine WC.sr ?_
  refine WL.val (V.move (OV.p rfl)) rfl ?_
  refine WL.val (V.move (OV.p rfl)) rfl ?_
  refine WL.sub (Sub.refl _) (fun w h => h.sel 3 [2, 0, 1] rfl) ?_
  refine WL.call (vs := [_, _]) Tryz.call88 ⟨OV.p rfl, OV.p rfl, trivial⟩ (store_ready leb) rfl ?_
  rintro _ _ ⟨rfl, rfl⟩
  refine WL.sub (Sub.refl _) (fun w h => h.sel 3 [1, 2, 0] rfl) ?_
  refine WL.val (V.assign (OV.p rfl)) rfl ?_
  refine WL.nil ?_
  refine WC.sr ?_
  refine WL.val (V.move (OV.p rfl)) rfl ?_
  refine WL.val (V.neq (OV.p rfl) (OV.p rfl)) rfl ?_
  refine WL.nil ?_
  refine WC.cond rfl (fun hc0 => ?_) (fun hc0 => ?_)
  ·simp only [Bool.not_eq_true', Bool.not_eq_false', decide_eq_true_eq, decide_eq_false_iff_not] at hc0
   have h0 := hc0
   rw [if_pos h0] at hX
   refine WC.sr ?_
   refine WL.val (V.move (OV.p rfl)) rfl ?_
   refine WL.val (V.assign (OV.p rfl)) rfl ?_
   refine WL.val (V.assign (OV.p rfl)) rfl ?_
   refine WL.val (V.assign (OV.p rfl)) rfl ?_
   refine WL.nil ?_
   refine WC.ret ?_
   subst hX
   exact BodyQ.ret (H' := SlA (.slice none 0 0) 5 1 0 [] :: C.A bc :: DvA bd bc g :: T.A bs bd g :: F) (Res.tmp3 rfl rfl rfl rfl) (fun w h => Sat.slNil h _ _) ⟨none, 0, T, hT, rfl, rfl, rfl⟩
  ·simp only [Bool.not_eq_true', Bool.not_eq_false', decide_eq_true_eq, decide_eq_false_iff_not] at hc0
   have h0 := hc0
   have hr0 : T.sem.ready leb = 0 := by omega
   rw [if_neg (fun h => h hr0)] at hX
   have hinl := hin hr0
   obtain ⟨b, hb⟩ : ∃ b, b = T.sem.at' leb := ⟨_, rfl⟩
   rw [← hb] at hX
   have hrs : ∀ {X Y : Assn}, Rd K (X :: Y :: T.A bs bd g :: F) (T.sA.map (·.add (leb.toNat * 1))) (.int .i64 b) := fun {X Y} => by rw [hb]; exact Rd.up (Rd.up (Stw.rdS hinl))
   refine WC.skip ?_
   refine WC.sr ?_
   refine WL.val (V.move (OV.p rfl)) rfl ?_
   refine WL.val (V.nilCheck (OV.p rfl)) rfl ?_
   refine WL.val (V.fieldAddr fo126_2 (OV.p rfl)) rfl ?_
   refine WL.val (V.load Tryz.isAgg42 (OV.p rfl) (fun _ => Rd.up (Rd.up (Stw.rds 6 _ rfl)))) rfl ?_
   refine WL.val (V.move (OV.p rfl)) rfl ?_
   refine WL.val (V.idxS st42 (OV.p rfl) (OV.p rfl) (fun _ => hinl) (fun _ => hrs)) rfl ?_
   refine WL.val (V.load Tryz.isAgg3 (OV.p rfl) (fun _ => hrs)) rfl ?_
   refine WL.val (V.assign (OV.p rfl)) rfl ?_
   refine WL.nil ?_
   refine WC.seq ?_
   refine WC.sr ?_
   refine WL.val (V.move (OV.p rfl)) rfl ?_
   refine WL.val (V.lss (OV.p rfl) (OV.p rfl)) rfl ?_
   refine WL.nil ?_
   refine WC.cond rfl (fun hc1 => ?_) (fun hc1 => ?_)
   ·simp only [decide_eq_true_eq, decide_eq_false_iff_not] at hc1
    have h1 := hc1
    rw [if_pos h1] at hX
    refine WC.sr ?_
    refine WL.val (V.assign (OV.p rfl)) rfl ?_
    refine WL.val (V.assign (OV.p rfl)) rfl ?_
    refine WL.val (V.assign (OV.p rfl)) rfl ?_
    refine WL.nil ?_
    refine WC.ret ?_
    subst hX
    exact BodyQ.ret (H' := SlA (.slice none 0 0) 5 1 0 [] :: C.A bc :: DvA bd bc g :: T.A bs bd g :: F) (Res.tmp3 rfl rfl rfl rfl) (fun w h => Sat.slNil h _ _) ⟨none, 0, T, hT, rfl, rfl, rfl⟩
   ·simp only [decide_eq_true_eq, decide_eq_false_iff_not] at hc1
    have h1 := hc1
    rw [if_neg h1] at hX
    refine WC.skip ?_
    refine WC.sr ?_
    refine WL.val (V.move (OV.p rfl)) rfl ?_
    refine WL.val (V.nilCheck (OV.p rfl)) rfl ?_
    refine WL.val (V.fieldAddr fo126_0 (OV.p rfl)) rfl ?_
    refine WL.val (V.load Tryz.isAgg31 (OV.p rfl) (fun _ => Rd.up (Rd.up (Stw.rds 0 _ rfl)))) rfl ?_
    refine WL.val (V.move (OV.p rfl)) rfl ?_
    refine WL.call (vs := [_, _, _]) Tryz.call26 ⟨OV.p rfl, OV.p rfl, OV.p rfl, trivial⟩ (drive_ReadG hC hg b 0) rfl ?_
    rintro _ _ ⟨Ad, cd, rfl, rfl⟩
    obtain ⟨G, hG⟩ : ∃ G, G = C.sem.dRead b 0 := ⟨_, rfl⟩
    have hGf := hC.dRead_facts b 0
    rw [← hG] at hGf hX ⊢
    refine WL.val (V.move (OV.p rfl)) rfl ?_
    refine WL.val (V.extract (OV.p rfl) rfl) rfl ?_
    refine WL.val (V.extract (OV.p rfl) rfl) rfl ?_
    refine WL.val (V.extract (OV.p rfl) rfl) rfl ?_
    refine WL.val (V.assign (OV.p rfl)) rfl ?_
    refine WL.val (V.assign (OV.p rfl)) rfl ?_
    refine WL.val (V.assign (OV.p rfl)) rfl ?_
    refine WL.nil ?_
    refine WC.seq ?_
    refine WC.sr ?_
    refine WL.val (V.move (OV.p rfl)) rfl ?_
    refine WL.val (V.neq (OV.p rfl) (OV.p rfl)) rfl ?_
    refine WL.nil ?_
    refine WC.cond rfl (fun hc2 => ?_) (fun hc2 => ?_)
    ·simp only [Bool.not_eq_true', Bool.not_eq_false', decide_eq_true_eq, decide_eq_false_iff_not] at hc2
     have h2 := hc2
     rw [if_pos h2] at hX
     refine WC.sr ?_
     refine WL.val (V.move (OV.p rfl)) rfl ?_
     refine WL.val (V.move (OV.p rfl)) rfl ?_
     refine WL.sub (Sub.refl _) (fun w h => h.sel 4 [3, 1, 2] rfl) ?_
     refine WL.call (vs := [_, _]) Tryz.call89 ⟨OV.p rfl, OV.p rfl, trivial⟩ (store_told G.err) rfl ?_
     rintro _ _ ⟨rfl, rfl⟩
     refine WL.val (V.assign (OV.p rfl)) rfl ?_
     refine WL.val (V.assign (OV.p rfl)) rfl ?_
     refine WL.val (V.assign (OV.p rfl)) rfl ?_
     refine WL.nil ?_
     refine WC.ret ?_
     subst hX
     exact BodyQ.ret (H' := SlA (.slice none 0 0) 5 1 0 [] :: C.A bc :: DvA bd bc g :: (T.told G.err).A bs bd g :: F) (Res.tmp3 rfl rfl rfl rfl) (fun w h => Sat.slNil (h.sel 3 [1, 2, 0] rfl) _ _) ⟨none, 0, T.told G.err, hT.told _, rfl, rfl, rfl⟩
    ·simp only [Bool.not_eq_true', Bool.not_eq_false', decide_eq_true_eq, decide_eq_false_iff_not] at hc2
     have h2 := hc2
     rw [if_neg (fun h => h (by omega))] at hX
     obtain ⟨pe, hpe⟩ : ∃ pe, pe = parseE g G.d := ⟨_, rfl⟩
     obtain ⟨ph, hph⟩ : ∃ ph, ph = parseH g G.d := ⟨_, rfl⟩
     rw [← hpe, ← hph] at hX
     refine WC.skip ?_
     refine WC.sr ?_
     refine WL.val (V.move (OV.p rfl)) rfl ?_
     refine WL.val (V.nilCheck (OV.p rfl)) rfl ?_
     refine WL.val (V.fieldAddr fo126_1 (OV.p rfl)) rfl ?_
     refine WL.val (V.loadA (vs := [.int .i64 g.bl, .int .i64 g.pg, .int .i64 g.se, .int .i64 g.sb, .int .i64 g.fl]) ⟨Tryz.isAgg23, Tryz.sizeOf23⟩ (OV.p rfl) rfl (fun _ => Rds.up (Rds.up (Rds.up Stw.rdg)))) rfl ?_
     refine WL.val (V.move (OV.p rfl)) rfl ?_
     refine WL.call (vs := [_, _]) Tryz.call90 ⟨OV.p rfl, OV.p rfl, trivial⟩ (Tells.eq (v' := .tuple #[ph.v, .int .i64 pe]) (head_Parse (d := G.d) hgm (SlA.seq (by rw [nats_length, Nat.mul_one])) hGf.1 (by omega)) (by rw [hph, hpe])) rfl ?_
     rintro _ H0 ⟨rfl, h0⟩
     subst H0
     refine WL.val (V.move (OV.p rfl)) rfl ?_
     refine WL.val (V.extract (OV.p rfl) rfl) rfl ?_
     refine WL.val (V.extract (OV.p rfl) rfl) rfl ?_
     refine WL.alloc (cs := [(.int .i64 0), (.int .i64 0), (.int .i64 0)]) Tryz.zeroValue129 rfl rfl (fun b12 => ?_)
     refine WL.store (cs := [_, _, _]) Tryz.sizeOf129 (OV.p rfl) (OV.p rfl) rfl rfl rfl (by repeat (first | exact Upd.here (cs' := [_, _, _]) rfl rfl | apply Upd.up)) ?_
     refine WL.val (V.assign (OV.p rfl)) rfl ?_
     refine WL.nil ?_
     refine WC.seq ?_
     refine WC.sr ?_
     refine WL.val (V.move (OV.p rfl)) rfl ?_
     refine WL.val (V.neq (OV.p rfl) (OV.p rfl)) rfl ?_
     refine WL.nil ?_
     refine WC.cond rfl (fun hc3 => ?_) (fun hc3 => ?_)
     ·simp only [Bool.not_eq_true', Bool.not_eq_false', decide_eq_true_eq, decide_eq_false_iff_not] at hc3
      have h3 := hc3
      rw [if_pos h3] at hX
      refine WC.sr ?_
      refine WL.val (V.move (OV.p rfl)) rfl ?_
      refine WL.val (V.assign (OV.p rfl)) rfl ?_
      refine WL.val (V.assign (OV.p rfl)) rfl ?_
      refine WL.val (V.assign (OV.p rfl)) rfl ?_
      refine WL.nil ?_
      refine WC.ret ?_
      subst hX
      exact BodyQ.ret (H' := SlA (.slice none 0 0) 5 1 0 [] :: C.A bc :: DvA bd bc g :: T.A bs bd g :: F) (Res.tmp3 rfl rfl rfl rfl) (fun w h => Sat.slNil (h.sel 5 [2, 3, 4] rfl) _ _) ⟨none, 0, T, hT, rfl, rfl, rfl⟩
     ·simp only [Bool.not_eq_true', Bool.not_eq_false', decide_eq_true_eq, decide_eq_false_iff_not] at hc3
      have h3 := hc3
      have hp0 : pe = 0 := by omega
      rw [if_neg (fun h => h hp0)] at hX
      have hmy : ph.may g = true := by rw [hph]; exact (parseE_zero hgm (by rw [← hpe]; exact hp0)).1
      have hmb := hmy
      unfold Hd.may at hmb
      simp only [Bool.and_eq_true, decide_eq_true_eq] at hmb
      have hfit := hmb.1.1.1.1
      have hfb := hfit
      unfold Geo.fits at hfb
      simp only [Bool.and_eq_true, decide_eq_true_eq] at hfb
      have hcb := Geo.cap_bd hgm
      have hpf := Geo.pages_fit hgm hfit
      obtain ⟨N, hN⟩ : ∃ N : Nat, g.pagesOf ph.len = (N : Int) := ⟨(g.pagesOf ph.len).toNat, by omega⟩
      rw [hN, Int.toNat_natCast] at hX
      rw [hN] at hpf
      obtain ⟨ln, hln⟩ : ∃ ln : Nat, ph.len = (ln : Int) := ⟨ph.len.toNat, by omega⟩
      refine WC.skip ?_
      refine WC.sr ?_
      refine WL.val (V.assign (OV.p rfl)) rfl ?_
      refine WL.nil ?_
      refine WC.seq ?_
      refine WC.regionQ (by kernel_rfl) (by kernel_rfl) ?_
      refine WQ.val (V.move (OV.p rfl)) rfl ?_
      refine WQ.val (V.nilCheck (OV.p rfl)) rfl ?_
      refine WQ.val (V.fieldAddr fo126_1 (OV.p rfl)) rfl ?_
      refine WQ.val (V.loadA (vs := [.int .i64 g.bl, .int .i64 g.pg, .int .i64 g.se, .int .i64 g.sb, .int .i64 g.fl]) ⟨Tryz.isAgg23, Tryz.sizeOf23⟩ (OV.p rfl) rfl (fun _ => by repeat (first | exact Stw.rdg | apply Rds.up))) rfl ?_
      refine WQ.val (V.fieldAddr fo129_1 (OV.p rfl)) rfl ?_
      refine WQ.val (V.load Tryz.isAgg3 (OV.p rfl) (fun _ => by repeat (first | exact Rd.here rfl | apply Rd.up))) rfl ?_
      refine WQ.call (vs := [_, _]) Tryz.call91 ⟨OV.p rfl, OV.p rfl, trivial⟩ (Tells.eq (v' := .tuple #[.int .i64 (N : Int), .int .i64 0]) (head_Pages hgm (by omega)) (by rw [hfit, hN]; rfl)) rfl ?_
      refine WQ.val (V.move (OV.p rfl)) rfl ?_
      refine WQ.val (V.extract (OV.p rfl) rfl) rfl ?_
      refine WQ.val (V.extract (OV.p rfl) rfl) rfl ?_
      refine WQ.val (V.assign (OV.p rfl)) rfl ?_
      refine WQ.val (V.assign (OV.p rfl)) rfl ?_
      refine WQ.nil ?_
      refine WC.seq ?_
      refine WC.seq ?_
      refine WC.sub (H' := C.A bc :: DvA bd bc g :: T.A bs bd g :: SlA (.slice none 0 0) 5 1 0 [] :: Cells b12 129 [.int .i64 ph.leb, .int .i64 ph.len, .int .i64 ph.num] :: F) (Sub.refl _) (fun w h => (Sat.slNil (h.sel 5 [0, 2, 3, 4] rfl) 5 1).sel 5 [2, 3, 4, 0, 1] rfl) ?_
      have hsz : ∀ k, k ≤ N → (sRdTo C.sem b G.n k).err = 0 → (sRdTo C.sem b G.n k).d.length = k * g.room.toNat := fun k => by
        induction k with
        | zero => intro _ _; show ([] : List Nat).length = _; simp
        | succ k ih =>
          intro hk he
          rw [sRdTo] at he ⊢
          split at he
          · rename_i h; exact absurd he h
          · rename_i h
            rw [if_neg h]
            split at he
            · rename_i h'; exact absurd he h'
            · rename_i h'
              rw [if_neg h']
              have h4 := hC.dRead_full (b := b) (p := 1 + (k : Int)) (by omega)
              show ((sRdTo C.sem b G.n k).d ++ (C.sem.dRead b (1 + (k : Int))).d).length = _
              rw [List.length_append, ih (by omega) (by omega), h4, hg, Nat.succ_mul]
      refine WC.region ?_
      refine WL.val (V.move (OV.p rfl)) rfl ?_
      refine WL.val (V.move (OV.p rfl)) rfl ?_
      refine WL.nil ?_
      refine WC.block ?_
      refine WC.loop (σ := Nat × Option Addr × Nat) (fun s => [(0, ptr bs 0), (8, .int .i64 b), (10, .int .i64 ((sRdTo C.sem b G.n s.1).n : Nat)), (12, ptr b12 0), (13, .slice s.2.1 (sRdTo C.sem b G.n s.1).d.length s.2.2), (72, .int .i64 (N : Int)), (73, .int .i64 (s.1 : Int))]) (fun s => C.A bc :: DvA bd bc g :: T.A bs bd g :: SlA (.slice s.2.1 (sRdTo C.sem b G.n s.1).d.length s.2.2) 5 1 (sRdTo C.sem b G.n s.1).d.length (nats .u8 (sRdTo C.sem b G.n s.1).d) :: Cells b12 129 [.int .i64 ph.leb, .int .i64 ph.len, .int .i64 ph.num] :: F) (fun s => s.1 ≤ N ∧ (sRdTo C.sem b G.n s.1).err = 0) (fun s => N - s.1) (0, none, 0) ⟨Nat.zero_le _, rfl⟩ (.cons rfl (.cons rfl (.cons rfl (.cons rfl (.cons rfl (.cons rfl (.cons rfl (.nil _)))))))) (fun w h => h) ?_
      rintro ⟨k, Ao, co⟩ ⟨hk, hke⟩
      dsimp only at hk hke ⊢
      obtain ⟨r, hr⟩ : ∃ r, r = sRdTo C.sem b G.n k := ⟨_, rfl⟩
      have hrl := hsz k hk hke
      rw [← hr] at hke hrl ⊢
      have hkN : k * g.room.toNat ≤ 63 * 4096 := Nat.mul_le_mul (by omega) (by omega)
      refine WC.sr ?_
      refine WL.val (V.lss (OV.p rfl) (OV.p rfl)) rfl ?_
      refine WL.nil ?_
      refine WC.seq ?_
      refine WC.cond rfl (fun hc4 => ?_) (fun hc4 => ?_)
      ·simp only [decide_eq_true_eq, decide_eq_false_iff_not] at hc4
       have hkl : k < N := by omega
       have hst : sRdTo C.sem b G.n (k + 1) = if (C.sem.dRead b (1 + (k : Int))).err ≠ 0 then ⟨(C.sem.dRead b (1 + (k : Int))).err, [], 0⟩ else ⟨0, r.d ++ (C.sem.dRead b (1 + (k : Int))).d, max r.n (C.sem.dRead b (1 + (k : Int))).n⟩ := by rw [sRdTo, ← hr, if_neg (fun h => h hke)]
       refine WC.skip ?_
       refine WC.seq ?_
       refine WC.block ?_
       refine WC.sr ?_
       refine WL.val (V.move (OV.p rfl)) rfl ?_
       refine WL.val (V.assign (OV.p rfl)) rfl ?_
       refine WL.nil ?_
       refine WC.sr ?_
       refine WL.val (V.move (OV.p rfl)) rfl ?_
       refine WL.val (V.nilCheck (OV.p rfl)) rfl ?_
       refine WL.val (V.fieldAddr fo126_0 (OV.p rfl)) rfl ?_
       refine WL.val (V.load Tryz.isAgg31 (OV.p rfl) (fun _ => Rd.up (Rd.up (Stw.rds 0 _ rfl)))) rfl ?_
       refine WL.val (V.move (OV.p rfl)) rfl ?_
       refine WL.val (V.move (OV.p rfl)) rfl ?_
       refine WL.val (V.addI (OV.p rfl) (OV.p rfl) (fun hc => by first | omega | (simp at hc; omega))) rfl ?_
       refine WL.call (vs := [_, _, _]) Tryz.call26 ⟨OV.p rfl, OV.p rfl, OV.p rfl, trivial⟩ (drive_ReadG hC hg b (1 + (k : Int))) rfl ?_
       rintro _ _ ⟨A2, c2, rfl, rfl⟩
       have hGf2 := hC.dRead_facts b (1 + (k : Int))
       obtain ⟨G2, hG2⟩ : ∃ G2, G2 = C.sem.dRead b (1 + (k : Int)) := ⟨_, rfl⟩
       rw [← hG2] at hst hGf2 ⊢
       refine WL.val (V.move (OV.p rfl)) rfl ?_
       refine WL.val (V.extract (OV.p rfl) rfl) rfl ?_
       refine WL.val (V.extract (OV.p rfl) rfl) rfl ?_
       refine WL.val (V.extract (OV.p rfl) rfl) rfl ?_
       refine WL.val (V.assign (OV.p rfl)) rfl ?_
       refine WL.val (V.assign (OV.p rfl)) rfl ?_
       refine WL.val (V.assign (OV.p rfl)) rfl ?_
       refine WL.nil ?_
       refine WC.seq ?_
       refine WC.sr ?_
       refine WL.val (V.move (OV.p rfl)) rfl ?_
       refine WL.val (V.neq (OV.p rfl) (OV.p rfl)) rfl ?_
       refine WL.nil ?_
       refine WC.cond rfl (fun hc5 => ?_) (fun hc5 => ?_)
       ·simp only [Bool.not_eq_true', Bool.not_eq_false', decide_eq_true_eq, decide_eq_false_iff_not] at hc5
        have h5 := hc5
        rw [if_pos h5] at hst
        have hNe : sRdTo C.sem b G.n N = ⟨G2.err, [], 0⟩ := by
          have := sRdTo_err (S := C.sem) (b := b) (n0 := G.n) (k := k + 1) (by rw [hst]; exact h5) (N - (k + 1))
          rw [show k + 1 + (N - (k + 1)) = N by omega, hst] at this
          exact this
        rw [hNe, if_pos h5] at hX
        refine WC.sr ?_
        refine WL.val (V.move (OV.p rfl)) rfl ?_
        refine WL.val (V.move (OV.p rfl)) rfl ?_
        refine WL.sub (Sub.refl _) (fun w h => h.sel 6 [3, 1, 2] rfl) ?_
        refine WL.call (vs := [_, _]) Tryz.call89 ⟨OV.p rfl, OV.p rfl, trivial⟩ (store_told G2.err) rfl ?_
        rintro _ _ ⟨rfl, rfl⟩
        refine WL.val (V.assign (OV.p rfl)) rfl ?_
        refine WL.val (V.assign (OV.p rfl)) rfl ?_
        refine WL.val (V.assign (OV.p rfl)) rfl ?_
        refine WL.nil ?_
        refine WC.ret ?_
        subst hX
        exact BodyQ.ret (H' := SlA (.slice none 0 0) 5 1 0 [] :: C.A bc :: DvA bd bc g :: (T.told G2.err).A bs bd g :: F) (Res.tmp3 rfl rfl rfl rfl) (fun w h => Sat.slNil (h.sel 3 [1, 2, 0] rfl) _ _) ⟨none, 0, T.told G2.err, hT.told _, rfl, rfl, rfl⟩
       ·simp only [Bool.not_eq_true', Bool.not_eq_false', decide_eq_true_eq, decide_eq_false_iff_not] at hc5
        have h5 := hc5
        rw [if_neg (fun h => h (by omega))] at hst
        refine WC.skip ?_
        refine WC.sr ?_
        refine WL.val (V.move (OV.p rfl)) rfl ?_
        refine WL.val (V.move (OV.p rfl)) rfl ?_
        refine WL.sub (Sub.refl _) (fun w h => h.sel 5 [4, 0, 1, 2, 3] rfl) ?_
        refine WL.append (m := r.d.length) (q := G2.d.length) (news := nats .u8 G2.d) Tryz.underlying38 el5 (OV.p rfl) (OV.p rfl) (SlA.seq (by rw [nats_length, Nat.mul_one])) (nats_one .u8 G2.d) (by omega) rfl rfl (fun A5 c5 hA5 hc5 => ?_)
        refine WL.val (V.assign (OV.p rfl)) rfl ?_
        refine WL.nil ?_
        refine WC.region ?_
        refine WL.val (V.move (OV.p rfl)) rfl ?_
        refine WL.val (V.move (OV.p rfl)) rfl ?_
        refine WL.val (V.max (OV.p rfl) (OV.p rfl)) rfl ?_
        refine WL.val (V.assign (OV.p rfl)) rfl ?_
        refine WL.nil ?_
        refine WC.region ?_
        refine WL.val (V.addI (OV.p rfl) (OV.p rfl) (fun hc => by first | omega | (simp at hc; omega))) rfl ?_
        refine WL.val (V.move (OV.p rfl)) rfl ?_
        refine WL.nil ?_
        refine ⟨rfl, ?_⟩
        refine ⟨(k + 1, A5, c5), ⟨hkl, by rw [hst]⟩, (by show N - (k + 1) < N - k; omega), .cons rfl (.cons rfl (.cons (look_eq rfl (by dsimp only; rw [hst]; dsimp only; refine congrArg (Value.int .i64) ?_; omega)) (.cons rfl (.cons (look_eq rfl (by dsimp only; rw [hst]; dsimp only; rw [List.length_append])) (.cons rfl (.cons (look_eq rfl (by simp)) (.nil _))))))), fun w h => ?_⟩
        dsimp only
        rw [hst]
        dsimp only
        rw [List.length_append, nats_append]
        exact h.sel 6 [2, 3, 4, 0, 5] rfl
      ·simp only [decide_eq_true_eq, decide_eq_false_iff_not] at hc4
       refine WC.exit ?_
       refine WC.seq ?_
       obtain rfl : k = N := by omega
       rw [← hr, if_neg (fun h => h hke)] at hX
       have hlr : ln ≤ r.d.length := by
         have h6 := hpf.2.2.1
         rw [hln] at h6
         have h7 : ((k * g.room.toNat : Nat) : Int) = (k : Int) * g.room := by rw [Int.natCast_mul]; congr 1; omega
         omega
       have hXd : X.1.d = r.d.take ln := by rw [hX, hln]; rfl
       have hXl : X.1.d.length = ln := by rw [hXd, List.length_take]; omega
       refine WC.have_ (p := r.d.length ≤ co) (fun w h => by
         have h9 := h.sel 4 [3] rfl
         obtain ⟨_, cap', hv, hle, _⟩ := SlA.shape h9.head
         injection hv with _ _ e3
         rw [e3]; exact hle) (fun hrc => ?_)
       refine WC.region ?_
       refine WL.val (V.move (OV.p rfl)) rfl ?_
       refine WL.val (V.fieldAddr fo129_1 (OV.p rfl)) rfl ?_
       refine WL.val (V.load Tryz.isAgg3 (OV.p rfl) (fun _ => by repeat (first | exact Rd.here rfl | apply Rd.up))) rfl ?_
       refine WL.val (V.val_eq (v' := .slice Ao ln co) (V.slice (l := 0) (h := ln) (u := co) st38 (OV.p rfl) OO.none (OO.some (OV.p rfl) (fun _ => hln)) OO.none (by simp) (Nat.zero_le _) (by omega) (Nat.le_refl _)) (fun _ => by rw [Nat.sub_zero, Nat.sub_zero, sub0])) rfl ?_
       refine WL.val (V.move (OV.p rfl)) rfl ?_
       refine WL.val (V.assign (OV.p rfl)) rfl ?_
       refine WL.val (V.assign (OV.p rfl)) rfl ?_
       refine WL.val (V.assign (OV.p rfl)) rfl ?_
       refine WL.nil ?_
       refine WC.ret ?_
       refine BodyQ.ret (H' := SlA (.slice Ao X.1.d.length co) 5 1 X.1.d.length (nats .u8 X.1.d) :: C.A bc :: DvA bd bc g :: T.A bs bd g :: F) (Res.tmp3 rfl rfl rfl rfl) (fun w h => ?_) ⟨Ao, co, T, hT, by rw [hX], by rw [hXl, hX], rfl⟩
       have h9 := slA_cut hlr w (h.sel 5 [3, 0, 1, 2] rfl)
       rw [nats_take, ← hXd] at h9
       rw [hXl]
       exact h9
end
end Go.Proofs.YtohkefolnmcjnaaGreat
