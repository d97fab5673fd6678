import Derived.Test.YtohkefolnmcjnaaGreatP23
namespace Go.Proofs.YtohkefolnmcjnaaGreat
open Go.Sl Go.RowKit
set_option linter.unusedVariables false
set_option linter.unusedSimpArgs false
set_option maxRecDepth 20000
def pgOf (g : Geo) (h : Hd) (d : List Nat) : Nat → List Nat
  | 0 => headB g h
  | p + 1 => (d.drop (p * g.room.toNat)).take g.room.toNat ++ List.replicate (g.room.toNat - ((d.drop (p * g.room.toNat)).take g.room.toNat).length) 0
def wrTo (S : Chip) (b : Int) (pg : Nat → List Nat) : Nat → Chip × Int
  | 0 => (S, 0)
  | k + 1 => if (wrTo S b pg k).2 ≠ 0 then wrTo S b pg k else (wrTo S b pg k).1.dWrite b k (pg k)
def sWrite (S : Chip) (num b leb : Int) (d : List Nat) : Chip × Int :=
  if (S.dErase b).2 ≠ 0 then S.dErase b
  else wrTo (S.dErase b).1 b (pgOf S.g ⟨leb, d.length, num⟩ d) ((S.g.pagesOf d.length).toNat + 1)
theorem wrTo_err {S : Chip} {b : Int} {pg : Nat → List Nat} {k : Nat} (h : (wrTo S b pg k).2 ≠ 0) : ∀ m, wrTo S b pg (k + m) = wrTo S b pg k
  | 0 => rfl
  | m + 1 => by rw [← Nat.add_assoc, wrTo, wrTo_err h m, if_pos h]
theorem pgOf_small {g : Geo} {h : Hd} {d : List Nat} (hd : Small 256 d) : ∀ p, Small 256 (pgOf g h d p)
  | 0 => headB_small g h
  | p + 1 => by
    unfold pgOf
    intro x hx
    rcases List.mem_append.1 hx with hx | hx
    · exact Small.take (Small.drop hd) x hx
    · rw [List.eq_of_mem_replicate hx]; decide
theorem pgOf_length {g : Geo} {h : Hd} {d : List Nat} (hg : g.mays) : ∀ p, (pgOf g h d p).length = g.room.toNat
  | 0 => headB_length hg h
  | p + 1 => by
    unfold pgOf
    rw [List.length_append, List.length_replicate]
    have := List.length_take_le (g.room.toNat) (d.drop (p * g.room.toNat))
    omega
theorem pages_past {g : Geo} (hg : g.mays) {m k : Nat} (h : m ≤ k * g.room.toNat) : (g.pagesOf m).toNat ≤ k := by
  have hr := Geo.room_bd hg
  have h1 : g.pagesOf m < (k : Int) + 1 := by
    unfold Geo.pagesOf
    refine Int.ediv_lt_of_lt_mul (by omega) ?_
    have : ((k * g.room.toNat : Nat) : Int) = (k : Int) * g.room := by rw [Int.natCast_mul]; congr 1; omega
    rw [Int.add_mul, Int.one_mul]
    omega
  omega
theorem pages_not {g : Geo} (hg : g.mays) {m k : Nat} (h : k * g.room.toNat < m) : k < (g.pagesOf m).toNat := by
  have hr := Geo.room_bd hg
  have h1 : (k : Int) + 1 ≤ g.pagesOf m := by
    unfold Geo.pagesOf
    refine Int.le_ediv_of_mul_le (by omega) ?_
    have : ((k * g.room.toNat : Nat) : Int) = (k : Int) * g.room := by rw [Int.natCast_mul]; congr 1; omega
    rw [Int.add_mul, Int.one_mul]
    omega
  omega
section
variable {bs bd bc : Nat} {g : Geo} {T : Stw} {C : Cw} {K : World} {F : List Assn}
theorem store_write (hC : C.Ok) (hg : C.g = g) (hT : T.Ok g) {b leb : Int} {A : Option Addr} {m cap : Nat} {d : List Nat} (hd : Seq K F A m 1 (nats .u8 d)) (h8 : Small 256 d) (hmc : m ≤ cap) (hm : m ≤ 1000000)
    (hleb : 0 ≤ leb) (hmay : Hd.may g ⟨leb, (d.length : Nat), T.next⟩ = true) : Does Tryz.prog 98 #[ptr bs 0, .int .i64 b, .int .i64 leb, .slice A m cap] K (C.A bc :: DvA bd bc g :: T.A bs bd g :: F)
    (fun v H' => ∃ C' : Cw, C'.Ok ∧ C'.g = g ∧ C'.sem = (sWrite C.sem T.next b leb d).1 ∧ v = .int .i64 (sWrite C.sem T.next b leb d).2 ∧ H' = C'.A bc :: DvA bd bc g :: T.A bs bd g :: F) := by
  have hgm : g.mays := by rw [← hg]; exact hC.mays
  have hgs : C.sem.g = g := hg
  have hrb := Geo.room_bd hgm
  have hdl : d.length = m := by simpa [nats] using hd.len
  obtain ⟨X, hX⟩ : ∃ X, X = sWrite C.sem T.next b leb d := ⟨_, rfl⟩
  rw [← hX]
  unfold sWrite at hX
  rw [hgs, hdl] at hX
  rw [hdl] at hmay
  obtain ⟨R, hR⟩ : ∃ R : Nat, g.room = (R : Int) := ⟨g.room.toNat, by omega⟩
  have hRn : g.room.toNat = R := by omega
  have hRb : 1 ≤ R ∧ R ≤ 4096 := by omega
  refine Does.enter Tryz.func98 rfl Tryz.ntmps98 rfl ?_
  simp only [env0, Nat.reduceAdd]
  refine WC.sr ?_
  refine WL.sg rfl rfl ?_
  refine WL.nil ?_
  refine WC.seq ?_
  refine WC.sr ?_
  refine WL.mv rfl rfl ?_
  refine WL.nc rfl rfl ?_
  refine WL.val (V.fieldAddr fo126_0 (OV.p rfl)) rfl ?_
  refine WL.val (V.load Tryz.isAgg31 (OV.p rfl) (fun _ => by repeat (first | exact Stw.rds 0 _ rfl | apply Rd.up))) rfl ?_
  refine WL.mv rfl rfl ?_
  refine WL.call (vs := [_, _]) Tryz.call61 ⟨OV.p rfl, OV.p rfl, trivial⟩ (drive_EraseG hC hg b) rfl ?_
  rintro _ _ ⟨C1, hC1, hg1, rfl, hs1, rfl⟩
  refine WL.sg rfl rfl ?_
  refine WL.nil ?_
  refine WC.sr ?_
  refine WL.mv rfl rfl ?_
  refine WL.val (V.neq (OV.p rfl) (OV.p rfl)) rfl ?_
  refine WL.nil ?_
  refine WC.cond rfl (fun hc0 => ?_) (fun hc0 => ?_)
  ·simp only [Bool.not_eq_true', Bool.not_eq_false', decide_eq_true_eq, decide_eq_false_iff_not] at hc0
   have h0 := hc0
   rw [if_pos h0] at hX
   refine WC.sr ?_
   refine WL.mv rfl rfl ?_
   refine WL.sg rfl rfl ?_
   refine WL.nil ?_
   refine WC.ret ?_
   subst hX
   exact BodyQ.ret (H' := C1.A bc :: DvA bd bc g :: T.A bs bd g :: F) (Res.tmp rfl rfl) (fun w h => h) ⟨C1, hC1, hg1, hs1, rfl, rfl⟩
  ·simp only [Bool.not_eq_true', Bool.not_eq_false', decide_eq_true_eq, decide_eq_false_iff_not] at hc0
   have h0 := hc0
   rw [if_neg (fun h => h (by omega))] at hX
   refine WC.skip ?_
   refine WC.sr ?_
   refine WL.mv rfl rfl ?_
   refine WL.nc rfl rfl ?_
   refine WL.val (V.fieldAddr fo126_1 (OV.p rfl)) rfl ?_
   refine WL.val (V.loadA (vs := [.int .i64 g.bl, .int .i64 g.pg, .int .i64 g.se, .int .i64 g.sb, .int .i64 g.fl]) ⟨Tryz.isAgg23, Tryz.sizeOf23⟩ (OV.p rfl) rfl (fun _ => by repeat (first | exact Stw.rdg | apply Rds.up))) rfl ?_
   refine WL.call (vs := [_]) Tryz.call73 ⟨OV.p rfl, trivial⟩ (ecc_RoomOk hgm) rfl ?_
   rintro _ H0 ⟨rfl, h0⟩
   subst H0
   refine WL.mv rfl rfl ?_
   refine WL.xt rfl rfl rfl ?_
   refine WL.xt rfl rfl rfl ?_
   refine WL.sg rfl rfl ?_
   refine WL.sg rfl rfl ?_
   refine WL.nil ?_
   refine WC.seq ?_
   refine WC.regionA (C1.A bc :: DvA bd bc g :: T.A bs bd g :: F) (by kernel_rfl) ?_
   refine WA.t 0 rfl (V.move (OV.p rfl)) ?_
   refine WA.t 1 rfl (V.nilCheck (OV.p rfl)) ?_
   refine WA.t 2 rfl (V.fieldAddr fo126_1 (OV.p rfl)) ?_
   refine WA.t 3 rfl (V.loadA (vs := [.int .i64 g.bl, .int .i64 g.pg, .int .i64 g.se, .int .i64 g.sb, .int .i64 g.fl]) ⟨Tryz.isAgg23, Tryz.sizeOf23⟩ (OV.p rfl) rfl (fun _ => by repeat (first | exact Stw.rdg | apply Rds.up))) ?_
   refine WA.t 4 rfl (V.move (OV.p rfl)) ?_
   refine WA.t 5 rfl (V.move (OV.p rfl)) ?_
   refine WA.t 6 rfl (V.len (t := 38) Tryz.runUnderlying38 (OV.p rfl)) ?_
   refine WA.t 7 rfl (V.move (OV.p rfl)) ?_
   refine WA.t 8 rfl (V.nilCheck (OV.p rfl)) ?_
   refine WA.t 9 rfl (V.fieldAddr fo126_4 (OV.p rfl)) ?_
   refine WA.t 10 rfl (V.load Tryz.isAgg3 (OV.p rfl) (fun _ => by repeat (first | exact Stw.rds 8 _ rfl | apply Rd.up))) ?_
   refine WA.t 11 rfl (V.build (vs := [(0, _), (1, _), (2, _)]) ⟨OV.p rfl, OV.p rfl, OV.p rfl, trivial⟩ rfl (bld129_0_1_2 _ _ _)) ?_
   refine WA.o 12 rfl ?_
   refine WL.call (vs := [_, _]) Tryz.call126 ⟨OV.p rfl, OV.p rfl, trivial⟩ (head_Bytes hgm ⟨leb, (m : Nat), T.next⟩ (by show (m : Int) ≤ _; omega) hleb (by show 0 ≤ T.next; have := hT.next; omega)) rfl ?_
   rintro v5 H5 h5
   obtain ⟨Ap, cp, rfl, rfl⟩ : ∃ Ap cp, v5 = .tuple #[.slice Ap g.room.toNat cp, .int .i64 0] ∧ H5 = SlA (.slice Ap g.room.toNat cp) 5 1 g.room.toNat (nats .u8 (headB g ⟨leb, (m : Nat), T.next⟩)) :: C1.A bc :: DvA bd bc g :: T.A bs bd g :: F := by
     rcases h5 with ⟨_, h⟩ | ⟨h, _⟩
     · obtain ⟨Ap, cp, h⟩ := h; exact ⟨Ap, cp, h.1, h.2⟩
     · rw [hmay] at h; cases h
   refine WL.nil ?_
   refine WA.t 13 rfl (V.move (OV.p rfl)) ?_
   refine WA.t 14 rfl (V.extract (OV.p rfl) rfl) ?_
   refine WA.t 15 rfl (V.extract (OV.p rfl) rfl) ?_
   refine WA.t 16 rfl (V.assign (OV.p rfl)) ?_
   refine WA.t 17 rfl (V.assign (OV.p rfl)) ?_
   refine WA.fin ?_
   refine WC.sr ?_
   refine WL.sg rfl rfl ?_
   refine WL.nil ?_
   refine WC.block ?_
   obtain ⟨pg, hpg⟩ : ∃ pg, pg = pgOf g ⟨leb, (m : Nat), T.next⟩ d := ⟨_, rfl⟩
   obtain ⟨N, hN⟩ : ∃ N, N = (g.pagesOf (m : Nat)).toNat := ⟨_, rfl⟩
   rw [← hpg, ← hN] at hX
   have hps : ∀ p, Small 256 (pg p) := fun p => by rw [hpg]; exact pgOf_small h8 p
   have hpl : ∀ p, (pg p).length = R := fun p => by rw [hpg, pgOf_length hgm p, hRn]
   have hpp : ∀ k, m ≤ k * R → N ≤ k := fun k h => by rw [hN]; exact pages_past hgm (by rw [hRn]; exact h)
   have hpn : ∀ k, k * R < m → k < N := fun k h => by rw [hN]; exact pages_not hgm (by rw [hRn]; exact h)
   rw [hRn]
   refine WC.loop (σ := Cw × Nat × Option Addr × Nat × Option Addr × Nat) (fun s => [(0, ptr bs 0), (1, .int .i64 b), (3, .slice s.2.2.1 (m - s.2.1 * R) s.2.2.2.1), (10, .int .i64 (R : Int)), (12, .slice s.2.2.2.2.1 R s.2.2.2.2.2), (13, .int .i64 0), (14, .int .i64 (s.2.1 : Int))]) (fun s => SlA (.slice s.2.2.2.2.1 R s.2.2.2.2.2) 5 1 R (nats .u8 (pg s.2.1)) :: s.1.A bc :: DvA bd bc g :: T.A bs bd g :: F) (fun s => s.1.Ok ∧ s.1.g = g ∧ s.2.1 ≤ N ∧ (wrTo (C.sem.dErase b).1 b pg s.2.1).2 = 0 ∧ s.1.sem = (wrTo (C.sem.dErase b).1 b pg s.2.1).1 ∧ Seq K F s.2.2.1 (m - s.2.1 * R) 1 (nats .u8 (d.drop (s.2.1 * R))) ∧ m - s.2.1 * R ≤ s.2.2.2.1) (fun s => N - s.2.1) (C1, 0, A, cap, Ap, cp) ⟨hC1, hg1, Nat.zero_le _, rfl, hs1, by simpa using hd, by show m - 0 * R ≤ cap; omega⟩ (.cons rfl (.cons rfl (.cons (look_eq rfl (by simp)) (.cons (look_eq rfl (by rw [hR])) (.cons rfl (.cons rfl (.cons rfl (.nil _)))))))) (fun w h => by dsimp only; rw [hpg]; exact h) ?_
   rintro ⟨C2, p, Ad, cd, Aq, cq⟩ ⟨hC2, hg2, hpN, hw0, hw1, hsd, hcd⟩
   dsimp only at hC2 hg2 hpN hw0 hw1 hsd hcd ⊢
   have hst : wrTo (C.sem.dErase b).1 b pg (p + 1) = C2.sem.dWrite b p (pg p) := by rw [wrTo, if_neg (fun h => h hw0), ← hw1]
   refine WC.have_ (p := R ≤ cq) (fun w h => by
     obtain ⟨_, cap', hv, hle, _⟩ := SlA.shape h.head
     injection hv with _ _ e3
     rw [e3]; exact hle) (fun hrq => ?_)
   refine WC.seq ?_
   refine WC.block ?_
   refine WC.seq ?_
   refine WC.sr ?_
   refine WL.mv rfl rfl ?_
   refine WL.val (V.eql (OV.p rfl) (OV.p rfl)) rfl ?_
   refine WL.nil ?_
   refine WC.condT' rfl (by first | rfl | (simp; done) | (simp; omega)) ?_
   refine WC.region ?_
   refine WL.mv rfl rfl ?_
   refine WL.nc rfl rfl ?_
   refine WL.val (V.fieldAddr fo126_0 (OV.p rfl)) rfl ?_
   refine WL.val (V.load Tryz.isAgg31 (OV.p rfl) (fun _ => by repeat (first | exact Stw.rds 0 _ rfl | apply Rd.up))) rfl ?_
   refine WL.mv rfl rfl ?_
   refine WL.mv rfl rfl ?_
   refine WL.mv rfl rfl ?_
   refine WL.sub (Sub.refl _) (fun w h => h.sel 3 [1, 2, 0] rfl) ?_
   refine WL.call (vs := [_, _, _, _]) Tryz.call23 ⟨OV.p rfl, OV.p rfl, OV.p rfl, OV.p rfl, trivial⟩ (drive_WriteG (d := pg p) hC2 hg2 b p (SlA.seq (by rw [nats_length, Nat.mul_one, hpl])) (hps p) hrq (by omega)) rfl ?_
   rintro _ _ ⟨C3, hC3, hg3, rfl, hs3, rfl⟩
   rw [← hst] at hs3 ⊢
   refine WL.sg rfl rfl ?_
   refine WL.nil ?_
   refine WC.seq ?_
   refine WC.sr ?_
   refine WL.mv rfl rfl ?_
   refine WL.val (V.neq (OV.p rfl) (OV.p rfl)) rfl ?_
   refine WL.mv rfl rfl ?_
   refine WL.valG (oj := _) rfl rfl rfl GC.f (V.move (OV.p rfl)) rfl ?_
   refine WL.valG (oj := _) rfl rfl rfl GC.f (V.len (t := 38) Tryz.runUnderlying38 (OV.g rfl id)) rfl ?_
   refine WL.valG (oj := _) rfl rfl rfl GC.f (V.eql (OV.g rfl id) (OV.p rfl)) rfl ?_
   refine WL.val (V.pickOr (OV.p rfl) (OV.g rfl id)) rfl ?_
   refine WL.nil ?_
   refine WC.cond rfl (fun hc2 => ?_) (fun hc2 => ?_)
   ·simp only [Bool.or_eq_true, Bool.or_eq_false_iff, Bool.not_eq_true', Bool.not_eq_false', decide_eq_true_eq, decide_eq_false_iff_not] at hc2
    have h2 := hc2
    have hend : wrTo (C.sem.dErase b).1 b pg (N + 1) = wrTo (C.sem.dErase b).1 b pg (p + 1) := by
      by_cases he : (wrTo (C.sem.dErase b).1 b pg (p + 1)).2 = 0
      · have h3 : ((m - p * R : Nat) : Int) = 0 := by rcases h2 with h | h; exact absurd he h; exact h
        have h4 := hpp p (by omega)
        rw [show p = N by omega]
      · have := wrTo_err he (N - p)
        rw [show p + 1 + (N - p) = N + 1 by omega] at this
        exact this
    rw [hend] at hX
    refine WC.sr ?_
    refine WL.mv rfl rfl ?_
    refine WL.sg rfl rfl ?_
    refine WL.nil ?_
    refine WC.ret ?_
    subst hX
    exact BodyQ.ret (H' := C3.A bc :: DvA bd bc g :: T.A bs bd g :: F) (Res.tmp rfl rfl) (fun w h => h.sel 4 [0, 1, 3] rfl) ⟨C3, hC3, hg3, hs3, rfl, rfl⟩
   ·simp only [Bool.or_eq_true, Bool.or_eq_false_iff, Bool.not_eq_true', Bool.not_eq_false', decide_eq_true_eq, decide_eq_false_iff_not] at hc2
    have h2 := hc2
    have he : (wrTo (C.sem.dErase b).1 b pg (p + 1)).2 = 0 := by have := h2.1; omega
    have hpm : p * R < m := by have := h2.2; omega
    have hpN2 := hpn p hpm
    obtain ⟨q, hq⟩ : ∃ q, q = min R (m - p * R) := ⟨_, rfl⟩
    have hsn := Seq.dropS hsd (show q ≤ m - p * R by omega) hcd
    rw [nats_drop, List.drop_drop] at hsn
    have hst2 := Seq.take hsd (show q ≤ m - p * R by omega)
    rw [nats_take] at hst2
    have hs2 : (p + 1) * R = p * R + R := Nat.succ_mul _ _
    have hpb := Nat.le_mul_of_pos_right p (show 0 < R by omega)
    have hpgn : pg (p + 1) = (d.drop (p * R)).take q ++ List.replicate (R - q) 0 := by
      rw [hpg]
      show (d.drop (p * g.room.toNat)).take g.room.toNat ++ List.replicate (g.room.toNat - ((d.drop (p * g.room.toNat)).take g.room.toNat).length) 0 = _
      rw [hRn, List.length_take, List.length_drop, hdl, ← hq]
      have : (d.drop (p * R)).take R = (d.drop (p * R)).take q := by
        have h9 : q = min R (d.drop (p * R)).length := by rw [List.length_drop, hdl]; exact hq
        rw [h9, ← List.take_eq_take_min]
      rw [this]
    refine WC.skip ?_
    refine WC.sr ?_
    refine WL.mv rfl rfl ?_
    refine WL.mv rfl rfl ?_
    refine WL.val (V.len (t := 38) Tryz.runUnderlying38 (OV.p rfl)) rfl ?_
    refine WL.val (V.val_eq (v' := .int .i64 (q : Int)) (V.min (OV.p rfl) (OV.p rfl)) (fun _ => by rw [hq]; refine congrArg (Value.int .i64) ?_; omega)) rfl ?_
    refine WL.sg rfl rfl ?_
    refine WL.nil ?_
    refine WC.sr ?_
    refine WL.mv rfl rfl ?_
    refine WL.mv rfl rfl ?_
    refine WL.val (V.val_eq (v' := .slice Ad q cd) (V.slice (l := 0) (h := q) (u := cd) st38 (OV.p rfl) OO.none (OO.some (OV.p rfl) (fun _ => rfl)) OO.none (by simp) (Nat.zero_le _) (by omega) (Nat.le_refl _)) (fun _ => by rw [Nat.sub_zero, Nat.sub_zero, sub0])) rfl ?_
    refine WL.call (vs := [_]) Tryz.call110 ⟨OV.p rfl, trivial⟩ (clone_nats (by repeat (first | exact hst2 | apply Seq.up)) (by omega)) rfl ?_
    rintro _ _ ⟨A1, c1, rfl, rfl⟩
    refine WL.mv rfl rfl ?_
    refine WL.mv rfl rfl ?_
    refine WL.sb rfl rfl rfl ?_
    refine WL.appendZ (m := q) (q := R - q) Tryz.underlying38 Tryz.underlying3 el5 rfl rfl (OV.p rfl) (OV.p rfl) (by omega) (by omega) (by omega) rfl (fun A5 c5 hA5 hc5 => ?_)
    refine WL.sg rfl rfl ?_
    refine WL.nil ?_
    refine WC.region ?_
    refine WL.mv rfl rfl ?_
    refine WL.mv rfl rfl ?_
    refine WL.val (V.slice (l := q) (h := m - p * R) (u := cd) st38 (OV.p rfl) (OO.some (OV.p rfl) (fun _ => rfl)) OO.none OO.none (by simp) (by omega) (by omega) (Nat.le_refl _)) rfl ?_
    refine WL.sg rfl rfl ?_
    refine WL.nil ?_
    refine WC.region ?_
    refine WL.mv rfl rfl ?_
    refine WL.ad rfl rfl rfl ?_
    refine WL.sg rfl rfl ?_
    refine WL.nil ?_
    refine ⟨rfl, ?_⟩
    have e1 : q + (R - q) = R := by omega
    have e2 : m - p * R - q = m - (p + 1) * R := by omega
    refine ⟨(C3, p + 1, (if cd = q then Ad else Ad.map (·.add (q * 1))), cd - q, A5, c5), ⟨hC3, hg3, hpN2, he, hs3, ?_, ?_⟩, (by show N - (p + 1) < N - p; omega), .cons rfl (.cons rfl (.cons (look_eq rfl (by dsimp only; rw [e2])) (.cons rfl (.cons (look_eq rfl (by dsimp only; rw [e1])) (.cons (look_eq rfl (by rw [he])) (.cons (look_eq rfl (by simp)) (.nil _))))))), fun w h => ?_⟩
    · dsimp only
      rw [e2] at hsn
      have e3 : d.drop (p * R + q) = d.drop ((p + 1) * R) := by
        by_cases hRm : R ≤ m - p * R
        · rw [show p * R + q = (p + 1) * R by omega]
        · rw [List.drop_eq_nil_of_le (by omega), List.drop_eq_nil_of_le (by omega)]
      rw [e3] at hsn
      exact hsn
    · show m - (p + 1) * R ≤ cd - q
      omega
    · dsimp only
      rw [hpgn, nats_append, nats_replicate]
      rw [e1] at h
      exact h.sel 5 [0, 1, 2, 4] rfl
end
end Go.Proofs.YtohkefolnmcjnaaGreat
namespace Go.Proofs.YtohkefolnmcjnaaGreat
open Go.Sl Go.RowKit
set_option linter.unusedVariables false
set_option linter.unusedSimpArgs false
set_option maxRecDepth 20000
theorem Upd.all {K : World} {l l' H : List Assn} {b o : Nat} {vs : List Value} (h : Upd K (l ++ H) b o vs (l' ++ H)) : Upd K (AllA l :: H) b o vs (AllA l' :: H) := by
  have conv : ∀ (L : List Assn) (k : Nat), (∃ B ∈ L ++ H, B.foot k) → ∃ B ∈ AllA L :: H, B.foot k := fun L k ⟨B, hB, hf⟩ => by
    rcases List.mem_append.1 hB with hB | hB
    · exact ⟨AllA L, .head _, B, hB, hf⟩
    · exact ⟨B, .tail _ hB, hf⟩
  refine ⟨fun B' hB' k hk => ?_, conv l b h.own, fun w hw => h.may w (SatL.all.1 hw), fun w hw => SatL.all.2 (h.sat w (SatL.all.1 hw))⟩
  rcases List.mem_cons.1 hB' with rfl | hB'
  · obtain ⟨A, hA, hf⟩ := hk
    exact conv l k (h.feet A (List.mem_append_left _ hA) k hf)
  · exact ⟨B', .tail _ hB', hk⟩
theorem Upd.slA {K : World} {H : List Assn} {gb o m cap E : Nat} {cs : List Value} {v : Value} (ho : o < m) : Upd K (SlA (.slice (some ⟨gb, 0, none⟩) m cap) E 1 m cs :: H) gb o [v] (SlA (.slice (some ⟨gb, 0, none⟩) m cap) E 1 m (cs.set o v) :: H) := by
  have hsm : ∀ w : World, Same w w := fun w => ⟨rfl, rfl, rfl, Nat.le_refl _⟩
  refine ⟨fun B' hB' k hk => ?_, ⟨_, .head _, rfl⟩, fun w hw => ?_, fun w hw => ?_⟩
  · rcases List.mem_cons.1 hB' with rfl | h
    · exact ⟨_, .head _, hk⟩
    · exact ⟨_, .tail _ h, hk⟩
  · obtain ⟨r, ⟨h1, h2, h3, h4⟩, h5⟩ := Sat.slCells (K := w) ⟨hsm w, hw⟩
    exact (Upd.at_ (K := w) (T := E) (cs := cs ++ r) (v := v) (by rw [List.length_append]; omega)).may w h5.2
  · obtain ⟨r, ⟨h1, h2, h3, h4⟩, h5⟩ := Sat.slCells (K := w) ⟨hsm w, hw⟩
    have h6 := (Upd.at_ (K := w) (H := H) (b := gb) (T := E) (o := o) (cs := cs ++ r) (v := v) (by rw [List.length_append]; omega)).sat w h5.2
    have h7 := Sat.toSl (K := w.setCells gb o [v]) (s := 1) (m := m) (cap := cap) ⟨hsm _, h6⟩ (by rw [List.length_set]; exact h1) h3 h4
    rw [List.set_append_left _ _ (by omega), Nat.mul_one, List.take_left' (by rw [List.length_set]; omega)] at h7
    exact h7.2
section
variable {bs bd bc : Nat} {g : Geo} {K : World} {F : List Assn}
theorem Stw.updN (T : Stw) (x : Int) : Upd K (T.A bs bd g :: F) bs 8 [.int .i64 x] (Stw.A bs bd g { T with next := x } :: F) := Upd.all (l := Stw.parts bs bd g T) (l' := Stw.parts bs bd g { T with next := x }) (Upd.here rfl rfl)
theorem Stw.updT (T : Stw) (x : Int) : Upd K (T.A bs bd g :: F) bs 9 [.int .i64 x] (Stw.A bs bd g { T with at_ := x } :: F) := Upd.all (l := Stw.parts bs bd g T) (l' := Stw.parts bs bd g { T with at_ := x }) (Upd.here rfl rfl)
theorem Stw.updS {T : Stw} {g1 i : Nat} (hA : T.sA = some ⟨g1, 0, none⟩) (hi : i < T.stands.length) (x : Int) : Upd K (T.A bs bd g :: F) g1 i [.int .i64 x] (Stw.A bs bd g { T with stands := T.stands.set i x } :: F) := by
  refine Upd.all (l := Stw.parts bs bd g T) (l' := Stw.parts bs bd g { T with stands := T.stands.set i x }) ?_
  obtain ⟨stands, sA, sc, b8, irs, nx, at', dd⟩ := T
  dsimp only at hA hi ⊢
  subst hA
  unfold Stw.parts Stw.cells Stw.sl
  dsimp only
  rw [List.length_set]
  refine Upd.up ?_
  have h1 := Upd.slA (K := K) (H := [Cells b8 42 (irs.map IRow.v), AllA (irs.map IRow.row)] ++ F) (gb := g1) (cap := sc) (E := 3) (cs := ints .i64 stands) (v := .int .i64 x) hi
  have h2 : (ints .i64 stands).set i (.int .i64 x) = ints .i64 (stands.set i x) := by unfold ints; rw [List.map_set]
  rw [h2] at h1
  exact h1
theorem Stw.someS {T : Stw} (h0 : 0 < T.stands.length) {w : World} (h : Sat K w (T.A bs bd g :: F)) : ∃ g1, T.sA = some ⟨g1, 0, none⟩ := by
  have h1 : Sat K w (Stw.parts bs bd g T ++ F) := h.unall
  have h2 : Sat K w (T.sl :: Cells bs 126 (T.cells bd g) :: Cells T.b8 42 (T.irs.map IRow.v) :: AllA (T.irs.map IRow.row) :: F) := h1.p1
  cases hA : T.sA with
  | none =>
    unfold Stw.sl at h2
    rw [hA] at h2
    have := (SlA.nilCs h2).1
    omega
  | some a =>
    unfold Stw.sl at h2
    rw [hA] at h2
    obtain ⟨g1, rfl⟩ := SlA.addr h2
    exact ⟨g1, rfl⟩
end
def St.mark (T : St) (leb : Int) : St := if 0 ≤ T.at' leb then { T with stale := T.stale.set leb.toNat (T.stale.getD leb.toNat [] ++ [T.at' leb]) } else T
def St.done (T : St) (leb b bl : Int) : St := { T with stands := T.stands.set leb.toNat b, next := T.next + 1, at_ := (b + 1) % bl }
def chg1 (leb : Int) (d : List Nat) (S : Chip) (T : St) (b : Int) : Chip × St × Option Int :=
  if (sWrite S T.next b leb d).2 = 72 then ((sWrite S T.next b leb d).1, { T.forget b with next := min (T.next + 1) 1000000001 }, if 1000000000 < min (T.next + 1) 1000000001 then some 6 else none)
  else if (sWrite S T.next b leb d).2 ≠ 0 then ((sWrite S T.next b leb d).1, (T.forget b).told (sWrite S T.next b leb d).2, some (sWrite S T.next b leb d).2)
  else ((sWrite S T.next b leb d).1, ((T.forget b).mark leb).done leb b S.g.bl, some 0)
def chgL (leb : Int) (d : List Nat) : List Int → Chip → St → Chip × St × Option Int
  | [], S, T => (S, T, none)
  | b :: bs, S, T => if (chg1 leb d S T b).2.2 = none then chgL leb d bs (chg1 leb d S T b).1 (chg1 leb d S T b).2.1 else chg1 leb d S T b
def candsF (gd std : List Int) (at0 bl : Int) (n j : Nat) : List Int := ((List.range' j (n - j)).map fun (i : Nat) => (at0 + (i : Int)) % bl).filter fun b => decide (b ∈ gd ∧ ¬ b ∈ std)
theorem candsF_end {gd std : List Int} {at0 bl : Int} {n : Nat} : candsF gd std at0 bl n n = [] := by unfold candsF; rw [Nat.sub_self]; rfl
theorem candsF_yes {gd std : List Int} {at0 bl : Int} {n j : Nat} (hj : j < n) (h : (at0 + (j : Int)) % bl ∈ gd ∧ ¬ (at0 + (j : Int)) % bl ∈ std) : candsF gd std at0 bl n j = (at0 + (j : Int)) % bl :: candsF gd std at0 bl n (j + 1) := by
  unfold candsF
  rw [show n - j = (n - (j + 1)) + 1 by omega, List.range'_succ, List.map_cons, List.filter_cons_of_pos (by simpa using h)]
theorem candsF_no {gd std : List Int} {at0 bl : Int} {n j : Nat} (hj : j < n) (h : ¬ ((at0 + (j : Int)) % bl ∈ gd ∧ ¬ (at0 + (j : Int)) % bl ∈ std)) : candsF gd std at0 bl n j = candsF gd std at0 bl n (j + 1) := by
  unfold candsF
  rw [show n - j = (n - (j + 1)) + 1 by omega, List.range'_succ, List.map_cons, List.filter_cons_of_neg (by simpa using h)]
def sChange (S : Chip) (T : St) (leb : Int) (d : List Nat) : Chip × St × Int :=
  if T.ready leb ≠ 0 then (S, T, T.ready leb)
  else if S.g.cap < d.length then (S, T, 2)
  else if 1000000000 < T.next then (S, T, 6)
  else match chgL leb d (candsF S.good T.stands T.at_ S.g.bl S.g.bl.toNat 0) S T with
    | (S', T', some e) => (S', T', e)
    | (S', T', none) => (S', T'.told (if S'.scanE = 70 then 70 else 6), if S'.scanE = 70 then 70 else 6)
end Go.Proofs.YtohkefolnmcjnaaGreat
