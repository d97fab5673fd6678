import Derived.Test.YtcedojacbhnbiaaGreatP24
namespace Go.Proofs.YtcedojacbhnbiaaGreat
open Go.Sl Go.RowKit
set_option linter.unusedVariables false
set_option linter.unusedSimpArgs false
set_option maxRecDepth 20000
def lZ (g : Geo) (h : Hd) (d : List Nat) : Nat → List Nat
  | 0 => iU g h
  | p + 1 => (d.drop (p * g.room.toNat)).take g.room.toNat ++ List.replicate (g.room.toNat - ((d.drop (p * g.room.toNat)).take g.room.toNat).length) 0
def dK (S : ak) (b : Int) (pg : Nat → List Nat) : Nat → ak × Int
  | 0 => (S, 0)
  | k + 1 => if (dK S b pg k).2 ≠ 0 then dK S b pg k else (dK S b pg k).1.bM b k (pg k)
def bL (S : ak) (num b aI : Int) (d : List Nat) : ak × Int :=
  if (S.bD b).2 ≠ 0 then S.bD b
  else dK (S.bD b).1 b (lZ S.g ⟨aI, d.length, num⟩ d) ((S.g.aW d.length).toNat + 1)
theorem Eh {S : ak} {b : Int} {pg : Nat → List Nat} {k : Nat} (h : (dK S b pg k).2 ≠ 0) : ∀ m, dK S b pg (k + m) = dK S b pg k
  | 0 => rfl
  | m + 1 => by rw [← Nat.add_assoc, dK, Eh h m, if_pos h]
theorem rY {g : Geo} {h : Hd} {d : List Nat} (hd : Small 256 d) : ∀ p, Small 256 (lZ g h d p)
  | 0 => oV g h
  | p + 1 => by
    unfold lZ
    intro x hx
    rcases List.mem_append.1 hx with hx | hx
    · exact Small.take (Small.drop hd) x hx
    · rw [List.eq_of_mem_replicate hx]; decide
theorem oN {g : Geo} {h : Hd} {d : List Nat} (hg : g.aF) : ∀ p, (lZ g h d p).length = g.room.toNat
  | 0 => jV hg h
  | p + 1 => by
    unfold lZ
    rw [List.length_append, List.length_replicate]
    have := List.length_take_le (g.room.toNat) (d.drop (p * g.room.toNat))
    omega
theorem FU {g : Geo} (hg : g.aF) {m k : Nat} (h : m ≤ k * g.room.toNat) : (g.aW m).toNat ≤ k := by
  have hr := Geo.jq hg
  have h1 : g.aW m < (k : Int) + 1 := by
    unfold Geo.aW
    refine Int.ediv_lt_of_lt_mul (by omega) ?_
    have : ((k * g.room.toNat : Nat) : Int) = (k : Int) * g.room := by rw [Int.natCast_mul]; congr 1; omega
    rw [Int.add_mul, Int.one_mul]
    omega
  omega
theorem Ig {g : Geo} (hg : g.aF) {m k : Nat} (h : k * g.room.toNat < m) : k < (g.aW m).toNat := by
  have hr := Geo.jq hg
  have h1 : (k : Int) + 1 ≤ g.aW m := by
    unfold Geo.aW
    refine Int.le_ediv_of_mul_le (by omega) ?_
    have : ((k * g.room.toNat : Nat) : Int) = (k : Int) * g.room := by rw [Int.natCast_mul]; congr 1; omega
    rw [Int.add_mul, Int.one_mul]
    omega
  omega
section
variable {bs bd bc : Nat} {g : Geo} {T : bI} {C : Cw} {K : World} {F : List au}
theorem Dz (hC : C.Ok) (hg : C.g = g) (hT : T.Ok g) {b aI : Int} {A : Option Addr} {m cap : Nat} {d : List Nat} (hd : Seq K F A m 1 (aB .u8 d)) (h8 : Small 256 d) (hmc : m ≤ cap) (hm : m ≤ 1000000)
    (zX : 0 ≤ aI) (hmay : Hd.may g ⟨aI, (d.length : Nat), T.next⟩ = true) : Does Tryz.prog 64 #[ptr bs 0, .int .i64 b, .int .i64 aI, .slice A m cap] K (C.A bc :: bQ bd bc g :: T.A bs bd g :: F)
    (fun v H' => ∃ C' : Cw, C'.Ok ∧ C'.g = g ∧ C'.sem = (bL C.sem T.next b aI d).1 ∧ v = .int .i64 (bL C.sem T.next b aI d).2 ∧ H' = C'.A bc :: bQ bd bc g :: T.A bs bd g :: F) := by
  have hgm : g.aF := by rw [← hg]; exact hC.aF
  have hgs : C.sem.g = g := hg
  have hrb := Geo.jq hgm
  have hdl : d.length = m := by simpa [aB] using hd.len
  obtain ⟨X, hX⟩ : ∃ X, X = bL C.sem T.next b aI d := ⟨_, rfl⟩
  rw [← hX]
  unfold bL at hX
  rw [hgs, hdl] at hX
  rw [hdl] at hmay
  obtain ⟨R, hR⟩ : ∃ R : Nat, g.room = (R : Int) := ⟨g.room.toNat, by omega⟩
  have Pb : g.room.toNat = R := by omega
  have hRb : 1 ≤ R ∧ R ≤ 4096 := by omega
  refine Does.enter Tryz.func64 rfl Tryz.ntmps64 rfl ?_
  simp only [aJ, Nat.reduceAdd]
  refine WC.sr (WL.sg rfl rfl (WL.nil (WC.seq (WC.sr (WL.mv rfl rfl (WL.nc rfl rfl (WL.val (V.fieldAddr qy (OV.p rfl)) rfl ?_)))))))
  refine WL.val (V.load Tryz.isAgg70 (OV.p rfl) (fun _ => by repeat (first | exact bI.sJ 0 _ rfl | apply Rd.up))) rfl ?_
  refine WL.mv rfl rfl (WL.call (vs := [_, _]) Tryz.call104 ⟨OV.p rfl, OV.p rfl, trivial⟩ (BA hC hg b) rfl ?_)
  rintro _ _ ⟨C1, Lf, hg1, rfl, hs1, rfl⟩
  refine WL.sg rfl rfl (WL.nil (WC.sr (WL.mv rfl rfl (WL.val (V.neq (OV.p rfl) (OV.p rfl)) rfl (WL.nil ?_)))))
  refine WC.cond rfl (fun hc0 => ?_) (fun hc0 => ?_)
  ·simp only [Bool.not_eq_true', Bool.not_eq_false', decide_eq_true_eq, decide_eq_false_iff_not] at hc0
   have h0 := hc0
   rw [if_pos h0] at hX
   refine WC.sr (WL.mv rfl rfl (WL.sg rfl rfl (WL.nil (WC.ret ?_))))
   subst hX
   exact aj.ret (H' := C1.A bc :: bQ bd bc g :: T.A bs bd g :: F) (aL.tmp rfl rfl) (fun w h => h) ⟨C1, Lf, hg1, hs1, rfl, rfl⟩
  ·simp only [Bool.not_eq_true', Bool.not_eq_false', decide_eq_true_eq, decide_eq_false_iff_not] at hc0
   have h0 := hc0
   rw [if_neg (fun h => h (by omega))] at hX
   refine WC.skip (WC.sr (WL.mv rfl rfl (WL.nc rfl rfl (WL.val (V.fieldAddr jw (OV.p rfl)) rfl ?_))))
   refine WL.val (V.aU (vs := [.int .i64 g.bl, .int .i64 g.pg, .int .i64 g.se, .int .i64 g.sb, .int .i64 g.fl]) ⟨Tryz.isAgg23, Tryz.sizeOf23⟩ (OV.p rfl) rfl (fun _ => by repeat (first | exact bI.OP | apply aT.up))) rfl ?_
   refine WL.call (vs := [_]) Tryz.call122 ⟨OV.p rfl, trivial⟩ (iH hgm) rfl ?_
   rintro _ H0 ⟨rfl, h0⟩
   subst H0
   refine WL.mv rfl rfl (WL.xt rfl rfl rfl (WL.xt rfl rfl rfl (WL.sg rfl rfl (WL.sg rfl rfl (WL.nil (WC.seq ?_))))))
   refine WC.dY (C1.A bc :: bQ bd bc g :: T.A bs bd g :: F) (by kernel_rfl) ?_
   refine WA.t 0 rfl (V.move (OV.p rfl)) (WA.t 1 rfl (V.nilCheck (OV.p rfl)) (WA.t 2 rfl (V.fieldAddr jw (OV.p rfl)) ?_))
   refine WA.t 3 rfl (V.aU (vs := [.int .i64 g.bl, .int .i64 g.pg, .int .i64 g.se, .int .i64 g.sb, .int .i64 g.fl]) ⟨Tryz.isAgg23, Tryz.sizeOf23⟩ (OV.p rfl) rfl (fun _ => by repeat (first | exact bI.OP | apply aT.up))) ?_
   refine WA.t 4 rfl (V.move (OV.p rfl)) (WA.t 5 rfl (V.move (OV.p rfl)) (WA.t 6 rfl (V.len (t := 34) Tryz.runUnderlying34 (OV.p rfl)) (WA.t 7 rfl (V.move (OV.p rfl)) (WA.t 8 rfl (V.nilCheck (OV.p rfl)) (WA.t 9 rfl (V.fieldAddr iG (OV.p rfl)) ?_)))))
   refine WA.t 10 rfl (V.load Tryz.isAgg3 (OV.p rfl) (fun _ => by repeat (first | exact bI.sJ 8 _ rfl | apply Rd.up))) ?_
   refine WA.t 11 rfl (V.build (vs := [(0, _), (1, _), (2, _)]) ⟨OV.p rfl, OV.p rfl, OV.p rfl, trivial⟩ rfl (mX _ _ _)) (WA.o 12 rfl ?_)
   refine WL.call (vs := [_, _]) Tryz.call123 ⟨OV.p rfl, OV.p rfl, trivial⟩ (sj hgm ⟨aI, (m : Nat), T.next⟩ (by show (m : Int) ≤ _; omega) zX (by show 0 ≤ T.next; have := hT.next; omega)) rfl ?_
   rintro v5 H5 h5
   obtain ⟨Ap, cp, rfl, rfl⟩ : ∃ Ap cp, v5 = .tuple #[.slice Ap g.room.toNat cp, .int .i64 0] ∧ H5 = bC (.slice Ap g.room.toNat cp) 5 1 g.room.toNat (aB .u8 (iU g ⟨aI, (m : Nat), T.next⟩)) :: C1.A bc :: bQ bd bc g :: T.A bs bd g :: F := by
     rcases h5 with ⟨_, h⟩ | ⟨h, _⟩
     · obtain ⟨Ap, cp, h⟩ := h; exact ⟨Ap, cp, h.1, h.2⟩
     · rw [hmay] at h; cases h
   refine WL.nil (WA.t 13 rfl (V.move (OV.p rfl)) (WA.t 14 rfl (V.extract (OV.p rfl) rfl) (WA.t 15 rfl (V.extract (OV.p rfl) rfl) (WA.t 16 rfl (V.assign (OV.p rfl)) (WA.t 17 rfl (V.assign (OV.p rfl)) (WA.fin (WC.sr (WL.sg rfl rfl (WL.nil (WC.block ?_))))))))))
   obtain ⟨pg, hpg⟩ : ∃ pg, pg = lZ g ⟨aI, (m : Nat), T.next⟩ d := ⟨_, rfl⟩
   obtain ⟨N, hN⟩ : ∃ N, N = (g.aW (m : Nat)).toNat := ⟨_, rfl⟩
   rw [← hpg, ← hN] at hX
   have hps : ∀ p, Small 256 (pg p) := fun p => by rw [hpg]; exact rY h8 p
   have hpl : ∀ p, (pg p).length = R := fun p => by rw [hpg, oN hgm p, Pb]
   have hpp : ∀ k, m ≤ k * R → N ≤ k := fun k h => by rw [hN]; exact FU hgm (by rw [Pb]; exact h)
   have hpn : ∀ k, k * R < m → k < N := fun k h => by rw [hN]; exact Ig hgm (by rw [Pb]; exact h)
   rw [Pb]
   refine WC.loop (σ := Cw × Nat × Option Addr × Nat × Option Addr × Nat) (fun s => [(0, ptr bs 0), (1, .int .i64 b), (3, .slice s.2.2.1 (m - s.2.1 * R) s.2.2.2.1), (10, .int .i64 (R : Int)), (12, .slice s.2.2.2.2.1 R s.2.2.2.2.2), (13, .int .i64 0), (14, .int .i64 (s.2.1 : Int))]) (fun s => bC (.slice s.2.2.2.2.1 R s.2.2.2.2.2) 5 1 R (aB .u8 (pg s.2.1)) :: s.1.A bc :: bQ bd bc g :: T.A bs bd g :: F) (fun s => s.1.Ok ∧ s.1.g = g ∧ s.2.1 ≤ N ∧ (dK (C.sem.bD b).1 b pg s.2.1).2 = 0 ∧ s.1.sem = (dK (C.sem.bD b).1 b pg s.2.1).1 ∧ Seq K F s.2.2.1 (m - s.2.1 * R) 1 (aB .u8 (d.drop (s.2.1 * R))) ∧ m - s.2.1 * R ≤ s.2.2.2.1) (fun s => N - s.2.1) (C1, 0, A, cap, Ap, cp) ⟨Lf, hg1, Nat.zero_le _, rfl, hs1, by simpa using hd, by show m - 0 * R ≤ cap; omega⟩ (.cons rfl (.cons rfl (.cons (look_eq rfl (by simp)) (.cons (look_eq rfl (by rw [hR])) (.cons rfl (.cons rfl (.cons rfl (.nil _)))))))) (fun w h => by dsimp only; rw [hpg]; exact h) ?_
   rintro ⟨C2, p, Ad, cd, Aq, cq⟩ ⟨hC2, hg2, Sk, hw0, hw1, hsd, hcd⟩
   dsimp only at hC2 hg2 Sk hw0 hw1 hsd hcd ⊢
   have hst : dK (C.sem.bD b).1 b pg (p + 1) = C2.sem.bM b p (pg p) := by rw [dK, if_neg (fun h => h hw0), ← hw1]
   refine WC.have_ (p := R ≤ cq) (fun w h => by
     obtain ⟨_, cap', hv, hle, _⟩ := bC.shape h.head
     injection hv with _ _ e3
     rw [e3]; exact hle) (fun hrq => ?_)
   refine WC.seq (WC.block (WC.seq (WC.sr (WL.mv rfl rfl (WL.val (V.eql (OV.p rfl) (OV.p rfl)) rfl (WL.nil ?_))))))
   refine WC.bU rfl (by first | rfl | (simp; done) | (simp; omega)) ?_
   refine WC.region (WL.mv rfl rfl (WL.nc rfl rfl (WL.val (V.fieldAddr qy (OV.p rfl)) rfl ?_)))
   refine WL.val (V.load Tryz.isAgg70 (OV.p rfl) (fun _ => by repeat (first | exact bI.sJ 0 _ rfl | apply Rd.up))) rfl ?_
   refine WL.mv rfl rfl (WL.mv rfl rfl (WL.mv rfl rfl ?_))
   refine WL.sub (Sub.refl _) (fun w h => h.sel 3 [1, 2, 0] rfl) ?_
   refine WL.call (vs := [_, _, _, _]) Tryz.call124 ⟨OV.p rfl, OV.p rfl, OV.p rfl, OV.p rfl, trivial⟩ (CP (d := pg p) hC2 hg2 b p (bC.seq (by rw [aH, Nat.mul_one, hpl])) (hps p) hrq (by omega)) rfl ?_
   rintro _ _ ⟨C3, Oa, hg3, rfl, hs3, rfl⟩
   rw [← hst] at hs3 ⊢
   refine WL.sg rfl rfl (WL.nil (WC.seq (WC.sr (WL.mv rfl rfl (WL.val (V.neq (OV.p rfl) (OV.p rfl)) rfl (WL.mv rfl rfl (WL.ah (oj := _) rfl rfl rfl GC.f (V.move (OV.p rfl)) rfl (WL.ah (oj := _) rfl rfl rfl GC.f (V.len (t := 34) Tryz.runUnderlying34 (OV.g rfl id)) rfl (WL.ah (oj := _) rfl rfl rfl GC.f (V.eql (OV.g rfl id) (OV.p rfl)) rfl (WL.val (V.aS (OV.p rfl) (OV.g rfl id)) rfl (WL.nil ?_)))))))))))
   refine WC.cond rfl (fun hc2 => ?_) (fun hc2 => ?_)
   ·simp only [Bool.or_eq_true, Bool.or_eq_false_iff, Bool.not_eq_true', Bool.not_eq_false', decide_eq_true_eq, decide_eq_false_iff_not] at hc2
    have h2 := hc2
    have hend : dK (C.sem.bD b).1 b pg (N + 1) = dK (C.sem.bD b).1 b pg (p + 1) := by
      by_cases he : (dK (C.sem.bD b).1 b pg (p + 1)).2 = 0
      · have h3 : ((m - p * R : Nat) : Int) = 0 := by rcases h2 with h | h; exact absurd he h; exact h
        have h4 := hpp p (by omega)
        rw [show p = N by omega]
      · have := Eh he (N - p)
        rw [show p + 1 + (N - p) = N + 1 by omega] at this
        exact this
    rw [hend] at hX
    refine WC.sr (WL.mv rfl rfl (WL.sg rfl rfl (WL.nil (WC.ret ?_))))
    subst hX
    exact aj.ret (H' := C3.A bc :: bQ bd bc g :: T.A bs bd g :: F) (aL.tmp rfl rfl) (fun w h => h.sel 4 [0, 1, 3] rfl) ⟨C3, Oa, hg3, hs3, rfl, rfl⟩
   ·simp only [Bool.or_eq_true, Bool.or_eq_false_iff, Bool.not_eq_true', Bool.not_eq_false', decide_eq_true_eq, decide_eq_false_iff_not] at hc2
    have h2 := hc2
    have he : (dK (C.sem.bD b).1 b pg (p + 1)).2 = 0 := by have := h2.1; omega
    have hpm : p * R < m := by have := h2.2; omega
    have Pz := hpn p hpm
    obtain ⟨q, hq⟩ : ∃ q, q = min R (m - p * R) := ⟨_, rfl⟩
    have hsn := Seq.DN hsd (show q ≤ m - p * R by omega) hcd
    rw [mg, List.drop_drop] at hsn
    have yE := Seq.take hsd (show q ≤ m - p * R by omega)
    rw [fZ] at yE
    have hs2 : (p + 1) * R = p * R + R := Nat.succ_mul _ _
    have hpb := Nat.le_mul_of_pos_right p (show 0 < R by omega)
    have Ql : pg (p + 1) = (d.drop (p * R)).take q ++ List.replicate (R - q) 0 := by
      rw [hpg]
      show (d.drop (p * g.room.toNat)).take g.room.toNat ++ List.replicate (g.room.toNat - ((d.drop (p * g.room.toNat)).take g.room.toNat).length) 0 = _
      rw [Pb, List.length_take, List.length_drop, hdl, ← hq]
      have : (d.drop (p * R)).take R = (d.drop (p * R)).take q := by
        have h9 : q = min R (d.drop (p * R)).length := by rw [List.length_drop, hdl]; exact hq
        rw [h9, ← List.take_eq_take_min]
      rw [this]
    refine WC.skip (WC.sr (WL.mv rfl rfl (WL.mv rfl rfl (WL.val (V.len (t := 34) Tryz.runUnderlying34 (OV.p rfl)) rfl ?_))))
    refine WL.val (V.aA (v' := .int .i64 (q : Int)) (V.min (OV.p rfl) (OV.p rfl)) (fun _ => by rw [hq]; refine congrArg (Value.int .i64) ?_; omega)) rfl ?_
    refine WL.sg rfl rfl (WL.nil (WC.sr (WL.mv rfl rfl (WL.mv rfl rfl ?_))))
    refine WL.val (V.aA (v' := .slice Ad q cd) (V.slice (l := 0) (h := q) (u := cd) dB (OV.p rfl) OO.none (OO.some (OV.p rfl) (fun _ => rfl)) OO.none (by simp) (Nat.zero_le _) (by omega) (Nat.le_refl _)) (fun _ => by rw [Nat.sub_zero, Nat.sub_zero, Ic])) rfl ?_
    refine WL.call (vs := [_]) Tryz.call125 ⟨OV.p rfl, trivial⟩ (rP (by repeat (first | exact yE | apply Seq.up)) (by omega)) rfl ?_
    rintro _ _ ⟨A1, c1, rfl, rfl⟩
    refine WL.mv rfl rfl (WL.mv rfl rfl (WL.sb rfl rfl rfl ?_))
    refine WL.Cv (m := q) (q := R - q) Tryz.underlying34 Tryz.underlying3 vP rfl rfl (OV.p rfl) (OV.p rfl) (by omega) (by omega) (by omega) rfl (fun A5 c5 KM pI => ?_)
    refine WL.sg rfl rfl (WL.nil (WC.region (WL.mv rfl rfl (WL.mv rfl rfl ?_))))
    refine WL.val (V.slice (l := q) (h := m - p * R) (u := cd) dB (OV.p rfl) (OO.some (OV.p rfl) (fun _ => rfl)) OO.none OO.none (by simp) (by omega) (by omega) (Nat.le_refl _)) rfl ?_
    refine WL.sg rfl rfl (WL.nil (WC.region (WL.mv rfl rfl (WL.ad rfl rfl rfl ?_))))
    refine WL.sg rfl rfl (WL.nil ?_)
    refine ⟨rfl, ?_⟩
    have e1 : q + (R - q) = R := by omega
    have e2 : m - p * R - q = m - (p + 1) * R := by omega
    refine ⟨(C3, p + 1, (if cd = q then Ad else Ad.map (·.add (q * 1))), cd - q, A5, c5), ⟨Oa, hg3, Pz, he, hs3, ?_, ?_⟩, (by show N - (p + 1) < N - p; omega), .cons rfl (.cons rfl (.cons (look_eq rfl (by dsimp only; rw [e2])) (.cons rfl (.cons (look_eq rfl (by dsimp only; rw [e1])) (.cons (look_eq rfl (by rw [he])) (.cons (look_eq rfl (by simp)) (.nil _))))))), fun w h => ?_⟩
    · dsimp only
      rw [e2] at hsn
      have e3 : d.drop (p * R + q) = d.drop ((p + 1) * R) := by
        by_cases SE : R ≤ m - p * R
        · rw [show p * R + q = (p + 1) * R by omega]
        · rw [List.drop_eq_nil_of_le (by omega), List.drop_eq_nil_of_le (by omega)]
      rw [e3] at hsn
      exact hsn
    · show m - (p + 1) * R ≤ cd - q
      omega
    · dsimp only
      rw [Ql, dx, dh]
      rw [e1] at h
      exact h.sel 5 [0, 1, 2, 4] rfl
end
theorem aQ.all {K : World} {l l' H : List au} {b o : Nat} {vs : List Value} (h : aQ K (l ++ H) b o vs (l' ++ H)) : aQ K (bH l :: H) b o vs (bH l' :: H) := by
  have conv : ∀ (L : List au) (k : Nat), (∃ B ∈ L ++ H, B.foot k) → ∃ B ∈ bH L :: H, B.foot k := fun L k ⟨B, hB, hf⟩ => by
    rcases List.mem_append.1 hB with hB | hB
    · exact ⟨bH L, .head _, B, hB, hf⟩
    · exact ⟨B, .tail _ hB, hf⟩
  refine ⟨fun B' hB' k hk => ?_, conv l b h.own, fun w hw => h.may w (bA.all.1 hw), fun w hw => bA.all.2 (h.sat w (bA.all.1 hw))⟩
  rcases List.mem_cons.1 hB' with rfl | hB'
  · obtain ⟨A, hA, hf⟩ := hk
    exact conv l k (h.M9 A (List.mem_append_left _ hA) k hf)
  · exact ⟨B', .tail _ hB', hk⟩
theorem aQ.R6 {K : World} {H : List au} {gb o m cap E : Nat} {cs : List Value} {v : Value} (ho : o < m) : aQ K (bC (.slice (some ⟨gb, 0, none⟩) m cap) E 1 m cs :: H) gb o [v] (bC (.slice (some ⟨gb, 0, none⟩) m cap) E 1 m (cs.set o v) :: H) := by
  have hsm : ∀ w : World, Same w w := fun w => ⟨rfl, rfl, rfl, Nat.le_refl _⟩
  refine ⟨fun B' hB' k hk => ?_, ⟨_, .head _, rfl⟩, fun w hw => ?_, fun w hw => ?_⟩
  · rcases List.mem_cons.1 hB' with rfl | h
    · exact ⟨_, .head _, hk⟩
    · exact ⟨_, .tail _ h, hk⟩
  · obtain ⟨r, ⟨h1, h2, h3, h4⟩, h5⟩ := Sat.lg (K := w) ⟨hsm w, hw⟩
    exact (aQ.at_ (K := w) (T := E) (cs := cs ++ r) (v := v) (by rw [List.length_append]; omega)).may w h5.2
  · obtain ⟨r, ⟨h1, h2, h3, h4⟩, h5⟩ := Sat.lg (K := w) ⟨hsm w, hw⟩
    have h6 := (aQ.at_ (K := w) (H := H) (b := gb) (T := E) (o := o) (cs := cs ++ r) (v := v) (by rw [List.length_append]; omega)).sat w h5.2
    have h7 := Sat.Dc (K := w.setCells gb o [v]) (s := 1) (m := m) (cap := cap) ⟨hsm _, h6⟩ (by rw [List.length_set]; exact h1) h3 h4
    rw [List.set_append_left _ _ (by omega), Nat.mul_one, List.take_left' (by rw [List.length_set]; omega)] at h7
    exact h7.2
section
variable {bs bd bc : Nat} {g : Geo} {K : World} {F : List au}
theorem bI.LJ (T : bI) (x : Int) : aQ K (T.A bs bd g :: F) bs 8 [.int .i64 x] (bI.A bs bd g { T with next := x } :: F) := aQ.all (l := bI.parts bs bd g T) (l' := bI.parts bs bd g { T with next := x }) (aQ.here rfl rfl)
theorem bI.NM (T : bI) (x : Int) : aQ K (T.A bs bd g :: F) bs 9 [.int .i64 x] (bI.A bs bd g { T with at_ := x } :: F) := aQ.all (l := bI.parts bs bd g T) (l' := bI.parts bs bd g { T with at_ := x }) (aQ.here rfl rfl)
theorem bI.Ns {T : bI} {g1 i : Nat} (hA : T.sA = some ⟨g1, 0, none⟩) (hi : i < T.stands.length) (x : Int) : aQ K (T.A bs bd g :: F) g1 i [.int .i64 x] (bI.A bs bd g { T with stands := T.stands.set i x } :: F) := by
  refine aQ.all (l := bI.parts bs bd g T) (l' := bI.parts bs bd g { T with stands := T.stands.set i x }) ?_
  obtain ⟨stands, sA, sc, b8, dD, nx, at', dd⟩ := T
  dsimp only at hA hi ⊢
  subst hA
  unfold bI.parts bI.cells bI.sl
  dsimp only
  rw [List.length_set]
  refine aQ.up ?_
  have h1 := aQ.R6 (K := K) (H := [Cells b8 124 (dD.map bg.v), bH (dD.map bg.row)] ++ F) (gb := g1) (cap := sc) (E := 3) (cs := ints .i64 stands) (v := .int .i64 x) hi
  have h2 : (ints .i64 stands).set i (.int .i64 x) = ints .i64 (stands.set i x) := by unfold ints; rw [List.map_set]
  rw [h2] at h1
  exact h1
theorem bI.K4 {T : bI} (h0 : 0 < T.stands.length) {w : World} (h : Sat K w (T.A bs bd g :: F)) : ∃ g1, T.sA = some ⟨g1, 0, none⟩ := by
  have h1 : Sat K w (bI.parts bs bd g T ++ F) := h.vX
  have h2 : Sat K w (T.sl :: Cells bs 127 (T.cells bd g) :: Cells T.b8 124 (T.dD.map bg.v) :: bH (T.dD.map bg.row) :: F) := h1.p1
  cases hA : T.sA with
  | none =>
    unfold bI.sl at h2
    rw [hA] at h2
    have := (bC.vQ h2).1
    omega
  | some a =>
    unfold bI.sl at h2
    rw [hA] at h2
    obtain ⟨g1, rfl⟩ := bC.addr h2
    exact ⟨g1, rfl⟩
end
def St.mark (T : St) (aI : Int) : St := if 0 ≤ T.at' aI then { T with stale := T.stale.set aI.toNat (T.stale.getD aI.toNat [] ++ [T.at' aI]) } else T
def St.done (T : St) (aI b bl : Int) : St := { T with stands := T.stands.set aI.toNat b, next := T.next + 1, at_ := (b + 1) % bl }
def zI (aI : Int) (d : List Nat) (S : ak) (T : St) (b : Int) : ak × St × Option Int :=
  if (bL S T.next b aI d).2 = 72 then ((bL S T.next b aI d).1, { T.forget b with next := min (T.next + 1) 1000000001 }, if 1000000000 < min (T.next + 1) 1000000001 then some 6 else none)
  else if (bL S T.next b aI d).2 ≠ 0 then ((bL S T.next b aI d).1, (T.forget b).told (bL S T.next b aI d).2, some (bL S T.next b aI d).2)
  else ((bL S T.next b aI d).1, ((T.forget b).mark aI).done aI b S.g.bl, some 0)
def gq (aI : Int) (d : List Nat) : List Int → ak → St → ak × St × Option Int
  | [], S, T => (S, T, none)
  | b :: bs, S, T => if (zI aI d S T b).2.2 = none then gq aI d bs (zI aI d S T b).1 (zI aI d S T b).2.1 else zI aI d S T b
def ig (gd std : List Int) (wQ bl : Int) (n j : Nat) : List Int := ((List.range' j (n - j)).map fun (i : Nat) => (wQ + (i : Int)) % bl).filter fun b => decide (b ∈ gd ∧ ¬ b ∈ std)
theorem Gq {gd std : List Int} {wQ bl : Int} {n : Nat} : ig gd std wQ bl n n = [] := by unfold ig; rw [Nat.sub_self]; rfl
theorem Gb {gd std : List Int} {wQ bl : Int} {n j : Nat} (hj : j < n) (h : (wQ + (j : Int)) % bl ∈ gd ∧ ¬ (wQ + (j : Int)) % bl ∈ std) : ig gd std wQ bl n j = (wQ + (j : Int)) % bl :: ig gd std wQ bl n (j + 1) := by
  unfold ig
  rw [show n - j = (n - (j + 1)) + 1 by omega, List.range'_succ, List.map_cons, List.filter_cons_of_pos (by simpa using h)]
theorem Ia {gd std : List Int} {wQ bl : Int} {n j : Nat} (hj : j < n) (h : ¬ ((wQ + (j : Int)) % bl ∈ gd ∧ ¬ (wQ + (j : Int)) % bl ∈ std)) : ig gd std wQ bl n j = ig gd std wQ bl n (j + 1) := by
  unfold ig
  rw [show n - j = (n - (j + 1)) + 1 by omega, List.range'_succ, List.map_cons, List.filter_cons_of_neg (by simpa using h)]
def aX (S : ak) (T : St) (aI : Int) (d : List Nat) : ak × St × Int :=
  if T.ready aI ≠ 0 then (S, T, T.ready aI)
  else if S.g.cap < d.length then (S, T, 2)
  else if 1000000000 < T.next then (S, T, 6)
  else match gq aI d (ig S.good T.stands T.at_ S.g.bl S.g.bl.toNat 0) S T with
    | (S', T', some e) => (S', T', e)
    | (S', T', none) => (S', T'.told (if S'.jF = 70 then 70 else 6), if S'.jF = 70 then 70 else 6)
end Go.Proofs.YtcedojacbhnbiaaGreat
