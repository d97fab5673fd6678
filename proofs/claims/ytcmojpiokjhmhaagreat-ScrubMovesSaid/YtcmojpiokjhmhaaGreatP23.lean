import Derived.Test.YtcmojpiokjhmhaaGreatP22
namespace Go.Proofs.YtcmojpiokjhmhaaGreat
open Go.Sl Go.RowKit
set_option linter.unusedVariables false
set_option linter.unusedSimpArgs false
set_option maxRecDepth 20000
def kK (g : Geo) (h : Hd) (d : List Nat) : Nat → List Nat
  | 0 => gP g h
  | p + 1 => (d.drop (p * g.room.toNat)).take g.room.toNat ++ List.replicate (g.room.toNat - ((d.drop (p * g.room.toNat)).take g.room.toNat).length) 0
def dL (S : ah) (b : Int) (pg : Nat → List Nat) : Nat → ah × Int
  | 0 => (S, 0)
  | k + 1 => if (dL S b pg k).2 ≠ 0 then dL S b pg k else (dL S b pg k).1.bO b k (pg k)
def bM (S : ah) (num b aB : Int) (d : List Nat) : ah × Int :=
  if (S.aM b).2 ≠ 0 then S.aM b
  else dL (S.aM b).1 b (kK S.g ⟨aB, d.length, num⟩ d) ((S.g.aW d.length).toNat + 1)
theorem F8 {S : ah} {b : Int} {pg : Nat → List Nat} {k : Nat} (h : (dL S b pg k).2 ≠ 0) : ∀ m, dL S b pg (k + m) = dL S b pg k
  | 0 => rfl
  | m + 1 => by rw [← Nat.add_assoc, dL, F8 h m, if_pos h]
theorem tY {g : Geo} {h : Hd} {d : List Nat} (hd : Small 256 d) : ∀ p, Small 256 (kK g h d p)
  | 0 => pK g h
  | p + 1 => by
    unfold kK
    intro x hx
    rcases List.mem_append.1 hx with hx | hx
    · exact Small.take (Small.drop hd) x hx
    · rw [List.eq_of_mem_replicate hx]; decide
theorem mD {g : Geo} {h : Hd} {d : List Nat} (hg : g.aD) : ∀ p, (kK g h d p).length = g.room.toNat
  | 0 => kP hg h
  | p + 1 => by
    unfold kK
    rw [List.length_append, List.length_replicate]
    have := List.length_take_le (g.room.toNat) (d.drop (p * g.room.toNat))
    omega
theorem GI {g : Geo} (hg : g.aD) {m k : Nat} (h : m ≤ k * g.room.toNat) : (g.aW m).toNat ≤ k := by
  have hr := Geo.iQ hg
  have h1 : g.aW m < (k : Int) + 1 := by
    unfold Geo.aW
    refine Int.ediv_lt_of_lt_mul (by omega) ?_
    have : ((k * g.room.toNat : Nat) : Int) = (k : Int) * g.room := by rw [Int.natCast_mul]; congr 1; omega
    rw [Int.add_mul, Int.one_mul]
    omega
  omega
theorem JN {g : Geo} (hg : g.aD) {m k : Nat} (h : k * g.room.toNat < m) : k < (g.aW m).toNat := by
  have hr := Geo.iQ hg
  have h1 : (k : Int) + 1 ≤ g.aW m := by
    unfold Geo.aW
    refine Int.le_ediv_of_mul_le (by omega) ?_
    have : ((k * g.room.toNat : Nat) : Int) = (k : Int) * g.room := by rw [Int.natCast_mul]; congr 1; omega
    rw [Int.add_mul, Int.one_mul]
    omega
  omega
section
variable {bs bd bc : Nat} {g : Geo} {T : bC} {C : Cw} {K : World} {F : List ak}
theorem Fz (hC : C.Ok) (hg : C.g = g) (hT : T.Ok g) {b aB : Int} {A : Option Addr} {m cap : Nat} {d : List Nat} (hd : Seq K F A m 1 (aA .u8 d)) (h8 : Small 256 d) (hmc : m ≤ cap) (hm : m ≤ 1000000)
    (BP : 0 ≤ aB) (hmay : Hd.may g ⟨aB, (d.length : Nat), T.next⟩ = true) : Does Tryz.prog 54 #[ptr bs 0, .int .i64 b, .int .i64 aB, .slice A m cap] K (C.A bc :: bK bd bc g :: T.A bs bd g :: F)
    (fun v H' => ∃ C' : Cw, C'.Ok ∧ C'.g = g ∧ C'.sem = (bM C.sem T.next b aB d).1 ∧ v = .int .i64 (bM C.sem T.next b aB d).2 ∧ H' = C'.A bc :: bK bd bc g :: T.A bs bd g :: F) := by
  have hgm : g.aD := by rw [← hg]; exact hC.aD
  have hgs : C.sem.g = g := hg
  have hrb := Geo.iQ hgm
  have hdl : d.length = m := by simpa [aA] using hd.len
  obtain ⟨X, hX⟩ : ∃ X, X = bM C.sem T.next b aB d := ⟨_, rfl⟩
  rw [← hX]
  unfold bM at hX
  rw [hgs, hdl] at hX
  rw [hdl] at hmay
  obtain ⟨R, hR⟩ : ∃ R : Nat, g.room = (R : Int) := ⟨g.room.toNat, by omega⟩
  have Qu : g.room.toNat = R := by omega
  have hRb : 1 ≤ R ∧ R ≤ 4096 := by omega
  refine Does.enter Tryz.func54 rfl Tryz.ntmps54 rfl ?_
  simp only [aI, Nat.reduceAdd]
  refine WC.sr (WL.sg rfl rfl (WL.nil (WC.seq (WC.sr (WL.mv rfl rfl (WL.nc rfl rfl (WL.val (V.fieldAddr sU (OV.p rfl)) rfl ?_)))))))
  refine WL.val (V.load Tryz.isAgg58 (OV.p rfl) (fun _ => by repeat (first | exact bC.sK 0 _ rfl | apply Rd.up))) rfl ?_
  refine WL.mv rfl rfl (WL.call (vs := [_, _]) Tryz.call58 ⟨OV.p rfl, OV.p rfl, trivial⟩ (uY hC hg b) rfl ?_)
  rintro _ _ ⟨C1, Ir, hg1, rfl, hs1, rfl⟩
  refine WL.sg rfl rfl (WL.nil (WC.sr (WL.mv rfl rfl (WL.val (V.neq (OV.p rfl) (OV.p rfl)) rfl (WL.nil ?_)))))
  refine WC.cond rfl (fun hc0 => ?_) (fun hc0 => ?_)
  ·simp only [Bool.not_eq_true', Bool.not_eq_false', decide_eq_true_eq, decide_eq_false_iff_not] at hc0
   have h0 := hc0
   rw [if_pos h0] at hX
   refine WC.sr (WL.mv rfl rfl (WL.sg rfl rfl (WL.nil (WC.ret ?_))))
   subst hX
   exact au.ret (H' := C1.A bc :: bK bd bc g :: T.A bs bd g :: F) (aO.tmp rfl rfl) (fun w h => h) ⟨C1, Ir, hg1, hs1, rfl, rfl⟩
  ·simp only [Bool.not_eq_true', Bool.not_eq_false', decide_eq_true_eq, decide_eq_false_iff_not] at hc0
   have h0 := hc0
   rw [if_neg (fun h => h (by omega))] at hX
   refine WC.skip (WC.sr (WL.mv rfl rfl (WL.nc rfl rfl (WL.val (V.fieldAddr mP (OV.p rfl)) rfl ?_))))
   refine WL.val (V.bB (vs := [.int .i64 g.bl, .int .i64 g.pg, .int .i64 g.se, .int .i64 g.sb, .int .i64 g.fl]) ⟨Tryz.isAgg23, Tryz.sizeOf23⟩ (OV.p rfl) rfl (fun _ => by repeat (first | exact bC.P6 | apply bD.up))) rfl ?_
   refine WL.call (vs := [_]) Tryz.call80 ⟨OV.p rfl, trivial⟩ (iZ hgm) rfl ?_
   rintro _ H0 ⟨rfl, h0⟩
   subst H0
   refine WL.mv rfl rfl (WL.xt rfl rfl rfl (WL.xt rfl rfl rfl (WL.sg rfl rfl (WL.sg rfl rfl (WL.nil (WC.seq ?_))))))
   refine WC.dR (C1.A bc :: bK bd bc g :: T.A bs bd g :: F) (by kernel_rfl) ?_
   refine WA.t 0 rfl (V.move (OV.p rfl)) (WA.t 1 rfl (V.nilCheck (OV.p rfl)) (WA.t 2 rfl (V.fieldAddr mP (OV.p rfl)) ?_))
   refine WA.t 3 rfl (V.bB (vs := [.int .i64 g.bl, .int .i64 g.pg, .int .i64 g.se, .int .i64 g.sb, .int .i64 g.fl]) ⟨Tryz.isAgg23, Tryz.sizeOf23⟩ (OV.p rfl) rfl (fun _ => by repeat (first | exact bC.P6 | apply bD.up))) ?_
   refine WA.t 4 rfl (V.move (OV.p rfl)) (WA.t 5 rfl (V.move (OV.p rfl)) (WA.t 6 rfl (V.len (t := 43) Tryz.runUnderlying43 (OV.p rfl)) (WA.t 7 rfl (V.move (OV.p rfl)) (WA.t 8 rfl (V.nilCheck (OV.p rfl)) (WA.t 9 rfl (V.fieldAddr kD (OV.p rfl)) ?_)))))
   refine WA.t 10 rfl (V.load Tryz.isAgg3 (OV.p rfl) (fun _ => by repeat (first | exact bC.sK 8 _ rfl | apply Rd.up))) ?_
   refine WA.t 11 rfl (V.build (vs := [(0, _), (1, _), (2, _)]) ⟨OV.p rfl, OV.p rfl, OV.p rfl, trivial⟩ rfl (nW _ _ _)) (WA.o 12 rfl ?_)
   refine WL.call (vs := [_, _]) Tryz.call85 ⟨OV.p rfl, OV.p rfl, trivial⟩ (tO hgm ⟨aB, (m : Nat), T.next⟩ (by show (m : Int) ≤ _; omega) BP (by show 0 ≤ T.next; have := hT.next; omega)) rfl ?_
   rintro v5 H5 h5
   obtain ⟨Ap, cp, rfl, rfl⟩ : ∃ Ap cp, v5 = .tuple #[.slice Ap g.room.toNat cp, .int .i64 0] ∧ H5 = aU (.slice Ap g.room.toNat cp) 5 1 g.room.toNat (aA .u8 (gP g ⟨aB, (m : Nat), T.next⟩)) :: C1.A bc :: bK bd bc g :: T.A bs bd g :: F := by
     rcases h5 with ⟨_, h⟩ | ⟨h, _⟩
     · obtain ⟨Ap, cp, h⟩ := h; exact ⟨Ap, cp, h.1, h.2⟩
     · rw [hmay] at h; cases h
   refine WL.nil (WA.t 13 rfl (V.move (OV.p rfl)) (WA.t 14 rfl (V.extract (OV.p rfl) rfl) (WA.t 15 rfl (V.extract (OV.p rfl) rfl) (WA.t 16 rfl (V.assign (OV.p rfl)) (WA.t 17 rfl (V.assign (OV.p rfl)) (WA.fin (WC.sr (WL.sg rfl rfl (WL.nil (WC.block ?_))))))))))
   obtain ⟨pg, hpg⟩ : ∃ pg, pg = kK g ⟨aB, (m : Nat), T.next⟩ d := ⟨_, rfl⟩
   obtain ⟨N, hN⟩ : ∃ N, N = (g.aW (m : Nat)).toNat := ⟨_, rfl⟩
   rw [← hpg, ← hN] at hX
   have hps : ∀ p, Small 256 (pg p) := fun p => by rw [hpg]; exact tY h8 p
   have hpl : ∀ p, (pg p).length = R := fun p => by rw [hpg, mD hgm p, Qu]
   have hpp : ∀ k, m ≤ k * R → N ≤ k := fun k h => by rw [hN]; exact GI hgm (by rw [Qu]; exact h)
   have hpn : ∀ k, k * R < m → k < N := fun k h => by rw [hN]; exact JN hgm (by rw [Qu]; exact h)
   rw [Qu]
   refine WC.loop (σ := Cw × Nat × Option Addr × Nat × Option Addr × Nat) (fun s => [(0, ptr bs 0), (1, .int .i64 b), (3, .slice s.2.2.1 (m - s.2.1 * R) s.2.2.2.1), (10, .int .i64 (R : Int)), (12, .slice s.2.2.2.2.1 R s.2.2.2.2.2), (13, .int .i64 0), (14, .int .i64 (s.2.1 : Int))]) (fun s => aU (.slice s.2.2.2.2.1 R s.2.2.2.2.2) 5 1 R (aA .u8 (pg s.2.1)) :: s.1.A bc :: bK bd bc g :: T.A bs bd g :: F) (fun s => s.1.Ok ∧ s.1.g = g ∧ s.2.1 ≤ N ∧ (dL (C.sem.aM b).1 b pg s.2.1).2 = 0 ∧ s.1.sem = (dL (C.sem.aM b).1 b pg s.2.1).1 ∧ Seq K F s.2.2.1 (m - s.2.1 * R) 1 (aA .u8 (d.drop (s.2.1 * R))) ∧ m - s.2.1 * R ≤ s.2.2.2.1) (fun s => N - s.2.1) (C1, 0, A, cap, Ap, cp) ⟨Ir, hg1, Nat.zero_le _, rfl, hs1, by simpa using hd, by show m - 0 * R ≤ cap; omega⟩ (.cons rfl (.cons rfl (.cons (look_eq rfl (by simp)) (.cons (look_eq rfl (by rw [hR])) (.cons rfl (.cons rfl (.cons rfl (.nil _)))))))) (fun w h => by dsimp only; rw [hpg]; exact h) ?_
   rintro ⟨C2, p, Ad, cd, Aq, cq⟩ ⟨hC2, hg2, Uk, hw0, hw1, hsd, hcd⟩
   dsimp only at hC2 hg2 Uk hw0 hw1 hsd hcd ⊢
   have hst : dL (C.sem.aM b).1 b pg (p + 1) = C2.sem.bO b p (pg p) := by rw [dL, if_neg (fun h => h hw0), ← hw1]
   refine WC.have_ (p := R ≤ cq) (fun w h => by
     obtain ⟨_, cap', hv, hle, _⟩ := aU.shape h.head
     injection hv with _ _ e3
     rw [e3]; exact hle) (fun hrq => ?_)
   refine WC.seq (WC.block (WC.seq (WC.sr (WL.mv rfl rfl (WL.val (V.eql (OV.p rfl) (OV.p rfl)) rfl (WL.nil ?_))))))
   refine WC.dV rfl (by first | rfl | (simp; done) | (simp; omega)) ?_
   refine WC.region (WL.mv rfl rfl (WL.nc rfl rfl (WL.val (V.fieldAddr sU (OV.p rfl)) rfl ?_)))
   refine WL.val (V.load Tryz.isAgg58 (OV.p rfl) (fun _ => by repeat (first | exact bC.sK 0 _ rfl | apply Rd.up))) rfl ?_
   refine WL.mv rfl rfl (WL.mv rfl rfl (WL.mv rfl rfl ?_))
   refine WL.sub (Sub.refl _) (fun w h => h.sel 3 [1, 2, 0] rfl) ?_
   refine WL.call (vs := [_, _, _, _]) Tryz.call86 ⟨OV.p rfl, OV.p rfl, OV.p rfl, OV.p rfl, trivial⟩ (Ee (d := pg p) hC2 hg2 b p (aU.seq (by rw [aH, Nat.mul_one, hpl])) (hps p) hrq (by omega)) rfl ?_
   rintro _ _ ⟨C3, Kr, hg3, rfl, hs3, rfl⟩
   rw [← hst] at hs3 ⊢
   refine WL.sg rfl rfl (WL.nil (WC.seq (WC.sr (WL.mv rfl rfl (WL.val (V.neq (OV.p rfl) (OV.p rfl)) rfl (WL.mv rfl rfl (WL.av (oj := _) rfl rfl rfl GC.f (V.move (OV.p rfl)) rfl (WL.av (oj := _) rfl rfl rfl GC.f (V.len (t := 43) Tryz.runUnderlying43 (OV.g rfl id)) rfl (WL.av (oj := _) rfl rfl rfl GC.f (V.eql (OV.g rfl id) (OV.p rfl)) rfl (WL.val (V.bH (OV.p rfl) (OV.g rfl id)) rfl (WL.nil ?_)))))))))))
   refine WC.cond rfl (fun hc2 => ?_) (fun hc2 => ?_)
   ·simp only [Bool.or_eq_true, Bool.or_eq_false_iff, Bool.not_eq_true', Bool.not_eq_false', decide_eq_true_eq, decide_eq_false_iff_not] at hc2
    have h2 := hc2
    have hend : dL (C.sem.aM b).1 b pg (N + 1) = dL (C.sem.aM b).1 b pg (p + 1) := by
      by_cases he : (dL (C.sem.aM b).1 b pg (p + 1)).2 = 0
      · have h3 : ((m - p * R : Nat) : Int) = 0 := by rcases h2 with h | h; exact absurd he h; exact h
        have h4 := hpp p (by omega)
        rw [show p = N by omega]
      · have := F8 he (N - p)
        rw [show p + 1 + (N - p) = N + 1 by omega] at this
        exact this
    rw [hend] at hX
    refine WC.sr (WL.mv rfl rfl (WL.sg rfl rfl (WL.nil (WC.ret ?_))))
    subst hX
    exact au.ret (H' := C3.A bc :: bK bd bc g :: T.A bs bd g :: F) (aO.tmp rfl rfl) (fun w h => h.sel 4 [0, 1, 3] rfl) ⟨C3, Kr, hg3, hs3, rfl, rfl⟩
   ·simp only [Bool.or_eq_true, Bool.or_eq_false_iff, Bool.not_eq_true', Bool.not_eq_false', decide_eq_true_eq, decide_eq_false_iff_not] at hc2
    have h2 := hc2
    have he : (dL (C.sem.aM b).1 b pg (p + 1)).2 = 0 := by have := h2.1; omega
    have hpm : p * R < m := by have := h2.2; omega
    have Sq := hpn p hpm
    obtain ⟨q, hq⟩ : ∃ q, q = min R (m - p * R) := ⟨_, rfl⟩
    have hsn := Seq.Gm hsd (show q ≤ m - p * R by omega) hcd
    rw [ni, List.drop_drop] at hsn
    have qO := Seq.take hsd (show q ≤ m - p * R by omega)
    rw [gG] at qO
    have hs2 : (p + 1) * R = p * R + R := Nat.succ_mul _ _
    have hpb := Nat.le_mul_of_pos_right p (show 0 < R by omega)
    have RJ : pg (p + 1) = (d.drop (p * R)).take q ++ List.replicate (R - q) 0 := by
      rw [hpg]
      show (d.drop (p * g.room.toNat)).take g.room.toNat ++ List.replicate (g.room.toNat - ((d.drop (p * g.room.toNat)).take g.room.toNat).length) 0 = _
      rw [Qu, List.length_take, List.length_drop, hdl, ← hq]
      have : (d.drop (p * R)).take R = (d.drop (p * R)).take q := by
        have h9 : q = min R (d.drop (p * R)).length := by rw [List.length_drop, hdl]; exact hq
        rw [h9, ← List.take_eq_take_min]
      rw [this]
    refine WC.skip (WC.sr (WL.mv rfl rfl (WL.mv rfl rfl (WL.val (V.len (t := 43) Tryz.runUnderlying43 (OV.p rfl)) rfl ?_))))
    refine WL.val (V.aC (v' := .int .i64 (q : Int)) (V.min (OV.p rfl) (OV.p rfl)) (fun _ => by rw [hq]; refine congrArg (Value.int .i64) ?_; omega)) rfl ?_
    refine WL.sg rfl rfl (WL.nil (WC.sr (WL.mv rfl rfl (WL.mv rfl rfl ?_))))
    refine WL.val (V.aC (v' := .slice Ad q cd) (V.slice (l := 0) (h := q) (u := cd) fE (OV.p rfl) OO.none (OO.some (OV.p rfl) (fun _ => rfl)) OO.none (by simp) (Nat.zero_le _) (by omega) (Nat.le_refl _)) (fun _ => by rw [Nat.sub_zero, Nat.sub_zero, Jr])) rfl ?_
    refine WL.call (vs := [_]) Tryz.call87 ⟨OV.p rfl, trivial⟩ (tJ (by repeat (first | exact qO | apply Seq.up)) (by omega)) rfl ?_
    rintro _ _ ⟨A1, c1, rfl, rfl⟩
    refine WL.mv rfl rfl (WL.mv rfl rfl (WL.sb rfl rfl rfl ?_))
    refine WL.Dj (m := q) (q := R - q) Tryz.underlying43 Tryz.underlying3 yD rfl rfl (OV.p rfl) (OV.p rfl) (by omega) (by omega) (by omega) rfl (fun A5 c5 EJ ny => ?_)
    refine WL.sg rfl rfl (WL.nil (WC.region (WL.mv rfl rfl (WL.mv rfl rfl ?_))))
    refine WL.val (V.slice (l := q) (h := m - p * R) (u := cd) fE (OV.p rfl) (OO.some (OV.p rfl) (fun _ => rfl)) OO.none OO.none (by simp) (by omega) (by omega) (Nat.le_refl _)) rfl ?_
    refine WL.sg rfl rfl (WL.nil (WC.region (WL.mv rfl rfl (WL.ad rfl rfl rfl ?_))))
    refine WL.sg rfl rfl (WL.nil ?_)
    refine ⟨rfl, ?_⟩
    have e1 : q + (R - q) = R := by omega
    have e2 : m - p * R - q = m - (p + 1) * R := by omega
    refine ⟨(C3, p + 1, (if cd = q then Ad else Ad.map (·.add (q * 1))), cd - q, A5, c5), ⟨Kr, hg3, Sq, he, hs3, ?_, ?_⟩, (by show N - (p + 1) < N - p; omega), .cons rfl (.cons rfl (.cons (look_eq rfl (by dsimp only; rw [e2])) (.cons rfl (.cons (look_eq rfl (by dsimp only; rw [e1])) (.cons (look_eq rfl (by rw [he])) (.cons (look_eq rfl (by simp)) (.nil _))))))), fun w h => ?_⟩
    · dsimp only
      rw [e2] at hsn
      have e3 : d.drop (p * R + q) = d.drop ((p + 1) * R) := by
        by_cases Ve : R ≤ m - p * R
        · rw [show p * R + q = (p + 1) * R by omega]
        · rw [List.drop_eq_nil_of_le (by omega), List.drop_eq_nil_of_le (by omega)]
      rw [e3] at hsn
      exact hsn
    · show m - (p + 1) * R ≤ cd - q
      omega
    · dsimp only
      rw [RJ, dI, dF]
      rw [e1] at h
      exact h.sel 5 [0, 1, 2, 4] rfl
end
theorem bA.all {K : World} {l l' H : List ak} {b o : Nat} {vs : List Value} (h : bA K (l ++ H) b o vs (l' ++ H)) : bA K (bG l :: H) b o vs (bG l' :: H) := by
  have conv : ∀ (L : List ak) (k : Nat), (∃ B ∈ L ++ H, B.foot k) → ∃ B ∈ bG L :: H, B.foot k := fun L k ⟨B, hB, hf⟩ => by
    rcases List.mem_append.1 hB with hB | hB
    · exact ⟨bG L, .head _, B, hB, hf⟩
    · exact ⟨B, .tail _ hB, hf⟩
  refine ⟨fun B' hB' k hk => ?_, conv l b h.own, fun w hw => h.may w (bE.all.1 hw), fun w hw => bE.all.2 (h.sat w (bE.all.1 hw))⟩
  rcases List.mem_cons.1 hB' with rfl | hB'
  · obtain ⟨A, hA, hf⟩ := hk
    exact conv l k (h.PU A (List.mem_append_left _ hA) k hf)
  · exact ⟨B', .tail _ hB', hk⟩
theorem bA.TG {K : World} {H : List ak} {gb o m cap E : Nat} {cs : List Value} {v : Value} (ho : o < m) : bA K (aU (.slice (some ⟨gb, 0, none⟩) m cap) E 1 m cs :: H) gb o [v] (aU (.slice (some ⟨gb, 0, none⟩) m cap) E 1 m (cs.set o v) :: H) := by
  have hsm : ∀ w : World, Same w w := fun w => ⟨rfl, rfl, rfl, Nat.le_refl _⟩
  refine ⟨fun B' hB' k hk => ?_, ⟨_, .head _, rfl⟩, fun w hw => ?_, fun w hw => ?_⟩
  · rcases List.mem_cons.1 hB' with rfl | h
    · exact ⟨_, .head _, hk⟩
    · exact ⟨_, .tail _ h, hk⟩
  · obtain ⟨r, ⟨h1, h2, h3, h4⟩, h5⟩ := Sat.kH (K := w) ⟨hsm w, hw⟩
    exact (bA.at_ (K := w) (T := E) (cs := cs ++ r) (v := v) (by rw [List.length_append]; omega)).may w h5.2
  · obtain ⟨r, ⟨h1, h2, h3, h4⟩, h5⟩ := Sat.kH (K := w) ⟨hsm w, hw⟩
    have h6 := (bA.at_ (K := w) (H := H) (b := gb) (T := E) (o := o) (cs := cs ++ r) (v := v) (by rw [List.length_append]; omega)).sat w h5.2
    have h7 := Sat.Dq (K := w.setCells gb o [v]) (s := 1) (m := m) (cap := cap) ⟨hsm _, h6⟩ (by rw [List.length_set]; exact h1) h3 h4
    rw [List.set_append_left _ _ (by omega), Nat.mul_one, List.take_left' (by rw [List.length_set]; omega)] at h7
    exact h7.2
section
variable {bs bd bc : Nat} {g : Geo} {K : World} {F : List ak}
theorem bC.NZ (T : bC) (x : Int) : bA K (T.A bs bd g :: F) bs 8 [.int .i64 x] (bC.A bs bd g { T with next := x } :: F) := bA.all (l := bC.parts bs bd g T) (l' := bC.parts bs bd g { T with next := x }) (bA.here rfl rfl)
theorem bC.OP (T : bC) (x : Int) : bA K (T.A bs bd g :: F) bs 9 [.int .i64 x] (bC.A bs bd g { T with at_ := x } :: F) := bA.all (l := bC.parts bs bd g T) (l' := bC.parts bs bd g { T with at_ := x }) (bA.here rfl rfl)
theorem bC.Pt {T : bC} {g1 i : Nat} (hA : T.sA = some ⟨g1, 0, none⟩) (hi : i < T.stands.length) (x : Int) : bA K (T.A bs bd g :: F) g1 i [.int .i64 x] (bC.A bs bd g { T with stands := T.stands.set i x } :: F) := by
  refine bA.all (l := bC.parts bs bd g T) (l' := bC.parts bs bd g { T with stands := T.stands.set i x }) ?_
  obtain ⟨stands, sA, sc, b8, cB, nx, at', dd⟩ := T
  dsimp only at hA hi ⊢
  subst hA
  unfold bC.parts bC.cells bC.sl
  dsimp only
  rw [List.length_set]
  refine bA.up ?_
  have h1 := bA.TG (K := K) (H := [Cells b8 24 (cB.map aX.v), bG (cB.map aX.row)] ++ F) (gb := g1) (cap := sc) (E := 3) (cs := ints .i64 stands) (v := .int .i64 x) hi
  have h2 : (ints .i64 stands).set i (.int .i64 x) = ints .i64 (stands.set i x) := by unfold ints; rw [List.map_set]
  rw [h2] at h1
  exact h1
theorem bC.I8 {T : bC} (h0 : 0 < T.stands.length) {w : World} (h : Sat K w (T.A bs bd g :: F)) : ∃ g1, T.sA = some ⟨g1, 0, none⟩ := by
  have h1 : Sat K w (bC.parts bs bd g T ++ F) := h.uF
  have h2 : Sat K w (T.sl :: Cells bs 89 (T.cells bd g) :: Cells T.b8 24 (T.cB.map aX.v) :: bG (T.cB.map aX.row) :: F) := h1.p1
  cases hA : T.sA with
  | none =>
    unfold bC.sl at h2
    rw [hA] at h2
    have := (aU.sM h2).1
    omega
  | some a =>
    unfold bC.sl at h2
    rw [hA] at h2
    obtain ⟨g1, rfl⟩ := aU.addr h2
    exact ⟨g1, rfl⟩
end
def St.mark (T : St) (aB : Int) : St := if 0 ≤ T.at' aB then { T with stale := T.stale.set aB.toNat (T.stale.getD aB.toNat [] ++ [T.at' aB]) } else T
def St.done (T : St) (aB b bl : Int) : St := { T with stands := T.stands.set aB.toNat b, next := T.next + 1, at_ := (b + 1) % bl }
def wB (aB : Int) (d : List Nat) (S : ah) (T : St) (b : Int) : ah × St × Option Int :=
  if (bM S T.next b aB d).2 = 72 then ((bM S T.next b aB d).1, { T.forget b with next := min (T.next + 1) 1000000001 }, if 1000000000 < min (T.next + 1) 1000000001 then some 6 else none)
  else if (bM S T.next b aB d).2 ≠ 0 then ((bM S T.next b aB d).1, (T.forget b).told (bM S T.next b aB d).2, some (bM S T.next b aB d).2)
  else ((bM S T.next b aB d).1, ((T.forget b).mark aB).done aB b S.g.bl, some 0)
def gy (aB : Int) (d : List Nat) : List Int → ah → St → ah × St × Option Int
  | [], S, T => (S, T, none)
  | b :: bs, S, T => if (wB aB d S T b).2.2 = none then gy aB d bs (wB aB d S T b).1 (wB aB d S T b).2.1 else wB aB d S T b
def iy (gd std : List Int) (yK bl : Int) (n j : Nat) : List Int := ((List.range' j (n - j)).map fun (i : Nat) => (yK + (i : Int)) % bl).filter fun b => decide (b ∈ gd ∧ ¬ b ∈ std)
theorem Im {gd std : List Int} {yK bl : Int} {n : Nat} : iy gd std yK bl n n = [] := by unfold iy; rw [Nat.sub_self]; rfl
theorem Gy {gd std : List Int} {yK bl : Int} {n j : Nat} (hj : j < n) (h : (yK + (j : Int)) % bl ∈ gd ∧ ¬ (yK + (j : Int)) % bl ∈ std) : iy gd std yK bl n j = (yK + (j : Int)) % bl :: iy gd std yK bl n (j + 1) := by
  unfold iy
  rw [show n - j = (n - (j + 1)) + 1 by omega, List.range'_succ, List.map_cons, List.filter_cons_of_pos (by simpa using h)]
theorem Jv {gd std : List Int} {yK bl : Int} {n j : Nat} (hj : j < n) (h : ¬ ((yK + (j : Int)) % bl ∈ gd ∧ ¬ (yK + (j : Int)) % bl ∈ std)) : iy gd std yK bl n j = iy gd std yK bl n (j + 1) := by
  unfold iy
  rw [show n - j = (n - (j + 1)) + 1 by omega, List.range'_succ, List.map_cons, List.filter_cons_of_neg (by simpa using h)]
def aK (S : ah) (T : St) (aB : Int) (d : List Nat) : ah × St × Int :=
  if T.ready aB ≠ 0 then (S, T, T.ready aB)
  else if S.g.cap < d.length then (S, T, 2)
  else if 1000000000 < T.next then (S, T, 6)
  else match gy aB d (iy S.good T.stands T.at_ S.g.bl S.g.bl.toNat 0) S T with
    | (S', T', some e) => (S', T', e)
    | (S', T', none) => (S', T'.told (if S'.gV = 70 then 70 else 6), if S'.gV = 70 then 70 else 6)
end Go.Proofs.YtcmojpiokjhmhaaGreat
