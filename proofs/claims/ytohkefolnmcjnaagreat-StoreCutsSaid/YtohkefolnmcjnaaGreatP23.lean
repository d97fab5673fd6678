import Derived.Test.YtohkefolnmcjnaaGreatP22
import Derived.Test.YtohkefolnmcjnaaGreatP5
import Derived.OrdersIn
namespace Go.Proofs.YtohkefolnmcjnaaGreat
open Go.Sl Go.RowKit
set_option linter.unusedVariables false
set_option linter.unusedSimpArgs false
set_option maxRecDepth 20000
theorem decF_len {t : Nat} {d m : List Nat} {p : LL} {k : Nat} (hd : decF t d m = some (p, k)) : p.1.length = d.length := by
  unfold decF at hd
  split at hd
  · cases hd
  · split at hd
    · cases hd
    · split at hd
      · cases hd
      · injection hd with hd
        have := (decTo_len t (locC (sums2 t (d, maskM t m))) (locL (sums2 t (d, maskM t m))) (d, maskM t m) (13 * t + 8 * d.length)).1
        rw [hd] at this
        exact this
theorem readF_full {t S B : Nat} {raw : List Nat} (hr : raw.length = rawN S B t) (he : (readF t S B raw).err = 0) : (readF t S B raw).d.length = S * B := by
  unfold readF at he ⊢
  split at he
  · rename_i h; exact absurd he h
  · rename_i h
    rw [if_neg h]
    have key : ∀ (l : List (Option (LL × Nat))) (d : List Nat) (n : Nat), (∀ o ∈ l, ∀ p k, o = some (p, k) → p.1.length = B) → (readTo l d n).err = 0 → (readTo l d n).d.length = d.length + l.length * B := fun l => by
      induction l with
      | nil => intro d n _ _; show d.length = _; simp
      | cons o l ih =>
        intro d n h he
        cases o with
        | none => exact absurd he (by show ¬ (50 = 0); decide)
        | some r =>
          obtain ⟨p, k⟩ := r
          rw [readTo] at he ⊢
          have h1 := ih (d ++ p.1) (max n k) (fun o ho => h o (.tail _ ho)) he
          have h2 := h _ (.head _) p k rfl
          rw [List.length_append] at h1
          rw [List.length_cons, Nat.succ_mul]
          omega
    have := key ((List.range S).map (uSec t B (B + moreLen t) raw)) [] 0 (fun o ho p k hp => by
      obtain ⟨j, hj, rfl⟩ := List.mem_map.1 ho
      have hj := List.mem_range.1 hj
      unfold uSec at hp
      rw [decF_len hp]
      unfold secD
      have h3 : (j + 1) * (B + moreLen t) ≤ S * (B + moreLen t) := Nat.mul_le_mul_right _ hj
      rw [Nat.succ_mul] at h3
      rw [List.length_take, List.length_drop, hr]
      unfold rawN
      omega) he
    rw [List.length_map, List.length_range] at this
    simpa using this
theorem Cw.Ok.dRead_full {C : Cw} (hC : C.Ok) {b p : Int} (he : (C.sem.dRead b p).err = 0) : (C.sem.dRead b p).d.length = C.g.room.toNat := by
  have hg := hC.mays
  unfold Chip.dRead at he ⊢
  split at he
  · rename_i h; exact absurd he h
  · rename_i h
    rw [if_neg h]
    have h0 : (readF C.sem.g.fl.toNat C.sem.g.se.toNat C.sem.g.sb.toNat (C.sem.rawN b p)).err = 0 := by
      have he' : ((readF C.sem.g.fl.toNat C.sem.g.se.toNat C.sem.g.sb.toNat (C.sem.rawN b p)).err : Int) = 0 := he
      omega
    have h1 := readF_full (by rw [(hC.rawN_facts b p).2.2, Geo.raw_nat hg, Int.toNat_natCast]; rfl) h0
    show (readF _ _ _ _).d.length = _
    rw [h1, Geo.room_nat hg, Int.toNat_natCast]; rfl
theorem Geo.pages_fit {g : Geo} (hg : g.mays) {n : Int} (h : g.fits n = true) : 0 ≤ g.pagesOf n ∧ g.pagesOf n ≤ g.pg - 1 ∧ n ≤ g.pagesOf n * g.room ∧ (n ≤ 0 → g.pagesOf n = 0) := by
  have hr := Geo.room_bd hg
  have hgb := hg
  unfold Geo.mays at hgb
  unfold Geo.fits at h
  simp only [Bool.and_eq_true, decide_eq_true_eq] at h
  have h1 := Int.emod_add_mul_ediv (n + g.room - 1) g.room
  have h2 := Int.emod_lt_of_pos (n + g.room - 1) (show 0 < g.room by omega)
  have h3 := Int.emod_nonneg (n + g.room - 1) (show g.room ≠ 0 by omega)
  have hq : g.pagesOf n = (n + g.room - 1) / g.room := rfl
  rw [← hq, Int.mul_comm] at h1
  have h4 : 0 ≤ g.pagesOf n := by rw [hq]; exact Int.ediv_nonneg (by omega) (by omega)
  refine ⟨h4, ?_, by omega, fun hn => ?_⟩
  · have h5 : g.pagesOf n * g.room ≤ g.cap + g.room - 1 := by omega
    have h6 : g.cap + g.room = g.pg * g.room := by unfold Geo.cap; rw [Int.sub_mul, Int.one_mul]; omega
    have h7 : g.pagesOf n * g.room < g.pg * g.room := by omega
    have := Int.lt_of_mul_lt_mul_right h7 (by omega)
    omega
  · have : n = 0 := by omega
    rw [hq, this]
    exact Int.ediv_eq_zero_of_lt (by omega) (by omega)
def sRdTo (S : Chip) (b : Int) (n0 : Nat) : Nat → Chip.Got
  | 0 => ⟨0, [], n0⟩
  | k + 1 => if (sRdTo S b n0 k).err ≠ 0 then sRdTo S b n0 k
    else if (S.dRead b (1 + (k : Int))).err ≠ 0 then ⟨(S.dRead b (1 + (k : Int))).err, [], 0⟩
    else ⟨0, (sRdTo S b n0 k).d ++ (S.dRead b (1 + (k : Int))).d, max (sRdTo S b n0 k).n (S.dRead b (1 + (k : Int))).n⟩
theorem sRdTo_err {S : Chip} {b : Int} {n0 k : Nat} (h : (sRdTo S b n0 k).err ≠ 0) : ∀ m, sRdTo S b n0 (k + m) = sRdTo S b n0 k
  | 0 => rfl
  | m + 1 => by rw [← Nat.add_assoc, sRdTo, sRdTo_err h m, if_pos h]
def sRead (S : Chip) (T : St) (leb : Int) : Chip.Got × St :=
  if T.ready leb ≠ 0 then (⟨T.ready leb, [], 0⟩, T)
  else if T.at' leb < 0 then (⟨5, [], 0⟩, T)
  else if (S.dRead (T.at' leb) 0).err ≠ 0 then (⟨(S.dRead (T.at' leb) 0).err, [], 0⟩, T.told (S.dRead (T.at' leb) 0).err)
  else if parseE S.g (S.dRead (T.at' leb) 0).d ≠ 0 then (⟨parseE S.g (S.dRead (T.at' leb) 0).d, [], 0⟩, T)
  else if (sRdTo S (T.at' leb) (S.dRead (T.at' leb) 0).n (S.g.pagesOf (parseH S.g (S.dRead (T.at' leb) 0).d).len).toNat).err ≠ 0 then
    (⟨(sRdTo S (T.at' leb) (S.dRead (T.at' leb) 0).n (S.g.pagesOf (parseH S.g (S.dRead (T.at' leb) 0).d).len).toNat).err, [], 0⟩, T.told (sRdTo S (T.at' leb) (S.dRead (T.at' leb) 0).n (S.g.pagesOf (parseH S.g (S.dRead (T.at' leb) 0).d).len).toNat).err)
  else (⟨0, (sRdTo S (T.at' leb) (S.dRead (T.at' leb) 0).n (S.g.pagesOf (parseH S.g (S.dRead (T.at' leb) 0).d).len).toNat).d.take (parseH S.g (S.dRead (T.at' leb) 0).d).len.toNat, (sRdTo S (T.at' leb) (S.dRead (T.at' leb) 0).n (S.g.pagesOf (parseH S.g (S.dRead (T.at' leb) 0).d).len).toNat).n⟩, T)
theorem slA_cut {K : World} {F : List Assn} {A : Option Addr} {m n cap E : Nat} {cs : List Value} (hn : n ≤ m) : ∀ w, Sat K w (SlA (.slice A m cap) E 1 m cs :: F) → Sat K w (SlA (.slice A n cap) E 1 n (cs.take n) :: F) := fun w h => by
  cases A with
  | none =>
    obtain ⟨h1, h2, h3⟩ := SlA.nilCs h
    obtain rfl : n = 0 := by omega
    subst h1 h2 h3
    exact h
  | some a =>
    obtain ⟨g, rfl⟩ := SlA.addr h
    obtain ⟨r, ⟨h1, h2, h3, h4⟩, h5⟩ := Sat.slCells h
    have h6 := Sat.toSl (m := n) (cap := cap) (s := 1) h5 h1 (by omega) h4
    rw [Nat.mul_one, List.take_append_of_le_length (by omega)] at h6
    exact h6
theorem parseE_zero {g : Geo} {d : List Nat} (hg : g.mays) (h : parseE g d = 0) : (parseH g d).may g = true ∧ parseF g d = some (parseH g d) := by
  unfold parseE at h
  unfold parseH
  cases hp : parseF g d with
  | none => rw [hp] at h; dsimp only at h; split at h <;> cases h
  | some x => exact ⟨(parse_len hg hp).2.1, rfl⟩
section
variable {bs bd bc : Nat} {g : Geo} {T : Stw} {C : Cw} {K : World} {F : List Assn}
theorem store_Read (hC : C.Ok) (hg : C.g = g) (hT : T.Ok g) (leb : Int) : Does Tryz.prog 28 #[ptr bs 0, .int .i64 leb] K (C.A bc :: DvA bd bc g :: T.A bs bd g :: F)
    (fun v H' => ∃ (A' : Option Addr) (c' : Nat) (T' : Stw), T'.Ok g ∧ T'.sem = (sRead C.sem T.sem leb).2 ∧ v = .tuple #[.slice A' (sRead C.sem T.sem leb).1.d.length c', .int .i64 ((sRead C.sem T.sem leb).1.n : Nat), .int .i64 (sRead C.sem T.sem leb).1.err] ∧
      H' = SlA (.slice A' (sRead C.sem T.sem leb).1.d.length c') 5 1 (sRead C.sem T.sem leb).1.d.length (nats .u8 (sRead C.sem T.sem leb).1.d) :: C.A bc :: DvA bd bc g :: T'.A bs bd g :: F) := by
  have hgm : g.mays := by rw [← hg]; exact hC.mays
  have hgs : C.sem.g = g := hg
  have hrb := Geo.room_bd hgm
  have hgb := hgm
  unfold Geo.mays at hgb
  obtain ⟨X, hX⟩ : ∃ X, X = sRead C.sem T.sem leb := ⟨_, rfl⟩
  rw [← hX]
  unfold sRead at hX
  rw [hgs] at hX
  have hin : T.sem.ready leb = 0 → 0 ≤ leb ∧ leb < T.stands.length := fun h => by
    unfold St.ready Stw.sem at h
    dsimp only at h
    split at h
    · cases h
    · split at h
      · cases h
      · omega
  refine Does.enter Tryz.func28 rfl Tryz.ntmps28 rfl ?_
  simp only [env0, Nat.reduceAdd]
  refine WC.sr ?_
  refine WL.sg rfl rfl ?_
  refine WL.sg rfl rfl ?_
  refine WL.sg rfl rfl ?_
  refine WL.nil ?_
  refine WC.seq ?_
  refine WC.sr ?_
  refine WL.mv rfl rfl ?_
  refine WL.mv rfl rfl ?_
  refine WL.sub (Sub.refl _) (fun w h => h.sel 3 [2, 0, 1] rfl) ?_
  refine WL.call (vs := [_, _]) Tryz.call88 ⟨OV.p rfl, OV.p rfl, trivial⟩ (store_ready leb) rfl ?_
  rintro _ _ ⟨rfl, rfl⟩
  refine WL.sub (Sub.refl _) (fun w h => h.sel 3 [1, 2, 0] rfl) ?_
  refine WL.sg rfl rfl ?_
  refine WL.nil ?_
  refine WC.sr ?_
  refine WL.mv rfl rfl ?_
  refine WL.val (V.neq (OV.p rfl) (OV.p rfl)) rfl ?_
  refine WL.nil ?_
  refine WC.cond rfl (fun hc0 => ?_) (fun hc0 => ?_)
  ·simp only [Bool.not_eq_true', Bool.not_eq_false', decide_eq_true_eq, decide_eq_false_iff_not] at hc0
   have h0 := hc0
   rw [if_pos h0] at hX
   refine WC.sr ?_
   refine WL.mv rfl rfl ?_
   refine WL.sg rfl rfl ?_
   refine WL.sg rfl rfl ?_
   refine WL.sg rfl rfl ?_
   refine WL.nil ?_
   refine WC.ret ?_
   subst hX
   exact BodyQ.ret (H' := SlA (.slice none 0 0) 5 1 0 [] :: C.A bc :: DvA bd bc g :: T.A bs bd g :: F) (Res.tmp3 rfl rfl rfl rfl) (fun w h => Sat.slNil h _ _) ⟨none, 0, T, hT, rfl, rfl, rfl⟩
  ·simp only [Bool.not_eq_true', Bool.not_eq_false', decide_eq_true_eq, decide_eq_false_iff_not] at hc0
   have h0 := hc0
   have hr0 : T.sem.ready leb = 0 := by omega
   rw [if_neg (fun h => h hr0)] at hX
   have hinl := hin hr0
   obtain ⟨b, hb⟩ : ∃ b, b = T.sem.at' leb := ⟨_, rfl⟩
   rw [← hb] at hX
   have hrs : ∀ {X Y : Assn}, Rd K (X :: Y :: T.A bs bd g :: F) (T.sA.map (·.add (leb.toNat * 1))) (.int .i64 b) := fun {X Y} => by rw [hb]; exact Rd.up (Rd.up (Stw.rdS hinl))
   refine WC.skip ?_
   refine WC.sr ?_
   refine WL.mv rfl rfl ?_
   refine WL.nc rfl rfl ?_
   refine WL.val (V.fieldAddr fo126_2 (OV.p rfl)) rfl ?_
   refine WL.val (V.load Tryz.isAgg42 (OV.p rfl) (fun _ => Rd.up (Rd.up (Stw.rds 6 _ rfl)))) rfl ?_
   refine WL.mv rfl rfl ?_
   refine WL.val (V.idxS st42 (OV.p rfl) (OV.p rfl) (fun _ => hinl) (fun _ => hrs)) rfl ?_
   refine WL.val (V.load Tryz.isAgg3 (OV.p rfl) (fun _ => hrs)) rfl ?_
   refine WL.sg rfl rfl ?_
   refine WL.nil ?_
   refine WC.seq ?_
   refine WC.sr ?_
   refine WL.mv rfl rfl ?_
   refine WL.val (V.lss (OV.p rfl) (OV.p rfl)) rfl ?_
   refine WL.nil ?_
   refine WC.cond rfl (fun hc1 => ?_) (fun hc1 => ?_)
   ·simp only [decide_eq_true_eq, decide_eq_false_iff_not] at hc1
    have h1 := hc1
    rw [if_pos h1] at hX
    refine WC.sr ?_
    refine WL.sg rfl rfl ?_
    refine WL.sg rfl rfl ?_
    refine WL.sg rfl rfl ?_
    refine WL.nil ?_
    refine WC.ret ?_
    subst hX
    exact BodyQ.ret (H' := SlA (.slice none 0 0) 5 1 0 [] :: C.A bc :: DvA bd bc g :: T.A bs bd g :: F) (Res.tmp3 rfl rfl rfl rfl) (fun w h => Sat.slNil h _ _) ⟨none, 0, T, hT, rfl, rfl, rfl⟩
   ·simp only [decide_eq_true_eq, decide_eq_false_iff_not] at hc1
    have h1 := hc1
    rw [if_neg h1] at hX
    refine WC.skip ?_
    refine WC.sr ?_
    refine WL.mv rfl rfl ?_
    refine WL.nc rfl rfl ?_
    refine WL.val (V.fieldAddr fo126_0 (OV.p rfl)) rfl ?_
    refine WL.val (V.load Tryz.isAgg31 (OV.p rfl) (fun _ => Rd.up (Rd.up (Stw.rds 0 _ rfl)))) rfl ?_
    refine WL.mv rfl rfl ?_
    refine WL.call (vs := [_, _, _]) Tryz.call26 ⟨OV.p rfl, OV.p rfl, OV.p rfl, trivial⟩ (drive_ReadG hC hg b 0) rfl ?_
    rintro _ _ ⟨Ad, cd, rfl, rfl⟩
    obtain ⟨G, hG⟩ : ∃ G, G = C.sem.dRead b 0 := ⟨_, rfl⟩
    have hGf := hC.dRead_facts b 0
    rw [← hG] at hGf hX ⊢
    refine WL.mv rfl rfl ?_
    refine WL.xt rfl rfl rfl ?_
    refine WL.xt rfl rfl rfl ?_
    refine WL.xt rfl rfl rfl ?_
    refine WL.sg rfl rfl ?_
    refine WL.sg rfl rfl ?_
    refine WL.sg rfl rfl ?_
    refine WL.nil ?_
    refine WC.seq ?_
    refine WC.sr ?_
    refine WL.mv rfl rfl ?_
    refine WL.val (V.neq (OV.p rfl) (OV.p rfl)) rfl ?_
    refine WL.nil ?_
    refine WC.cond rfl (fun hc2 => ?_) (fun hc2 => ?_)
    ·simp only [Bool.not_eq_true', Bool.not_eq_false', decide_eq_true_eq, decide_eq_false_iff_not] at hc2
     have h2 := hc2
     rw [if_pos h2] at hX
     refine WC.sr ?_
     refine WL.mv rfl rfl ?_
     refine WL.mv rfl rfl ?_
     refine WL.sub (Sub.refl _) (fun w h => h.sel 4 [3, 1, 2] rfl) ?_
     refine WL.call (vs := [_, _]) Tryz.call89 ⟨OV.p rfl, OV.p rfl, trivial⟩ (store_told G.err) rfl ?_
     rintro _ _ ⟨rfl, rfl⟩
     refine WL.sg rfl rfl ?_
     refine WL.sg rfl rfl ?_
     refine WL.sg rfl rfl ?_
     refine WL.nil ?_
     refine WC.ret ?_
     subst hX
     exact BodyQ.ret (H' := SlA (.slice none 0 0) 5 1 0 [] :: C.A bc :: DvA bd bc g :: (T.told G.err).A bs bd g :: F) (Res.tmp3 rfl rfl rfl rfl) (fun w h => Sat.slNil (h.sel 3 [1, 2, 0] rfl) _ _) ⟨none, 0, T.told G.err, hT.told _, rfl, rfl, rfl⟩
    ·simp only [Bool.not_eq_true', Bool.not_eq_false', decide_eq_true_eq, decide_eq_false_iff_not] at hc2
     have h2 := hc2
     rw [if_neg (fun h => h (by omega))] at hX
     obtain ⟨pe, hpe⟩ : ∃ pe, pe = parseE g G.d := ⟨_, rfl⟩
     obtain ⟨ph, hph⟩ : ∃ ph, ph = parseH g G.d := ⟨_, rfl⟩
     rw [← hpe, ← hph] at hX
     refine WC.skip ?_
     refine WC.sr ?_
     refine WL.mv rfl rfl ?_
     refine WL.nc rfl rfl ?_
     refine WL.val (V.fieldAddr fo126_1 (OV.p rfl)) rfl ?_
     refine WL.val (V.loadA (vs := [.int .i64 g.bl, .int .i64 g.pg, .int .i64 g.se, .int .i64 g.sb, .int .i64 g.fl]) ⟨Tryz.isAgg23, Tryz.sizeOf23⟩ (OV.p rfl) rfl (fun _ => Rds.up (Rds.up (Rds.up Stw.rdg)))) rfl ?_
     refine WL.mv rfl rfl ?_
     refine WL.call (vs := [_, _]) Tryz.call90 ⟨OV.p rfl, OV.p rfl, trivial⟩ (Tells.eq (v' := .tuple #[ph.v, .int .i64 pe]) (head_Parse (d := G.d) hgm (SlA.seq (by rw [nats_length, Nat.mul_one])) hGf.1 (by omega)) (by rw [hph, hpe])) rfl ?_
     rintro _ H0 ⟨rfl, h0⟩
     subst H0
     refine WL.mv rfl rfl ?_
     refine WL.xt rfl rfl rfl ?_
     refine WL.xt rfl rfl rfl ?_
     refine WL.alloc (cs := [(.int .i64 0), (.int .i64 0), (.int .i64 0)]) Tryz.zeroValue129 rfl rfl (fun b12 => ?_)
     refine WL.store (cs := [_, _, _]) Tryz.sizeOf129 (OV.p rfl) (OV.p rfl) rfl rfl rfl (by repeat (first | exact Upd.here (cs' := [_, _, _]) rfl rfl | apply Upd.up)) ?_
     refine WL.sg rfl rfl ?_
     refine WL.nil ?_
     refine WC.seq ?_
     refine WC.sr ?_
     refine WL.mv rfl rfl ?_
     refine WL.val (V.neq (OV.p rfl) (OV.p rfl)) rfl ?_
     refine WL.nil ?_
     refine WC.cond rfl (fun hc3 => ?_) (fun hc3 => ?_)
     ·simp only [Bool.not_eq_true', Bool.not_eq_false', decide_eq_true_eq, decide_eq_false_iff_not] at hc3
      have h3 := hc3
      rw [if_pos h3] at hX
      refine WC.sr ?_
      refine WL.mv rfl rfl ?_
      refine WL.sg rfl rfl ?_
      refine WL.sg rfl rfl ?_
      refine WL.sg rfl rfl ?_
      refine WL.nil ?_
      refine WC.ret ?_
      subst hX
      exact BodyQ.ret (H' := SlA (.slice none 0 0) 5 1 0 [] :: C.A bc :: DvA bd bc g :: T.A bs bd g :: F) (Res.tmp3 rfl rfl rfl rfl) (fun w h => Sat.slNil (h.sel 5 [2, 3, 4] rfl) _ _) ⟨none, 0, T, hT, rfl, rfl, rfl⟩
     ·simp only [Bool.not_eq_true', Bool.not_eq_false', decide_eq_true_eq, decide_eq_false_iff_not] at hc3
      have h3 := hc3
      have hp0 : pe = 0 := by omega
      rw [if_neg (fun h => h hp0)] at hX
      have hmy : ph.may g = true := by rw [hph]; exact (parseE_zero hgm (by rw [← hpe]; exact hp0)).1
      have hmb := hmy
      unfold Hd.may at hmb
      simp only [Bool.and_eq_true, decide_eq_true_eq] at hmb
      have hfit := hmb.1.1.1.1
      have hfb := hfit
      unfold Geo.fits at hfb
      simp only [Bool.and_eq_true, decide_eq_true_eq] at hfb
      have hcb := Geo.cap_bd hgm
      have hpf := Geo.pages_fit hgm hfit
      obtain ⟨N, hN⟩ : ∃ N : Nat, g.pagesOf ph.len = (N : Int) := ⟨(g.pagesOf ph.len).toNat, by omega⟩
      rw [hN, Int.toNat_natCast] at hX
      rw [hN] at hpf
      obtain ⟨ln, hln⟩ : ∃ ln : Nat, ph.len = (ln : Int) := ⟨ph.len.toNat, by omega⟩
      refine WC.skip ?_
      refine WC.sr ?_
      refine WL.sg rfl rfl ?_
      refine WL.nil ?_
      refine WC.seq ?_
      refine WC.regionQ (by kernel_rfl) (by kernel_rfl) ?_
      refine WQ.val (V.move (OV.p rfl)) rfl ?_
      refine WQ.val (V.nilCheck (OV.p rfl)) rfl ?_
      refine WQ.val (V.fieldAddr fo126_1 (OV.p rfl)) rfl ?_
      refine WQ.val (V.loadA (vs := [.int .i64 g.bl, .int .i64 g.pg, .int .i64 g.se, .int .i64 g.sb, .int .i64 g.fl]) ⟨Tryz.isAgg23, Tryz.sizeOf23⟩ (OV.p rfl) rfl (fun _ => by repeat (first | exact Stw.rdg | apply Rds.up))) rfl ?_
      refine WQ.val (V.fieldAddr fo129_1 (OV.p rfl)) rfl ?_
      refine WQ.val (V.load Tryz.isAgg3 (OV.p rfl) (fun _ => by repeat (first | exact Rd.here rfl | apply Rd.up))) rfl ?_
      refine WQ.call (vs := [_, _]) Tryz.call91 ⟨OV.p rfl, OV.p rfl, trivial⟩ (Tells.eq (v' := .tuple #[.int .i64 (N : Int), .int .i64 0]) (head_Pages hgm (by omega)) (by rw [hfit, hN]; rfl)) rfl ?_
      refine WQ.val (V.move (OV.p rfl)) rfl ?_
      refine WQ.val (V.extract (OV.p rfl) rfl) rfl ?_
      refine WQ.val (V.extract (OV.p rfl) rfl) rfl ?_
      refine WQ.val (V.assign (OV.p rfl)) rfl ?_
      refine WQ.val (V.assign (OV.p rfl)) rfl ?_
      refine WQ.nil ?_
      refine WC.seq ?_
      refine WC.seq ?_
      refine WC.sub (H' := C.A bc :: DvA bd bc g :: T.A bs bd g :: SlA (.slice none 0 0) 5 1 0 [] :: Cells b12 129 [.int .i64 ph.leb, .int .i64 ph.len, .int .i64 ph.num] :: F) (Sub.refl _) (fun w h => (Sat.slNil (h.sel 5 [0, 2, 3, 4] rfl) 5 1).sel 5 [2, 3, 4, 0, 1] rfl) ?_
      have hsz : ∀ k, k ≤ N → (sRdTo C.sem b G.n k).err = 0 → (sRdTo C.sem b G.n k).d.length = k * g.room.toNat := fun k => by
        induction k with
        | zero => intro _ _; show ([] : List Nat).length = _; simp
        | succ k ih =>
          intro hk he
          rw [sRdTo] at he ⊢
          split at he
          · rename_i h; exact absurd he h
          · rename_i h
            rw [if_neg h]
            split at he
            · rename_i h'; exact absurd he h'
            · rename_i h'
              rw [if_neg h']
              have h4 := hC.dRead_full (b := b) (p := 1 + (k : Int)) (by omega)
              show ((sRdTo C.sem b G.n k).d ++ (C.sem.dRead b (1 + (k : Int))).d).length = _
              rw [List.length_append, ih (by omega) (by omega), h4, hg, Nat.succ_mul]
      refine WC.region ?_
      refine WL.mv rfl rfl ?_
      refine WL.mv rfl rfl ?_
      refine WL.nil ?_
      refine WC.block ?_
      refine WC.loop (σ := Nat × Option Addr × Nat) (fun s => [(0, ptr bs 0), (8, .int .i64 b), (10, .int .i64 ((sRdTo C.sem b G.n s.1).n : Nat)), (12, ptr b12 0), (13, .slice s.2.1 (sRdTo C.sem b G.n s.1).d.length s.2.2), (72, .int .i64 (N : Int)), (73, .int .i64 (s.1 : Int))]) (fun s => C.A bc :: DvA bd bc g :: T.A bs bd g :: SlA (.slice s.2.1 (sRdTo C.sem b G.n s.1).d.length s.2.2) 5 1 (sRdTo C.sem b G.n s.1).d.length (nats .u8 (sRdTo C.sem b G.n s.1).d) :: Cells b12 129 [.int .i64 ph.leb, .int .i64 ph.len, .int .i64 ph.num] :: F) (fun s => s.1 ≤ N ∧ (sRdTo C.sem b G.n s.1).err = 0) (fun s => N - s.1) (0, none, 0) ⟨Nat.zero_le _, rfl⟩ (.cons rfl (.cons rfl (.cons rfl (.cons rfl (.cons rfl (.cons rfl (.cons rfl (.nil _)))))))) (fun w h => h) ?_
      rintro ⟨k, Ao, co⟩ ⟨hk, hke⟩
      dsimp only at hk hke ⊢
      obtain ⟨r, hr⟩ : ∃ r, r = sRdTo C.sem b G.n k := ⟨_, rfl⟩
      have hrl := hsz k hk hke
      rw [← hr] at hke hrl ⊢
      have hkN : k * g.room.toNat ≤ 63 * 4096 := Nat.mul_le_mul (by omega) (by omega)
      refine WC.sr ?_
      refine WL.val (V.lss (OV.p rfl) (OV.p rfl)) rfl ?_
      refine WL.nil ?_
      refine WC.seq ?_
      refine WC.cond rfl (fun hc4 => ?_) (fun hc4 => ?_)
      ·simp only [decide_eq_true_eq, decide_eq_false_iff_not] at hc4
       have hkl : k < N := by omega
       have hst : sRdTo C.sem b G.n (k + 1) = if (C.sem.dRead b (1 + (k : Int))).err ≠ 0 then ⟨(C.sem.dRead b (1 + (k : Int))).err, [], 0⟩ else ⟨0, r.d ++ (C.sem.dRead b (1 + (k : Int))).d, max r.n (C.sem.dRead b (1 + (k : Int))).n⟩ := by rw [sRdTo, ← hr, if_neg (fun h => h hke)]
       refine WC.skip ?_
       refine WC.seq ?_
       refine WC.block ?_
       refine WC.sr ?_
       refine WL.mv rfl rfl ?_
       refine WL.sg rfl rfl ?_
       refine WL.nil ?_
       refine WC.sr ?_
       refine WL.mv rfl rfl ?_
       refine WL.nc rfl rfl ?_
       refine WL.val (V.fieldAddr fo126_0 (OV.p rfl)) rfl ?_
       refine WL.val (V.load Tryz.isAgg31 (OV.p rfl) (fun _ => Rd.up (Rd.up (Stw.rds 0 _ rfl)))) rfl ?_
       refine WL.mv rfl rfl ?_
       refine WL.mv rfl rfl ?_
       refine WL.ad rfl rfl rfl ?_
       refine WL.call (vs := [_, _, _]) Tryz.call26 ⟨OV.p rfl, OV.p rfl, OV.p rfl, trivial⟩ (drive_ReadG hC hg b (1 + (k : Int))) rfl ?_
       rintro _ _ ⟨A2, c2, rfl, rfl⟩
       have hGf2 := hC.dRead_facts b (1 + (k : Int))
       obtain ⟨G2, hG2⟩ : ∃ G2, G2 = C.sem.dRead b (1 + (k : Int)) := ⟨_, rfl⟩
       rw [← hG2] at hst hGf2 ⊢
       refine WL.mv rfl rfl ?_
       refine WL.xt rfl rfl rfl ?_
       refine WL.xt rfl rfl rfl ?_
       refine WL.xt rfl rfl rfl ?_
       refine WL.sg rfl rfl ?_
       refine WL.sg rfl rfl ?_
       refine WL.sg rfl rfl ?_
       refine WL.nil ?_
       refine WC.seq ?_
       refine WC.sr ?_
       refine WL.mv rfl rfl ?_
       refine WL.val (V.neq (OV.p rfl) (OV.p rfl)) rfl ?_
       refine WL.nil ?_
       refine WC.cond rfl (fun hc5 => ?_) (fun hc5 => ?_)
       ·simp only [Bool.not_eq_true', Bool.not_eq_false', decide_eq_true_eq, decide_eq_false_iff_not] at hc5
        have h5 := hc5
        rw [if_pos h5] at hst
        have hNe : sRdTo C.sem b G.n N = ⟨G2.err, [], 0⟩ := by
          have := sRdTo_err (S := C.sem) (b := b) (n0 := G.n) (k := k + 1) (by rw [hst]; exact h5) (N - (k + 1))
          rw [show k + 1 + (N - (k + 1)) = N by omega, hst] at this
          exact this
        rw [hNe, if_pos h5] at hX
        refine WC.sr ?_
        refine WL.mv rfl rfl ?_
        refine WL.mv rfl rfl ?_
        refine WL.sub (Sub.refl _) (fun w h => h.sel 6 [3, 1, 2] rfl) ?_
        refine WL.call (vs := [_, _]) Tryz.call89 ⟨OV.p rfl, OV.p rfl, trivial⟩ (store_told G2.err) rfl ?_
        rintro _ _ ⟨rfl, rfl⟩
        refine WL.sg rfl rfl ?_
        refine WL.sg rfl rfl ?_
        refine WL.sg rfl rfl ?_
        refine WL.nil ?_
        refine WC.ret ?_
        subst hX
        exact BodyQ.ret (H' := SlA (.slice none 0 0) 5 1 0 [] :: C.A bc :: DvA bd bc g :: (T.told G2.err).A bs bd g :: F) (Res.tmp3 rfl rfl rfl rfl) (fun w h => Sat.slNil (h.sel 3 [1, 2, 0] rfl) _ _) ⟨none, 0, T.told G2.err, hT.told _, rfl, rfl, rfl⟩
       ·simp only [Bool.not_eq_true', Bool.not_eq_false', decide_eq_true_eq, decide_eq_false_iff_not] at hc5
        have h5 := hc5
        rw [if_neg (fun h => h (by omega))] at hst
        refine WC.skip ?_
        refine WC.sr ?_
        refine WL.mv rfl rfl ?_
        refine WL.mv rfl rfl ?_
        refine WL.sub (Sub.refl _) (fun w h => h.sel 5 [4, 0, 1, 2, 3] rfl) ?_
        refine WL.append (m := r.d.length) (q := G2.d.length) (news := nats .u8 G2.d) Tryz.underlying38 el5 (OV.p rfl) (OV.p rfl) (SlA.seq (by rw [nats_length, Nat.mul_one])) (nats_one .u8 G2.d) (by omega) rfl rfl (fun A5 c5 hA5 hc5 => ?_)
        refine WL.sg rfl rfl ?_
        refine WL.nil ?_
        refine WC.region ?_
        refine WL.mv rfl rfl ?_
        refine WL.mv rfl rfl ?_
        refine WL.val (V.max (OV.p rfl) (OV.p rfl)) rfl ?_
        refine WL.sg rfl rfl ?_
        refine WL.nil ?_
        refine WC.region ?_
        refine WL.ad rfl rfl rfl ?_
        refine WL.mv rfl rfl ?_
        refine WL.nil ?_
        refine ⟨rfl, ?_⟩
        refine ⟨(k + 1, A5, c5), ⟨hkl, by rw [hst]⟩, (by show N - (k + 1) < N - k; omega), .cons rfl (.cons rfl (.cons (look_eq rfl (by dsimp only; rw [hst]; dsimp only; refine congrArg (Value.int .i64) ?_; omega)) (.cons rfl (.cons (look_eq rfl (by dsimp only; rw [hst]; dsimp only; rw [List.length_append])) (.cons rfl (.cons (look_eq rfl (by simp)) (.nil _))))))), fun w h => ?_⟩
        dsimp only
        rw [hst]
        dsimp only
        rw [List.length_append, nats_append]
        exact h.sel 6 [2, 3, 4, 0, 5] rfl
      ·simp only [decide_eq_true_eq, decide_eq_false_iff_not] at hc4
       refine WC.exit ?_
       refine WC.seq ?_
       obtain rfl : k = N := by omega
       rw [← hr, if_neg (fun h => h hke)] at hX
       have hlr : ln ≤ r.d.length := by
         have h6 := hpf.2.2.1
         rw [hln] at h6
         have h7 : ((k * g.room.toNat : Nat) : Int) = (k : Int) * g.room := by rw [Int.natCast_mul]; congr 1; omega
         omega
       have hXd : X.1.d = r.d.take ln := by rw [hX, hln]; rfl
       have hXl : X.1.d.length = ln := by rw [hXd, List.length_take]; omega
       refine WC.have_ (p := r.d.length ≤ co) (fun w h => by
         have h9 := h.sel 4 [3] rfl
         obtain ⟨_, cap', hv, hle, _⟩ := SlA.shape h9.head
         injection hv with _ _ e3
         rw [e3]; exact hle) (fun hrc => ?_)
       refine WC.region ?_
       refine WL.mv rfl rfl ?_
       refine WL.val (V.fieldAddr fo129_1 (OV.p rfl)) rfl ?_
       refine WL.ld Tryz.isAgg3 rfl rfl ?_
       refine WL.val (V.val_eq (v' := .slice Ao ln co) (V.slice (l := 0) (h := ln) (u := co) st38 (OV.p rfl) OO.none (OO.some (OV.p rfl) (fun _ => hln)) OO.none (by simp) (Nat.zero_le _) (by omega) (Nat.le_refl _)) (fun _ => by rw [Nat.sub_zero, Nat.sub_zero, sub0])) rfl ?_
       refine WL.mv rfl rfl ?_
       refine WL.sg rfl rfl ?_
       refine WL.sg rfl rfl ?_
       refine WL.sg rfl rfl ?_
       refine WL.nil ?_
       refine WC.ret ?_
       refine BodyQ.ret (H' := SlA (.slice Ao X.1.d.length co) 5 1 X.1.d.length (nats .u8 X.1.d) :: C.A bc :: DvA bd bc g :: T.A bs bd g :: F) (Res.tmp3 rfl rfl rfl rfl) (fun w h => ?_) ⟨Ao, co, T, hT, by rw [hX], by rw [hXl, hX], rfl⟩
       have h9 := slA_cut hlr w (h.sel 5 [3, 0, 1, 2] rfl)
       rw [nats_take, ← hXd] at h9
       rw [hXl]
       exact h9
end
end Go.Proofs.YtohkefolnmcjnaaGreat
namespace Go.Proofs.YtohkefolnmcjnaaGreat
open Go.Sl Go.RowKit
set_option linter.unusedVariables false
set_option linter.unusedSimpArgs false
set_option maxRecDepth 20000
def idxI (b : Int) (xs : List Int) : Int := if b ∈ xs then (xs.idxOf b : Int) else -1
theorem idx_at {b : Int} {xs : List Int} {i : Nat} (h : i < xs.length) (hp : b ∉ xs.take i) (he : b = xs.getD i 0) : idxI b xs = (i : Int) := by
  have hget : xs.getD i 0 = xs[i] := by simp [List.getD, h]
  rw [hget] at he
  have hx : xs = xs.take i ++ b :: xs.drop (i + 1) := by
    rw [he, ← List.drop_eq_getElem_cons h, List.take_append_drop]
  have hb : b ∈ xs := by rw [he]; exact List.getElem_mem _
  unfold idxI
  rw [if_pos hb]
  have : xs.idxOf b = i := by
    rw [hx, List.idxOf_append, if_neg hp, List.idxOf_cons_self, List.length_take]; omega
  rw [this]
theorem idxI_neg {b : Int} {xs : List Int} : decide (idxI b xs ≥ 0) = decide (b ∈ xs) := by
  unfold idxI
  by_cases h : b ∈ xs
  · rw [if_pos h]; simp [h]
  · rw [if_neg h]; simp [h]
section
variable {K : World} {F : List Assn}
theorem index_ints {A : Option Addr} {m cap : Nat} {xs : List Int} (hs : Seq K F A m 1 (ints .i64 xs)) (hm : m ≤ 1000000) (b : Int) :
    Tells Tryz.prog 176 #[.slice A m cap, .int .i64 b] K F (.int .i64 (idxI b xs)) := by
  have hl : xs.length = m := by simpa [ints] using hs.len
  refine Does.enter Tryz.func176 rfl Tryz.ntmps176 rfl ?_
  simp only [env0, Nat.reduceAdd]
  refine WC.sr ?_
  refine WL.sg rfl rfl ?_
  refine WL.nil ?_
  refine WC.seq ?_
  refine WC.sr ?_
  refine WL.mv rfl rfl ?_
  refine WL.val (V.len (t := 42) Tryz.runUnderlying42 (OV.p rfl)) rfl ?_
  refine WL.mv rfl rfl ?_
  refine WL.nil ?_
  refine WC.block ?_
  refine WC.loop (σ := Nat) (fun i => [(0, .slice A m cap), (1, .int .i64 b), (7, .int .i64 (m : Int)), (8, .int .i64 (i : Int))]) (fun i => F) (fun i => i ≤ m ∧ b ∉ xs.take i) (fun i => m - i) 0 ⟨Nat.zero_le _, by simp⟩ (.cons rfl (.cons rfl (.cons rfl (.cons rfl (.nil _))))) (fun w h => h) ?_
  rintro i ⟨hi, hp⟩
  refine WC.sr ?_
  refine WL.val (V.lss (OV.p rfl) (OV.p rfl)) rfl ?_
  refine WL.nil ?_
  refine WC.seq ?_
  refine WC.cond rfl (fun hc0 => ?_) (fun hc0 => ?_)
  ·simp only [decide_eq_true_eq, decide_eq_false_iff_not] at hc0
   have him : i < m := by omega
   have hti : (i : Int).toNat = i := by omega
   have hget : xs.getD i 0 = xs[i]'(by omega) := by simp [List.getD, show i < xs.length by omega]
   refine WC.skip ?_
   refine WC.seq ?_
   refine WC.block ?_
   refine WC.sr ?_
   refine WL.mv rfl rfl ?_
   refine WL.sg rfl rfl ?_
   refine WL.nil ?_
   refine WC.sr ?_
   refine WL.mv rfl rfl ?_
   refine WL.mv rfl rfl ?_
   refine WL.mv rfl rfl ?_
   refine WL.val (V.idxS st42 (OV.p rfl) (OV.p rfl) (fun hc => by omega) (fun hc => Seq.int_rd hs (by omega))) rfl ?_
   refine WL.val (V.load Tryz.isAgg3 (OV.p rfl) (fun hc => Seq.int_rd hs (by omega))) rfl ?_
   refine WL.val (V.eql (OV.p rfl) (OV.p rfl)) rfl ?_
   refine WL.nil ?_
   refine WC.cond rfl (fun hc1 => ?_) (fun hc1 => ?_)
   ·simp only [decide_eq_true_eq, decide_eq_false_iff_not, hti] at hc1
    have h1 := hc1
    refine WC.sr ?_
    refine WL.mv rfl rfl ?_
    refine WL.sg rfl rfl ?_
    refine WL.nil ?_
    refine WC.ret ?_
    exact BodyQ.ret (H' := F) (Res.tmp rfl rfl) (fun w h => h) ⟨by rw [idx_at (by omega) hp h1], rfl⟩
   ·simp only [decide_eq_true_eq, decide_eq_false_iff_not, hti] at hc1
    have h1 := hc1
    refine WC.skip ?_
    refine WC.region ?_
    refine WL.ad rfl rfl rfl ?_
    refine WL.mv rfl rfl ?_
    refine WL.nil ?_
    refine ⟨rfl, ?_⟩
    refine ⟨i + 1, ⟨by show i + 1 ≤ m; omega, ?_⟩, (by show m - (i + 1) < m - i; omega), .cons rfl (.cons rfl (.cons rfl (.cons (look_eq rfl (by simp)) (.nil _)))), fun w h => h⟩
    rw [List.take_add_one, List.getElem?_eq_getElem (by omega), ← hget]
    simp only [Option.toList, List.mem_append, List.mem_singleton]
    rintro (h | h)
    · exact hp h
    · exact h1 h
  ·simp only [decide_eq_true_eq, decide_eq_false_iff_not] at hc0
   refine WC.exit ?_
   refine WC.sr ?_
   refine WL.sg rfl rfl ?_
   refine WL.nil ?_
   refine WC.ret ?_
   obtain rfl : i = m := by omega
   rw [List.take_of_length_le (by omega)] at hp
   exact BodyQ.ret (H' := F) (Res.tmp rfl rfl) (fun w h => h) ⟨by unfold idxI; rw [if_neg hp], rfl⟩
theorem contains_ints {A : Option Addr} {m cap : Nat} {xs : List Int} (hs : Seq K F A m 1 (ints .i64 xs)) (hm : m ≤ 1000000) (b : Int) :
    Tells Tryz.prog 137 #[.slice A m cap, .int .i64 b] K F (.bool (decide (b ∈ xs))) := by
  refine Does.enter Tryz.func137 rfl Tryz.ntmps137 rfl ?_
  simp only [env0, Nat.reduceAdd]
  refine WC.sr ?_
  refine WL.sg rfl rfl ?_
  refine WL.nil ?_
  refine WC.sr ?_
  refine WL.mv rfl rfl ?_
  refine WL.mv rfl rfl ?_
  refine WL.call (vs := [_, _]) Tryz.call176 ⟨OV.p rfl, OV.p rfl, trivial⟩ (index_ints hs hm b) rfl ?_
  rintro _ H0 ⟨rfl, h0⟩
  subst H0
  refine WL.val (V.geq (OV.p rfl) (OV.p rfl)) rfl ?_
  refine WL.sg rfl rfl ?_
  refine WL.nil ?_
  refine WC.ret ?_
  exact BodyQ.ret (H' := F) (Res.tmp rfl rfl) (fun w h => h) ⟨by rw [idxI_neg], rfl⟩
theorem forget_is {b3 : Nat} {b : Int} (hb : Rd K F (some ⟨b3, 0, none⟩) (.int .i64 b)) (x : Int) : Tells Tryz.prog 138 ([Value.int .i64 x] ++ [ptr b3 0]).toArray K F (.bool (decide (x = b))) := by
  simp only [List.cons_append, List.nil_append]
  refine Does.enter Tryz.func138 rfl Tryz.ntmps138 rfl ?_
  simp only [env0, Nat.reduceAdd]
  refine WC.sr ?_
  refine WL.sg rfl rfl ?_
  refine WL.nil ?_
  refine WC.sr ?_
  refine WL.mv rfl rfl ?_
  refine WL.val (V.load Tryz.isAgg3 (OV.p rfl) (fun hc => hb)) rfl ?_
  refine WL.val (V.eql (OV.p rfl) (OV.p rfl)) rfl ?_
  refine WL.sg rfl rfl ?_
  refine WL.nil ?_
  refine WC.ret ?_
  exact BodyQ.ret (H' := F) (Res.tmp rfl rfl) (fun w h => h) ⟨rfl, rfl⟩
end
def forgetL (b : Int) (l : List Int) : List Int := l.filter fun x => !decide (x = b)
def St.forget (T : St) (b : Int) : St := { T with stale := T.stale.map (forgetL b) }
section
variable {bs bd bc : Nat} {g : Geo} {T : Stw} {C : Cw} {K : World} {F : List Assn}
theorem store_forget (hT : T.Ok g) (b : Int) : Does Tryz.prog 97 #[ptr bs 0, .int .i64 b] K (T.A bs bd g :: F)
    (fun v H' => ∃ T' : Stw, T'.Ok g ∧ T'.sem = T.sem.forget b ∧ H' = T'.A bs bd g :: F) := by
  have hn64 : T.irs.length ≤ 64 := by rw [hT.len]; exact hT.lebs.2
  refine Does.openS ?_
  dsimp only [Stw.parts, List.cons_append, List.nil_append]
  refine Does.enter Tryz.func97 rfl Tryz.ntmps97 rfl ?_
  simp only [env0, Nat.reduceAdd]
  refine WC.sr ?_
  refine WL.box (cs := [_]) (OV.p rfl) rfl rfl (fun b3 => ?_)
  refine WL.nil ?_
  refine WC.sr ?_
  refine WL.mv rfl rfl ?_
  refine WL.nc rfl rfl ?_
  refine WL.val (V.fieldAddr fo126_3 (OV.p rfl)) rfl ?_
  refine WL.ld Tryz.isAgg124 rfl rfl ?_
  refine WL.val (V.len (t := 124) Tryz.runUnderlying124 (OV.p rfl)) rfl ?_
  refine WL.mv rfl rfl ?_
  refine WL.nil ?_
  refine WC.block ?_
  refine WC.loop (σ := Nat × List IRow) (fun s => [(0, ptr bs 0), (3, ptr b3 0), (9, .slice (some ⟨T.b8, 0, none⟩) T.irs.length T.irs.length), (10, .int .i64 (T.irs.length : Int)), (11, .int .i64 (s.1 : Int))]) (fun s => Cells T.b8 42 (s.2.map IRow.v) :: AllA (s.2.map IRow.row) :: Cells b3 3 [.int .i64 b] :: Cells bs 126 (T.cells bd g) :: T.sl :: F) (fun s => s.1 ≤ T.irs.length ∧ s.2.length = T.irs.length ∧ s.2.map IRow.l = (T.irs.take s.1).map (fun r => forgetL b r.l) ++ (T.irs.drop s.1).map IRow.l) (fun s => T.irs.length - s.1) (0, T.irs) ⟨Nat.zero_le _, rfl, by simp⟩ (.cons rfl (.cons rfl (.cons rfl (.cons rfl (.cons rfl (.nil _)))))) (fun w h => h.sel 5 [3, 4, 0, 1, 2] rfl) ?_
  rintro ⟨j, irs⟩ ⟨hj, hil, his⟩
  dsimp only at hj hil his ⊢
  have hcl : (T.cells bd g)[7]? = some (.slice (some ⟨T.b8, 0, none⟩) T.irs.length T.irs.length) := rfl
  refine WC.sr ?_
  refine WL.val (V.lss (OV.p rfl) (OV.p rfl)) rfl ?_
  refine WL.nil ?_
  refine WC.seq ?_
  refine WC.cond rfl (fun hc0 => ?_) (fun hc0 => ?_)
  ·simp only [decide_eq_true_eq, decide_eq_false_iff_not] at hc0
   have hjn : j < T.irs.length := by omega
   obtain ⟨r, hr⟩ : ∃ r, r = irs[j]'(by omega) := ⟨_, rfl⟩
   have hrg : irs[j]? = some r := by rw [hr]; exact List.getElem?_eq_getElem (by omega)
   have hvg : (irs.map IRow.v)[0 + ((j : Nat) : Int).toNat * 1]? = some r.v := by rw [show 0 + ((j : Nat) : Int).toNat * 1 = j by omega, List.getElem?_map, hrg]; rfl
   have hrow : (irs.map IRow.row)[j]'(by rw [List.length_map]; omega) = r.row := by rw [List.getElem_map, hr]
   have hrl : r.l = (T.irs[j]'(by omega)).l := by
     have h1 : (irs.map IRow.l)[j]? = some r.l := by rw [List.getElem?_map, hrg]; rfl
     rw [his, List.getElem?_append_right (by rw [List.length_map, List.length_take]; omega), List.length_map, List.length_take, show j - min j T.irs.length = 0 by omega, List.getElem?_map, List.getElem?_drop, Nat.add_zero, List.getElem?_eq_getElem (by omega)] at h1
     injection h1 with h1
     exact h1.symm
   refine WC.skip ?_
   refine WC.seq ?_
   refine WC.block ?_
   refine WC.sr ?_
   refine WL.mv rfl rfl ?_
   refine WL.val (V.idxB st124 (OV.p rfl) (OV.p rfl) (fun hc => by omega)) rfl ?_
   refine WL.val (V.load Tryz.isAgg42 (OV.p rfl) (fun _ => Rd.here hvg)) rfl ?_
   refine WL.sg rfl rfl ?_
   refine WL.sg rfl rfl ?_
   refine WL.nil ?_
   refine WC.sub (H' := SlA (.slice r.A r.l.length r.c) 3 1 r.l.length (ints .i64 r.l) :: Cells T.b8 42 (irs.map IRow.v) :: AllA ((irs.map IRow.row).eraseIdx j) :: Cells b3 3 [.int .i64 b] :: Cells bs 126 (T.cells bd g) :: T.sl :: F) (Sub.refl _) (fun w h => by
     have h4 := Sat.takeA (k := j) (by rw [List.length_map]; omega) (h.sel 2 [1, 0] rfl)
     rw [hrow] at h4
     exact h4.sel 3 [0, 2, 1] rfl) ?_
   refine WC.regionA (AllA ((irs.map IRow.row).eraseIdx j) :: Cells b3 3 [.int .i64 b] :: Cells bs 126 (T.cells bd g) :: T.sl :: F) (by kernel_rfl) ?_
   refine WA.t 0 rfl (V.move (OV.p rfl)) ?_
   refine WA.t 1 rfl (V.nilCheck (OV.p rfl)) ?_
   refine WA.t 2 rfl (V.fieldAddr fo126_3 (OV.p rfl)) ?_
   refine WA.t 3 rfl (V.load Tryz.isAgg124 (OV.p rfl) (fun _ => by repeat (first | exact Rd.here hcl | apply Rd.up))) ?_
   refine WA.t 4 rfl (V.move (OV.p rfl)) ?_
   refine WA.t 5 rfl (V.move (OV.p rfl)) ?_
   refine WA.t 6 rfl (V.makeFunc (us := []) (vs := [_]) trivial ⟨OV.p rfl, trivial⟩) ?_
   refine WA.o 7 rfl ?_
   refine WL.call (vs := [_, _]) Tryz.call81 ⟨OV.p rfl, OV.p rfl, trivial⟩ (deleteFunc (xs := r.l) (p := fun x => decide (x = b)) (capt := [ptr b3 0]) Tryz.call138 (fun x _ X => forget_is (by repeat (first | exact Rd.here rfl | apply Rd.up)) x)) rfl ?_
   rintro _ _ ⟨q, hq, rfl, rfl⟩
   refine WL.nil ?_
   refine WA.t 8 rfl (V.idxB st124 (OV.p rfl) (OV.p rfl) (fun hc => by omega)) ?_
   refine WA.o 9 rfl ?_
   refine WL.store (cs := [_]) Tryz.sizeOf42 (OV.p rfl) (OV.p rfl) rfl rfl rfl (Upd.up (Upd.at_ (by rw [List.length_map]; omega))) ?_
   refine WL.nil ?_
   refine WA.fin ?_
   refine WC.region ?_
   refine WL.ad rfl rfl rfl ?_
   refine WL.mv rfl rfl ?_
   refine WL.nil ?_
   refine ⟨rfl, ?_⟩
   refine ⟨(j + 1, irs.set j ⟨r.A, r.c, forgetL b r.l⟩), ⟨hjn, by show (irs.set _ _).length = T.irs.length; rw [List.length_set]; exact hil, ?_⟩, (by show T.irs.length - (j + 1) < T.irs.length - j; omega), .cons rfl (.cons rfl (.cons rfl (.cons rfl (.cons (look_eq rfl (by simp)) (.nil _))))), fun w h => ?_⟩
   · show (irs.set j _).map IRow.l = (T.irs.take (j + 1)).map (fun r => forgetL b r.l) ++ (T.irs.drop (j + 1)).map IRow.l
     rw [List.map_set, his, List.set_append_right _ _ (by rw [List.length_map, List.length_take]; omega), List.length_map, List.length_take, show j - min j T.irs.length = 0 by omega, List.drop_eq_getElem_cons (show j < T.irs.length by omega), List.map_cons, List.set_cons_zero, List.take_add_one, List.getElem?_eq_getElem (by omega), List.map_append, List.append_assoc]
     show _ ++ forgetL b r.l :: _ = _ ++ ([forgetL b (T.irs[j]'(by omega)).l] ++ _)
     rw [hrl]; rfl
   · subst hq
     have e1 : SlA (.slice r.A (r.l.filter fun x => !decide (x = b)).length r.c) 3 1 (r.l.filter fun x => !decide (x = b)).length (ints .i64 (r.l.filter fun x => !decide (x = b))) = IRow.row ⟨r.A, r.c, forgetL b r.l⟩ := rfl
     rw [e1] at h
     have h6 := Sat.putA (l := irs.map IRow.row) (k := j) (by rw [List.length_map]; omega) (h.sel 3 [0, 2, 1] rfl)
     have e2 : (irs.map IRow.v).set (0 + (j : Int).toNat * 1) (.slice r.A (r.l.filter fun x => !decide (x = b)).length r.c) = (irs.set j ⟨r.A, r.c, forgetL b r.l⟩).map IRow.v := by
       rw [show 0 + ((j : Nat) : Int).toNat * 1 = j by omega, List.map_set]; rfl
     rw [e2, ← List.map_set] at h6
     exact h6.p1
  ·simp only [decide_eq_true_eq, decide_eq_false_iff_not] at hc0
   refine WC.exit ?_
   obtain rfl : j = T.irs.length := by omega
   obtain ⟨T', hT'⟩ : ∃ T' : Stw, T' = { T with irs := irs } := ⟨_, rfl⟩
   refine BodyQ.normal (H' := T'.A bs bd g :: F) (Res.none rfl) (fun w h => ?_) ⟨T', ?_, ?_, rfl⟩
   · refine Sat.all (l := Stw.parts bs bd g T') (H := F) ?_
     rw [hT']
     unfold Stw.parts Stw.cells
     dsimp only
     rw [hil]
     exact h.sel 5 [3, 4, 0, 1] rfl
   · rw [hT']
     exact ⟨by show irs.length = T.stands.length; rw [hil, hT.len], hT.lebs, hT.next, hT.at_, hT.std⟩
   · rw [hT']
     unfold Stw.sem St.forget
     dsimp only
     rw [his, List.take_of_length_le (by omega), List.drop_eq_nil_of_le (by omega)]
     simp
end
end Go.Proofs.YtohkefolnmcjnaaGreat
namespace Go.Sl
open Go.RowKit Go.BigFrame
set_option linter.unusedVariables false
set_option linter.unusedSimpArgs false
def noDefer (ops : Array Oper) : Bool := ops.all fun o => match o.op with | .defer _ => false | _ => true
theorem noDefer_spec {ops : Array Oper} (h : noDefer ops = true) {i : Nat} {o : Oper} (hi : ops[i]? = some o) : ∀ c, o.op ≠ .defer c := fun c hc => by
  unfold noDefer at h
  rw [Array.all_eq_true_iff_forall_mem] at h
  have h1 := h o (Array.mem_of_getElem? hi)
  rw [hc] at h1
  cases h1
section
variable {P : Program} {q : Exit → Act → World → Prop} {ops : Array Oper} {md : Region.Mode} {l : Option Nat}
theorem upon_in {o : Oper} {a : Act} {K : Act → World → Prop} {x : Result Next} (h : o.upon P a K q x) : o.uponIn (inF l) 0 P a K q x := by
  cases x with
  | ok nx w' =>
    cases nx <;> simp only [Oper.upon, Oper.uponIn] at h ⊢ <;> first
      | exact h
      | exact ⟨inF_depth l, inF_calls.2 h⟩
      | (refine ⟨inF_depth l, fun c cs _ => ?_⟩
         obtain ⟨v, w'', h1, h2⟩ := h c cs
         refine ⟨v, w'', h1, ?_⟩
         cases l
         · exact stepsIn_wide.2 h2
         · rw [fenced_inRound]; exact stepsIn_wide.2 h2)
  | halt x w' => cases x <;> simp only [Oper.upon, Oper.uponIn] at h ⊢ <;> exact h
theorem wpOp_in (hnd : noDefer ops = true) (hlo : ¬ LetsOut q) {i : Nat} {S S' : Act → World → Prop} (hS : ∀ a w, S a w → S' a w) {a : Act} {w : World} (h : wpOp P ops q i S a w) : wpOpIn (inF l) 0 P ops q i S' a w := by
  unfold wpOp at h
  unfold wpOpIn
  cases ho : ops[i]? with
  | none => rw [ho] at h; exact hS _ _ h
  | some o =>
    rw [ho] at h
    dsimp only at h ⊢
    split at h
    · rename_i hw
      rw [if_pos hw]
      rcases h with h | ⟨_, h⟩
      · refine ⟨fun f _ => inF_fn _ f, ?_⟩
        rw [Oper.semAt_eq _ _ _ (noDefer_spec hnd ho)]
        exact upon_in (Oper.wp_mono hS h)
      · exact absurd h hlo
    · rename_i hw
      rw [if_neg hw]
      exact ⟨fun f _ => inF_fn _ f, hS _ _ h⟩
theorem wpAny_in (hnd : noDefer ops = true) (hlo : ¬ LetsOut q) : ∀ (fuel : Nat) (listed : Array Bool) (a : Act) (w : World), wpAny P md ops q fuel listed a w → wpAnyIn (inF l) 0 P md ops q fuel listed a w
  | 0, _, _, _, h => h
  | fuel + 1, _, _, _, h => ⟨h.1, fun i hi => wpOp_in hnd hlo (fun a w hh => wpAny_in hnd hlo fuel _ a w hh) (h.2 i hi)⟩
end
abbrev inR (l : Option Nat) (Q : Post) : Post := fun Mo x e H => Q ⟨some l, Mo.ds⟩ x e H
section
variable {K : World} {H : List Assn} {P : Program} {n : Nat} {e : Env} {Q : Post}
theorem lift_inR {l : Option Nat} {x : Exit} {a : Act} {w : World} (h : lift none K n (inR l Q) x a w) : lift (some l) K n Q x a w := by
  obtain ⟨ds, e, H, h1, h2, h3⟩ := h
  exact ⟨ds, e, H, ⟨h1.defers, h1.size, h1.at_⟩, h2, h3⟩
theorem WC.regionAR {l : Option Nat} {id : Nat} {os : List Oper} {ds : List Deferred} (F0 : List Assn) (hm : P.follows .mixedOrders = true) (h : WA ⟨none, ds⟩ P K n F0 os.toArray (inR l Q) os.length (Array.replicate os.length false) e H)
    (hnd : noDefer os.toArray = true := by kernel_rfl) (hlo : ∀ (p : Mode × Env) H, ¬ Q p.1 .outgrown p.2 H := by exact fun _ _ h => h) : WC ⟨some l, ds⟩ P K n (.region id os.toArray true) Q e H := fun a w ha hw => by
  show (Code.region id os.toArray true).wpIn (inF l) 0 P _ a w
  have hl : ¬ LetsOut (lift none K n (inR l Q)) := by
    rintro ⟨a, w, ds', e', H', _, _, h3⟩
    exact hlo (⟨some l, ds'⟩, e') H' h3
  have h1 := h a _ ⟨ha.defers, ha.size, ha.at_⟩ hw.drew
  have h2 := wpAny_in (l := l) hnd hl _ _ _ _ (wpAny_of_C (C := fun w => Sat K w F0) _ _ _ _ h1)
  have h3 : (Code.region id os.toArray true).wpIn (inF l) 0 P (lift none K n (inR l Q)) a w := wpIn_region_any hm (by simpa using h2)
  exact wpIn_mono h3 fun x a w h => lift_inR h
theorem WC.regionQR {l : Option Nat} {id : Nat} {os : List Oper} {ds : List Deferred} (hm : P.follows .mixedOrders = true) (hB : Region.lexB .any os.toArray = true) (h : WQ ⟨none, ds⟩ P K n os.toArray os (fun e' => Q ⟨some l, ds⟩ .normal e' H) e H)
    (hnd : noDefer os.toArray = true := by kernel_rfl) (hlo : ∀ (p : Mode × Env) H, ¬ Q p.1 .outgrown p.2 H := by exact fun _ _ h => h) : WC ⟨some l, ds⟩ P K n (.region id os.toArray true) Q e H := fun a w ha hw => by
  show (Code.region id os.toArray true).wpIn (inF l) 0 P _ a w
  have hl : ¬ LetsOut (lift none K n (inR l Q)) := by
    rintro ⟨a, w, ds', e', H', _, _, h3⟩
    exact hlo (⟨some l, ds'⟩, e') H' h3
  have h1 := h a ⟨ha.defers, ha.size, ha.at_⟩
  simp only [Region.lexB, Bool.and_eq_true] at hB
  have h2 : wpAny P .any os.toArray (lift none K n (inR l Q)) os.toArray.size (Array.replicate os.toArray.size false) a { w with drawn := w.drawn + 1 } := by
    refine wpAny_of_quiet (C := fun w => Sat K w H) (Q := fun a' => ∃ e', Agree ⟨none, ds⟩ n e' a' ∧ Q ⟨some l, ds⟩ .normal e' H) (fun a' w' hw' ⟨e', k1, k2⟩ => ⟨ds, e', H, k1, hw', k2⟩) _ _ _ _ hw.drew ?_
    have := wpAnyQ_lex (C := fun w => Sat K w H) (md := .any) hB.1 os.toArray.toList 0 (Array.replicate os.toArray.size false) a (by simp) (by simpa using hB.2) (by simpa using h1)
    simpa using this
  have h3 : (Code.region id os.toArray true).wpIn (inF l) 0 P (lift none K n (inR l Q)) a w := wpIn_region_any hm (wpAny_in hnd hl _ _ _ _ h2)
  exact wpIn_mono h3 fun x a w h => lift_inR h
end
end Go.Sl
namespace Go.Proofs.YtohkefolnmcjnaaGreat
open Go.Sl Go.RowKit
set_option linter.unusedVariables false
set_option linter.unusedSimpArgs false
set_option maxRecDepth 20000
section
variable {bs bd bc : Nat} {g : Geo} {K : World} {F : List Assn}
theorem free_make : Does Tryz.prog 96 #[ptr bs 0] K F (fun v H' => ∃ b1, v = .func (.func 136) #[] #[ptr b1 0] ∧ H' = Cells b1 56 [ptr bs 0] :: F) := by
  refine Does.enter Tryz.func96 rfl Tryz.ntmps96 rfl ?_
  simp only [env0, Nat.reduceAdd]
  refine WC.sr ?_
  refine WL.box (cs := [_]) (OV.p rfl) rfl rfl (fun b1 => ?_)
  refine WL.sg rfl rfl ?_
  refine WL.nil ?_
  refine WC.sr ?_
  refine WL.val (V.makeFunc (us := []) (vs := [_]) trivial ⟨OV.p rfl, trivial⟩) rfl ?_
  refine WL.sg rfl rfl ?_
  refine WL.nil ?_
  refine WC.ret ?_
  exact BodyQ.ret (H' := Cells b1 _ _ :: F) (Res.tmp rfl rfl) (fun w h => h) ⟨b1, rfl, rfl⟩
theorem free_does {l b1 : Nat} {Y1 Y2 : Assn} {gd std : List Int} {at0 : Int} {n : Nat} (hn : g.bl = (n : Int)) (hgm : g.mays) (hat : 0 ≤ at0 ∧ at0 < g.bl) (I : Nat → Cw → Stw → Prop) (Stop : Assn → List Assn → Prop)
    (hI : ∀ j C T, I j C T → C.Ok ∧ C.g = g ∧ T.Ok g ∧ T.stands = std ∧ T.at_ = at0)
    (hskip : ∀ j C T, j < n → ¬ ((at0 + (j : Int)) % g.bl ∈ gd ∧ ¬ (at0 + (j : Int)) % g.bl ∈ std) → I j C T → I (j + 1) C T)
    (hround : ∀ j C T X, j < n → ((at0 + (j : Int)) % g.bl ∈ gd ∧ ¬ (at0 + (j : Int)) % g.bl ∈ std) → I j C T → YieldsTo Tryz.prog K none l #[.int .i64 ((at0 + (j : Int)) % g.bl)] (Y1 :: Y2 :: X :: C.A bc :: DvA bd bc g :: T.A bs bd g :: Cells b1 56 [ptr bs 0] :: F)
      (fun b H' => (b = true ∧ ∃ C' T', I (j + 1) C' T' ∧ H' = Y1 :: Y2 :: X :: C'.A bc :: DvA bd bc g :: T'.A bs bd g :: Cells b1 56 [ptr bs 0] :: F) ∨ (b = false ∧ Stop X H')))
    {C0 : Cw} {T0 : Stw} (hgd : gd = C0.sem.good) (h0 : I 0 C0 T0) :
    Does Tryz.prog 136 #[.func (.yield l) #[] #[], ptr b1 0] K (Y1 :: Y2 :: C0.A bc :: DvA bd bc g :: T0.A bs bd g :: Cells b1 56 [ptr bs 0] :: F)
      (fun v H' => ∃ X, (∃ C T, I n C T ∧ H' = Y1 :: Y2 :: X :: C.A bc :: DvA bd bc g :: T.A bs bd g :: Cells b1 56 [ptr bs 0] :: F) ∨ Stop X H') := by
  have hgb := hgm
  unfold Geo.mays at hgb
  obtain ⟨hC0, hCg0, hT0, hst0, hat0⟩ := hI _ _ _ h0
  have hgl : gd.length ≤ 256 := by
    have h1 := Chip.goodTo_length C0.sem C0.sem.g.bl.toNat
    have h2 : C0.sem.g.bl.toNat ≤ 256 := by rw [show C0.sem.g = C0.g from rfl, hCg0]; omega
    rw [hgd]; unfold Chip.good; omega
  refine Does.enterY Tryz.func136 rfl Tryz.ntmps136 rfl ?_
  simp only [env0, Nat.reduceAdd]
  refine WC.sr ?_
  refine WL.ld Tryz.isAgg56 rfl rfl ?_
  refine WL.nc rfl rfl ?_
  refine WL.val (V.fieldAddr fo126_0 (OV.p rfl)) rfl ?_
  refine WL.val (V.load Tryz.isAgg31 (OV.p rfl) (fun _ => by repeat (first | exact Stw.rds 0 _ rfl | apply Rd.up))) rfl ?_
  refine WL.sub (Sub.refl _) (fun w h => h.sel 6 [2, 3, 0, 1, 4, 5] rfl) ?_
  refine WL.call (vs := [_]) Tryz.call18 ⟨OV.p rfl, trivial⟩ (drive_GoodG hC0 hCg0) rfl ?_
  rintro _ _ ⟨Ag, cg, rfl, rfl⟩
  rw [← hgd]
  refine WL.sg rfl rfl ?_
  refine WL.nil ?_
  refine WC.sr ?_
  refine WL.ld Tryz.isAgg56 rfl rfl ?_
  refine WL.nc rfl rfl ?_
  refine WL.val (V.fieldAddr fo126_1 (OV.p rfl)) rfl ?_
  refine WL.val (V.fieldAddr fo23_0 (OV.p rfl)) rfl ?_
  refine WL.val (V.load Tryz.isAgg3 (OV.p rfl) (fun _ => by repeat (first | exact Stw.rds 1 _ rfl | apply Rd.up))) rfl ?_
  refine WL.mv rfl rfl ?_
  refine WL.nil ?_
  refine WC.block ?_
  obtain ⟨X, hX⟩ : ∃ X, X = SlA (.slice Ag gd.length cg) 3 1 gd.length (ints .i64 gd) := ⟨_, rfl⟩
  rw [← hX]
  have hsq : ∀ {H : List Assn}, Seq K (X :: H) Ag gd.length 1 (ints .i64 gd) := fun {H} => by rw [hX]; exact SlA.seq (by rw [ints_length, Nat.mul_one])
  refine WC.loop (σ := Nat × Cw × Stw) (fun s => [(0, .func (.yield l) #[] #[]), (1, ptr b1 0), (3, .slice Ag gd.length cg), (15, .int .i64 (n : Int)), (16, .int .i64 (s.1 : Int))]) (fun s => Y1 :: Y2 :: X :: s.2.1.A bc :: DvA bd bc g :: s.2.2.A bs bd g :: Cells b1 56 [ptr bs 0] :: F) (fun s => s.1 ≤ n ∧ I s.1 s.2.1 s.2.2) (fun s => n - s.1) (0, C0, T0) ⟨Nat.zero_le _, h0⟩ (.cons rfl (.cons rfl (.cons rfl (.cons (look_eq rfl (by rw [hn])) (.cons rfl (.nil _)))))) (fun w h => h.sel 7 [3, 4, 0, 1, 2, 5, 6] rfl) ?_
  rintro ⟨j, C, T⟩ ⟨hj, hIj⟩
  dsimp only at hj hIj ⊢
  obtain ⟨hC, hCg, hT, hst, hat⟩ := hI _ _ _ hIj
  refine WC.sr ?_
  refine WL.val (V.lss (OV.p rfl) (OV.p rfl)) rfl ?_
  refine WL.nil ?_
  refine WC.seq ?_
  refine WC.cond rfl (fun hc0 => ?_) (fun hc0 => ?_)
  ·simp only [decide_eq_true_eq, decide_eq_false_iff_not] at hc0
   have hjn : j < n := by omega
   obtain ⟨b, hb⟩ : ∃ b, b = (at0 + (j : Int)) % g.bl := ⟨_, rfl⟩
   have hro := hround j C T X hjn
   have hsk := hskip j C T hjn
   rw [← hb] at hro hsk
   refine WC.skip ?_
   refine WC.seq ?_
   refine WC.block ?_
   refine WC.sr ?_
   refine WL.mv rfl rfl ?_
   refine WL.sg rfl rfl ?_
   refine WL.nil ?_
   refine WC.seq ?_
   refine WC.regionQR (by kernel_rfl) (by kernel_rfl) ?_
   refine WQ.val (V.load Tryz.isAgg56 (OV.p rfl) (fun hc => by repeat (first | exact Rd.here rfl | apply Rd.up))) rfl ?_
   refine WQ.val (V.nilCheck (OV.p rfl)) rfl ?_
   refine WQ.val (V.fieldAddr fo126_5 (OV.p rfl)) rfl ?_
   refine WQ.val (V.val_eq (v' := .int .i64 at0) (V.load Tryz.isAgg3 (OV.p rfl) (fun _ => by repeat (first | exact Stw.rds 9 _ rfl | apply Rd.up))) (fun _ => by rw [hat])) rfl ?_
   refine WQ.val (V.move (OV.p rfl)) rfl ?_
   refine WQ.val (V.addI (OV.p rfl) (OV.p rfl) (fun hc => by first | omega | (simp at hc; omega))) rfl ?_
   refine WQ.val (V.load Tryz.isAgg56 (OV.p rfl) (fun hc => by repeat (first | exact Rd.here rfl | apply Rd.up))) rfl ?_
   refine WQ.val (V.nilCheck (OV.p rfl)) rfl ?_
   refine WQ.val (V.fieldAddr fo126_1 (OV.p rfl)) rfl ?_
   refine WQ.val (V.fieldAddr fo23_0 (OV.p rfl)) rfl ?_
   refine WQ.val (V.load Tryz.isAgg3 (OV.p rfl) (fun _ => by repeat (first | exact Stw.rds 1 _ rfl | apply Rd.up))) rfl ?_
   refine WQ.val (V.val_eq (v' := .int .i64 b) (V.remI (OV.p rfl) (OV.p rfl) (fun _ => by omega)) (fun _ => by rw [hb])) rfl ?_
   refine WQ.val (V.assign (OV.p rfl)) rfl ?_
   refine WQ.nil ?_
   refine WC.seq ?_
   refine WC.sr ?_
   refine WL.mv rfl rfl ?_
   refine WL.mv rfl rfl ?_
   refine WL.call (vs := [_, _]) Tryz.call137 ⟨OV.p rfl, OV.p rfl, trivial⟩ (contains_ints (by repeat (first | exact hsq | apply Seq.up)) (by omega) b) rfl ?_
   rintro _ H0 ⟨rfl, h0⟩
   subst H0
   refine WL.val (V.not (OV.p rfl)) rfl ?_
   refine WL.mv rfl rfl ?_
   refine WL.valG (oj := _) rfl rfl rfl GC.f (V.load Tryz.isAgg56 (OV.p rfl) (fun hc => by repeat (first | exact Rd.here rfl | apply Rd.up))) rfl ?_
   refine WL.valG (oj := _) rfl rfl rfl GC.f (V.nilCheck (OV.g rfl id)) rfl ?_
   refine WL.valG (oj := _) rfl rfl rfl GC.f (V.fieldAddr fo126_2 (OV.g rfl id)) rfl ?_
   refine WL.valG (oj := _) rfl rfl rfl GC.f (V.load Tryz.isAgg42 (OV.g rfl id) (fun hc => by repeat (first | exact Stw.rds 6 _ rfl | apply Rd.up))) rfl ?_
   refine WL.valG (oj := _) rfl rfl rfl GC.f (V.move (OV.p rfl)) rfl ?_
   refine WL.callG (oj := _) (vs := [_, _]) rfl rfl rfl GC.f Tryz.call137 ⟨OV.g rfl id, OV.g rfl id, trivial⟩ (fun hg => contains_ints (by repeat (first | exact Stw.seqS | apply Seq.up)) (by have := hT.lebs; omega) b) rfl ?_
   refine WL.val (V.pickOr (OV.p rfl) (OV.g rfl id)) rfl ?_
   refine WL.nil ?_
   refine WC.cond rfl (fun hc1 => ?_) (fun hc1 => ?_)
   ·rw [hst] at hc1
    have h1 := hc1
    refine WC.exit ?_
    refine WC.region ?_
    refine WL.ad rfl rfl rfl ?_
    refine WL.mv rfl rfl ?_
    refine WL.nil ?_
    refine ⟨rfl, ?_⟩
    first
    | exact ⟨(j + 1, C2, T2), ⟨hjn, hI2⟩, (by show n - (j + 1) < n - j; omega), .cons rfl (.cons rfl (.cons rfl (.cons rfl (.cons (look_eq rfl (by simp)) (.nil _))))), fun w h => h⟩
    | exact ⟨(j + 1, C, T), ⟨hjn, hsk (fun hn => by simp only [Bool.or_eq_true, Bool.not_eq_true', decide_eq_false_iff_not, decide_eq_true_eq] at h1; rcases h1 with h | h; exact h hn.1; exact hn.2 h) hIj⟩, (by show n - (j + 1) < n - j; omega), .cons rfl (.cons rfl (.cons rfl (.cons rfl (.cons (look_eq rfl (by simp)) (.nil _))))), fun w h => h⟩
   ·rw [hst] at hc1
    have h1 := hc1
    refine WC.skip ?_
    refine WC.sr ?_
    refine WL.mv rfl rfl ?_
    refine WL.mv rfl rfl ?_
    refine WL.callY (r := none) (l := l) (vs := [_]) (OV.p rfl) ⟨OV.p rfl, trivial⟩ (hro (by simpa using h1) hIj) rfl ?_
    rintro yb YH hy
    refine WL.val (V.not (OV.p rfl)) rfl ?_
    refine WL.nil ?_
    refine WC.cond rfl (fun hc2 => ?_) (fun hc2 => ?_)
    ·skip
     have h2 := hc2
     simp only [Bool.not_eq_true', Bool.not_eq_false'] at h2
     have hstop : Stop X YH := by
       rcases hy with ⟨h3, _⟩ | ⟨_, h3⟩
       · rw [h3] at h2; cases h2
       · exact h3
     refine WC.ret ?_
     exact BodyQ.ret (H' := YH) (Res.none rfl) (fun w h => h) ⟨X, .inr hstop⟩
    ·skip
     have h2 := hc2
     simp only [Bool.not_eq_true', Bool.not_eq_false'] at h2
     obtain ⟨C2, T2, hI2, rfl⟩ : ∃ C2 T2, I (j + 1) C2 T2 ∧ YH = Y1 :: Y2 :: X :: C2.A bc :: DvA bd bc g :: T2.A bs bd g :: Cells b1 56 [ptr bs 0] :: F := by
       rcases hy with ⟨_, h3⟩ | ⟨h3, _⟩
       · exact h3
       · rw [h3] at h2; cases h2
     refine WC.skip ?_
     refine WC.region ?_
     refine WL.ad rfl rfl rfl ?_
     refine WL.mv rfl rfl ?_
     refine WL.nil ?_
     refine ⟨rfl, ?_⟩
     first
     | exact ⟨(j + 1, C2, T2), ⟨hjn, hI2⟩, (by show n - (j + 1) < n - j; omega), .cons rfl (.cons rfl (.cons rfl (.cons rfl (.cons (look_eq rfl (by simp)) (.nil _))))), fun w h => h⟩
     | exact ⟨(j + 1, C, T), ⟨hjn, hsk (fun hn => by simp only [Bool.or_eq_true, Bool.not_eq_true', decide_eq_false_iff_not, decide_eq_true_eq] at h1; rcases h1 with h | h; exact h hn.1; exact hn.2 h) hIj⟩, (by show n - (j + 1) < n - j; omega), .cons rfl (.cons rfl (.cons rfl (.cons rfl (.cons (look_eq rfl (by simp)) (.nil _))))), fun w h => h⟩
  ·simp only [decide_eq_true_eq, decide_eq_false_iff_not] at hc0
   refine WC.exit ?_
   obtain rfl : j = n := by omega
   exact BodyQ.normal (H' := Y1 :: Y2 :: X :: C.A bc :: DvA bd bc g :: T.A bs bd g :: Cells b1 56 [ptr bs 0] :: F) (Res.none rfl) (fun w h => h) ⟨X, .inl ⟨C, T, hIj, rfl⟩⟩
end
end Go.Proofs.YtohkefolnmcjnaaGreat
