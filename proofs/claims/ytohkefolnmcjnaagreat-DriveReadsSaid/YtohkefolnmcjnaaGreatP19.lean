import Derived.Test.YtohkefolnmcjnaaGreatP16
import Derived.Test.YtohkefolnmcjnaaGreatP17
import Derived.Test.YtohkefolnmcjnaaGreatP18
import Derived.Test.YtohkefolnmcjnaaGreatProg
import Derived.Shelf.Sort.Plain
import Derived.Test.YtohkefolnmcjnaaGreatP13
import Derived.Test.YtohkefolnmcjnaaGreatP4
import Derived.Test.YtohkefolnmcjnaaGreatP12
/- A packed page with some bits turned is read as what was packed. -/
namespace Go.Proofs.YtohkefolnmcjnaaGreat
open Go.Sl Go.RowKit
set_option linter.unusedVariables false
set_option linter.unusedSimpArgs false
set_option maxRecDepth 20000

theorem nodup_le : ∀ {l m : List Nat}, l.Nodup → (∀ x ∈ l, x ∈ m) → l.length ≤ m.length
  | [], m, _, _ => Nat.zero_le _
  | a :: l, m, hn, hs => by
    have hne := List.nodup_cons.1 hn
    have ha := hs a (.head _)
    have h1 := nodup_le (l := l) (m := m.erase a) hne.2 (fun x hx => (List.mem_erase_of_ne (fun h : x = a => hne.1 (by rw [← h]; exact hx))).2 (hs x (.tail _ hx)))
    rw [List.length_erase_of_mem ha] at h1
    have h2 : 0 < m.length := List.length_pos_of_mem ha
    rw [List.length_cons]; omega
theorem natsOf_getD (ys : List Int) (i : Nat) : (natsOf ys).getD i 0 = (ys.getD i 0).toNat := by
  unfold natsOf
  simp only [List.getD, List.getElem?_map]
  cases ys[i]? <;> rfl
theorem natsOf_turn1 (ys : List Int) {i : Int} (hi : 0 ≤ i) : natsOf (turn1 ys i) = flipB (natsOf ys) i.toNat := by
  unfold turn1 flipB
  rw [natsOf_getD]
  unfold natsOf flip8
  rw [List.map_set, Int.toNat_natCast, show (i / 8).toNat = i.toNat / 8 by omega, show (i % 8).toNat = i.toNat % 8 by omega]
def flipAll (xs ks : List Nat) : List Nat := ks.foldl flipB xs
theorem natsOf_turn : ∀ (l xs : List Int), (∀ i ∈ l, 0 ≤ i) → natsOf (turn xs l) = flipAll (natsOf xs) (natsOf l)
  | [], _, _ => rfl
  | i :: l, xs, h => by
    rw [turn, List.foldl_cons, ← turn, natsOf_turn l _ (fun j hj => h j (.tail _ hj)), natsOf_turn1 _ (h i (.head _))]
    rfl
theorem flipAll_length : ∀ (ks xs : List Nat), (flipAll xs ks).length = xs.length
  | [], _ => rfl
  | k :: ks, xs => by
    show (flipAll (flipB xs k) ks).length = _
    rw [flipAll_length ks, flipB_length]
theorem flipAll_small : ∀ (ks xs : List Nat), Small 256 xs → Small 256 (flipAll xs ks)
  | [], _, h => h
  | k :: ks, xs, h => flipAll_small ks _ (flipB_small h k)
theorem flipAll_bit : ∀ (ks xs : List Nat), ks.Nodup → (∀ k ∈ ks, k < 8 * xs.length) → ∀ k, bitAt (flipAll xs ks) k = (bitAt xs k ^^ decide (k ∈ ks))
  | [], xs, _, _, k => by simp [flipAll]
  | i :: ks, xs, hn, hk, k => by
    have hne := List.nodup_cons.1 hn
    show bitAt (flipAll (flipB xs i) ks) k = _
    rw [flipAll_bit ks _ hne.2 (fun j hj => by rw [flipB_length]; exact hk j (.tail _ hj)), bitAt_flip (hk i (.head _)), Bool.xor_assoc]
    congr 1
    by_cases h : k = i
    · subst h; simp [hne.1]
    · rw [decide_eq_false (show ¬ i = k from fun e => h e.symm), Bool.false_xor]
      apply decide_eq_decide.2
      rw [List.mem_cons]
      exact ⟨.inr, fun e => e.resolve_left h⟩
theorem flipAll_byte : ∀ (ks xs : List Nat) (p : Nat), (∀ k ∈ ks, k / 8 ≠ p) → (flipAll xs ks).getD p 0 = xs.getD p 0
  | [], _, _, _ => rfl
  | i :: ks, xs, p, h => by
    show (flipAll (flipB xs i) ks).getD p 0 = _
    rw [flipAll_byte ks _ p (fun k hk => h k (.tail _ hk))]
    unfold flipB
    rw [getD_set, if_neg (fun hh => h i (.head _) hh.1)]
theorem getD_sub (xs : List Nat) (a B i : Nat) : ((xs.drop a).take B).getD i 0 = if i < B then xs.getD (a + i) 0 else 0 := by
  simp only [List.getD, List.getElem?_take, List.getElem?_drop]
  split <;> rfl
theorem bitAt_sub (xs : List Nat) (a B k : Nat) (hk : k < 8 * B) : bitAt ((xs.drop a).take B) k = bitAt xs (8 * a + k) := by
  unfold bitAt
  rw [getD_sub, if_pos (by omega), show (8 * a + k) / 8 = a + k / 8 by omega, show (8 * a + k) % 8 = k % 8 by omega]
section
variable {t B S : Nat} {d : List Nat}
/-- Where a bit of sector j's word lies in the page. -/
def plc (t B n j e : Nat) : Nat := if 13 * t ≤ e then 8 * (j * n) + (e - 13 * t) else 8 * (j * n + B) + e
def secE (t B n : Nat) (ks : List Nat) (j : Nat) : List Nat := (List.range (13 * t + 8 * B)).filter fun e => decide (plc t B n j e ∈ ks)
theorem secE_nodup (t B n : Nat) (ks : List Nat) (j : Nat) : (secE t B n ks j).Nodup := List.Pairwise.filter _ List.nodup_range
theorem secE_len {n j : Nat} {ks : List Nat} (hn : n = B + moreLen t) : (secE t B n ks j).length ≤ (ks.filter fun k => decide (k / 8 / n = j)).length := by
  have hm8 : 13 * t ≤ 8 * moreLen t := by unfold moreLen; omega
  have hinj : ∀ a b, a < 13 * t + 8 * B → b < 13 * t + 8 * B → plc t B n j a = plc t B n j b → a = b := fun a b ha hb h => by
    unfold plc at h
    split at h <;> split at h <;> omega
  have h1 := nodup_le (l := (secE t B n ks j).map (plc t B n j)) (m := ks.filter fun k => decide (k / 8 / n = j)) (by
    unfold List.Nodup
    rw [List.pairwise_map]
    refine List.Pairwise.imp_of_mem ?_ (secE_nodup t B n ks j)
    intro a b ha hb hab h
    exact hab (hinj a b (List.mem_range.1 (List.mem_filter.1 ha).1) (List.mem_range.1 (List.mem_filter.1 hb).1) h)) (fun x hx => by
    obtain ⟨e, he, rfl⟩ := List.mem_map.1 hx
    obtain ⟨h2, h3⟩ := List.mem_filter.1 he
    have h2 := List.mem_range.1 h2
    refine List.mem_filter.2 ⟨of_decide_eq_true h3, decide_eq_true ?_⟩
    have hB : plc t B n j e / 8 < (j + 1) * n ∧ j * n ≤ plc t B n j e / 8 := by
      rw [Nat.succ_mul]
      unfold plc
      split <;> omega
    exact Nat.div_eq_of_lt_le hB.2 hB.1)
  rwa [List.length_map] at h1
theorem readTo_many : ∀ (k j : Nat) (acc : List Nat) (m0 : Nat) (c : Nat → Nat), m0 ≤ t → (∀ i, c i ≤ t) → ∃ N, N ≤ t ∧ readTo ((List.range' j k).map fun i => some ((sect B d i, encB t (sect B d i)), c i)) acc m0 = ⟨0, acc ++ (d.drop (j * B)).take (k * B), N⟩
  | 0, j, acc, m0, c, h0, h => ⟨m0, h0, by simp [readTo]⟩
  | k + 1, j, acc, m0, c, h0, h => by
    obtain ⟨N, hN, h1⟩ := readTo_many k (j + 1) (acc ++ sect B d j) (max m0 (c j)) c (by have := h j; omega) h
    refine ⟨N, hN, ?_⟩
    rw [List.range'_succ, List.map_cons, readTo, h1]
    congr 1
    rw [List.append_assoc]
    congr 1
    unfold sect
    rw [show (k + 1) * B = B + k * B by rw [Nat.succ_mul, Nat.add_comm], List.take_add, List.drop_drop, Nat.succ_mul]
/-- What is packed is read, though in each sector up to t bits are turned. -/
theorem read_flip (ht : 1 ≤ t ∧ t ≤ 8) (hB : B ≤ 512) (h8 : Small 256 d) (hl : d.length = S * B) {ks : List Nat} (hk : ks.Nodup) (hks : ∀ k ∈ ks, k < 8 * (S * (B + moreLen t))) (hc : ∀ j, (ks.filter fun k => decide (k / 8 / (B + moreLen t) = j)).length ≤ t) :
    ∃ N, N ≤ t ∧ readF t S B (flipAll (packF t S B d) ks) = ⟨0, d, N⟩ := by
  obtain ⟨n, hn⟩ : ∃ n, n = B + moreLen t := ⟨_, rfl⟩
  rw [← hn] at hks hc
  obtain ⟨P, hP⟩ : ∃ P, P = packF t S B d := ⟨_, rfl⟩
  have hPl : P.length = S * n + 1 := by rw [hP, packF_length ht h8 hl, hn]; rfl
  have hP8 : Small 256 P := by rw [hP]; exact packF_small ht h8
  have hst : stateF t S n P = 0 := by rw [hP, hn]; exact packF_state ht h8 hl
  have hz : P.getD (S * n) 0 = 0 := by
    unfold stateF at hst
    split at hst
    · assumption
    · split at hst
      · cases hst
      · split at hst <;> cases hst
  have hst2 : stateF t S n (flipAll P ks) = 0 := by
    unfold stateF
    rw [if_pos]
    rw [flipAll_byte ks P (S * n) (fun k hk => by have := hks k hk; omega)]
    exact hz
  have hlt : ∀ k ∈ ks, k < 8 * P.length := fun k hk => by have := hks k hk; omega
  have hbit := flipAll_bit ks P hk hlt
  have hsec : ∀ j, j < S → uSec t B n (flipAll P ks) j = some ((sect B d j, encB t (sect B d j)), (secE t B n ks j).length) := fun j hj => by
    have e1 : secD B n P j = sect B d j := by rw [hP, hn]; exact (packF_split ht h8 hl hj).1
    have e2 : secM B n P j = encB t (sect B d j) := by rw [hP, hn]; exact (packF_split ht h8 hl hj).2
    have hsl := sect_length hl hj
    have hjn : (j + 1) * n ≤ S * n := Nat.mul_le_mul_right _ hj
    rw [Nat.succ_mul] at hjn
    have hfl := flipAll_length ks P
    unfold uSec
    refine dec_mends ht (sect_small h8 j) (by omega) (Small.take (Small.drop (flipAll_small ks P hP8))) (Small.take (Small.drop (Small.drop (flipAll_small ks P hP8)))) ?_ ?_ (secE_nodup t B n ks j) (fun e he => ?_) ?_ (fun i hi => ?_)
    · show ((_ : List Nat).take B).length = _
      rw [List.length_take, List.length_drop]; omega
    · show ((_ : List Nat).take (n - B)).length = _
      rw [List.length_take, List.length_drop, List.length_drop]; omega
    · have := List.mem_range.1 (List.mem_filter.1 he).1
      omega
    · exact Nat.le_trans (secE_len hn) (hc j)
    · have hmem : decide (i ∈ secE t B n ks j) = decide (plc t B n j i ∈ ks) := by
        apply decide_eq_decide.2
        unfold secE
        rw [List.mem_filter, List.mem_range]
        exact ⟨fun h => of_decide_eq_true h.2, fun h => ⟨by omega, decide_eq_true h⟩⟩
      rw [hmem]
      unfold wAt plc
      by_cases h : 13 * t ≤ i
      · rw [if_pos h, if_pos h, if_pos h, ← e1]
        unfold secD
        rw [bitAt_sub _ _ _ _ (by omega), bitAt_sub _ _ _ _ (by omega), hbit]
      · have hm8 : 13 * t ≤ 8 * moreLen t := by unfold moreLen; omega
        rw [if_neg h, if_neg h, if_neg h, ← e2]
        unfold secM
        rw [List.drop_drop, List.drop_drop, bitAt_sub _ _ _ _ (by omega), bitAt_sub _ _ _ _ (by omega), hbit]
  obtain ⟨N, hN, h1⟩ := readTo_many (t := t) (B := B) (d := d) S 0 [] 0 (fun j => (secE t B n ks j).length) (Nat.zero_le _) (fun j => Nat.le_trans (secE_len hn) (hc j))
  refine ⟨N, hN, ?_⟩
  rw [← hP]
  unfold readF
  rw [← hn, if_neg (fun h => h hst2)]
  have h2 : (List.range S).map (uSec t B n (flipAll P ks)) = (List.range' 0 S).map fun i => some ((sect B d i, encB t (sect B d i)), (secE t B n ks i).length) := by
    rw [← List.range_eq_range']
    apply List.map_congr_left
    intro j hj
    exact hsec j (List.mem_range.1 hj)
  rw [h2, h1, Nat.zero_mul, List.drop_zero, List.nil_append, ← hl, List.take_length]
end
end Go.Proofs.YtohkefolnmcjnaaGreat
/- Contracts of the shelf, laid at this translation in plain words. -/
namespace Go.Proofs
open Go.Shelf
def Tryz.lays189_ren : Go.Shelf.Ren := ⟨fun | 189 => 84 | 125 => 121 | 257 => 120 | 128 => 161 | 129 => 162 | 294 => 152 | 295 => 153 | 296 => 154 | 297 => 155 | 298 => 156 | 299 => 157 | 216 => 158 | 300 => 159 | 301 => 160 | 328 => 187 | 329 => 188 | 330 => 189 | 331 => 190 | 332 => 191 | 215 => 174 | 343 => 207 | n => n, fun | 28 => 42 | 3 => 3 | 46 => 159 | 0 => 0 | 51 => 196 | 53 => 198 | 4 => 4 | 183 => 189 | 182 => 188 | 131 => 193 | 5 => 5 | 9 => 9 | 218 => 217 | 222 => 221 | 228 => 232 | 229 => 233 | n => n, fun | n => n⟩
theorem Tryz.lays189 : Go.Proofs.Lays.n189 Tryz.prog Tryz.lays189_ren := {
  mixed := by kernel_rfl
  f125 := Tryz.func121.trans (congrArg some (by kernel_rfl))
  f128 := Tryz.func161.trans (congrArg some (by kernel_rfl))
  f129 := Tryz.func162.trans (congrArg some (by kernel_rfl))
  f189 := Tryz.func84.trans (congrArg some (by kernel_rfl))
  f215 := Tryz.func174.trans (congrArg some (by kernel_rfl))
  f216 := Tryz.func158.trans (congrArg some (by kernel_rfl))
  f257 := Tryz.func120.trans (congrArg some (by kernel_rfl))
  f294 := Tryz.func152.trans (congrArg some (by kernel_rfl))
  f295 := Tryz.func153.trans (congrArg some (by kernel_rfl))
  f296 := Tryz.func154.trans (congrArg some (by kernel_rfl))
  f297 := Tryz.func155.trans (congrArg some (by kernel_rfl))
  f298 := Tryz.func156.trans (congrArg some (by kernel_rfl))
  f299 := Tryz.func157.trans (congrArg some (by kernel_rfl))
  f300 := Tryz.func159.trans (congrArg some (by kernel_rfl))
  f301 := Tryz.func160.trans (congrArg some (by kernel_rfl))
  f328 := Tryz.func187.trans (congrArg some (by kernel_rfl))
  f329 := Tryz.func188.trans (congrArg some (by kernel_rfl))
  f330 := Tryz.func189.trans (congrArg some (by kernel_rfl))
  f331 := Tryz.func190.trans (congrArg some (by kernel_rfl))
  f332 := Tryz.func191.trans (congrArg some (by kernel_rfl))
  f343 := Tryz.func207.trans (congrArg some (by kernel_rfl))
  t0 := Tryz.underlying0
  a0 := Tryz.isAgg0
  z0 := Tryz.sizeOf0
  v0 := Tryz.zeroValue0
  t3 := Tryz.underlying3
  a3 := Tryz.isAgg3
  z3 := Tryz.sizeOf3
  v3 := Tryz.zeroValue3
  t4 := Tryz.underlying4
  a4 := Tryz.isAgg4
  z4 := Tryz.sizeOf4
  v4 := Tryz.zeroValue4
  t5 := Tryz.underlying5
  a5 := Tryz.isAgg5
  z5 := Tryz.sizeOf5
  v5 := Tryz.zeroValue5
  t9 := Tryz.underlying9
  a9 := Tryz.isAgg9
  z9 := Tryz.sizeOf9
  v9 := Tryz.zeroValue9
  t28 := Tryz.underlying42
  a28 := Tryz.isAgg42
  z28 := Tryz.sizeOf42
  v28 := Tryz.zeroValue42
  t46 := Tryz.underlying159
  a46 := Tryz.isAgg159
  z46 := Tryz.sizeOf159
  v46 := Tryz.zeroValue159
  t51 := Tryz.underlying196
  a51 := Tryz.isAgg196
  z51 := Tryz.sizeOf196
  v51 := Tryz.zeroValue196
  t53 := Tryz.underlying198
  a53 := Tryz.isAgg198
  z53 := Tryz.sizeOf198
  v53 := Tryz.zeroValue198
  t131 := Tryz.underlying193
  a131 := Tryz.isAgg193
  z131 := Tryz.sizeOf193
  v131 := Tryz.zeroValue193
  t182 := Tryz.underlying188
  a182 := Tryz.isAgg188
  z182 := Tryz.sizeOf188
  v182 := Tryz.zeroValue188
  t183 := Tryz.underlying189
  a183 := Tryz.isAgg189
  z183 := Tryz.sizeOf189
  v183 := Tryz.zeroValue189
  t218 := Tryz.underlying217
  a218 := Tryz.isAgg217
  z218 := Tryz.sizeOf217
  v218 := Tryz.zeroValue217
  t222 := Tryz.underlying221
  a222 := Tryz.isAgg221
  z222 := Tryz.sizeOf221
  v222 := Tryz.zeroValue221
  t228 := Tryz.underlying232
  a228 := Tryz.isAgg232
  z228 := Tryz.sizeOf232
  v228 := Tryz.zeroValue232
  t229 := Tryz.underlying233
  a229 := Tryz.isAgg233
  z229 := Tryz.sizeOf233
  v229 := Tryz.zeroValue233 }
end Go.Proofs
/- slices.Compact at []int. -/
namespace Go.Proofs.YtohkefolnmcjnaaGreat
open Go.Sl Go.RowKit
set_option linter.unusedVariables false
set_option linter.unusedSimpArgs false
set_option maxRecDepth 20000

/-- The first j numbers, of equal neighbours the first alone. -/
def ddTo (xs : List Int) : Nat → List Int
  | 0 => []
  | j + 1 => ddTo xs j ++ (if j = 0 ∨ xs.getD j 0 ≠ xs.getD (j - 1) 0 then [xs.getD j 0] else [])
def compactL (xs : List Int) : List Int := ddTo xs xs.length
theorem ddTo_keep {xs : List Int} {j : Nat} (h : j = 0 ∨ xs.getD j 0 ≠ xs.getD (j - 1) 0) : ddTo xs (j + 1) = ddTo xs j ++ [xs.getD j 0] := by rw [ddTo, if_pos h]
theorem ddTo_skip {xs : List Int} {j : Nat} (h0 : j ≠ 0) (h : xs.getD j 0 = xs.getD (j - 1) 0) : ddTo xs (j + 1) = ddTo xs j := by rw [ddTo, if_neg (by rintro (h' | h'); exact h0 h'; exact h' h), List.append_nil]
theorem take_getD {xs : List Int} {j : Nat} (h : j < xs.length) : xs.take (j + 1) = xs.take j ++ [xs.getD j 0] := by rw [List.take_add_one, List.getElem?_eq_getElem h]; simp [List.getD, h]
theorem compact_ints {A : Option Addr} {m cap : Nat} {xs : List Int} {K : World} {F : List Assn} :
    Does Tryz.prog 85 #[.slice A m cap] K (SlA (.slice A m cap) 3 1 m (ints .i64 xs) :: F)
      (fun v H' => ∃ q, q = (compactL xs).length ∧ v = .slice A q cap ∧ H' = SlA (.slice A q cap) 3 1 q (ints .i64 (compactL xs)) :: F) := by
  refine Does.have_ (p := xs.length = m) (fun w hw => by have := SlA.len hw; rwa [ints_length, Nat.mul_one] at this) (fun hl => ?_)
  by_cases hm2 : m < 2
  · have hc : compactL xs = xs := by
      match xs, hl with
      | [], _ => rfl
      | [x], _ => rfl
      | _ :: _ :: _, h => simp at h; omega
    refine Does.enter Tryz.func85 rfl Tryz.ntmps85 rfl ?_
    simp only [env0, Nat.reduceAdd]
    refine WC.seq ?_
    refine WC.region ?_
    refine WL.val (V.assign (OV.p rfl)) rfl ?_
    refine WL.nil ?_
    refine WC.seq ?_
    refine WC.seq ?_
    refine WC.region ?_
    refine WL.val (V.move (OV.p rfl)) rfl ?_
    refine WL.val (V.len (t := 42) Tryz.runUnderlying42 (OV.p rfl)) rfl ?_
    refine WL.val (V.lss (OV.p rfl) (OV.p rfl)) rfl ?_
    refine WL.nil ?_
    refine WC.condT' rfl (by first | rfl | (simp; done) | (simp; omega)) ?_
    refine WC.seq ?_
    refine WC.region ?_
    refine WL.val (V.move (OV.p rfl)) rfl ?_
    refine WL.val (V.assign (OV.p rfl)) rfl ?_
    refine WL.nil ?_
    refine WC.ret ?_
    refine BodyQ.ret (H' := SlA (.slice A m cap) _ 1 m (ints .i64 xs) :: F) (Res.tmp rfl rfl) (fun w h => h) ⟨m, by rw [hc, hl], rfl, by rw [hc]⟩
  · cases A with
    | none => exact Does.have_ (p := m = 0) (fun w hw => (SlA.nilCs hw).1) (fun h => absurd (by omega) hm2)
    | some a =>
      refine Does.have_ (p := ∃ g, a = ⟨g, 0, none⟩) (fun w hw => SlA.addr hw) (fun ⟨g, e1⟩ => ?_)
      subst e1
      refine Does.ex (fun w hw => Sat.slCells hw) (fun rs ⟨hr1, _, hr2, hr3⟩ => ?_)
      have hcap : cap ≤ 9223372036854775807 := by simp only [maxLen] at hr3; omega
      have hback : ∀ (ys : List Int) (cs : List Value) (w : World), cs.length = cap → ys.length ≤ cap → cs.take ys.length = ints .i64 ys → Sat K w (Cells g 3 cs :: F) → Sat K w (SlA (.slice (some ⟨g, 0, none⟩) ys.length cap) 3 1 ys.length (ints .i64 ys) :: F) := fun ys cs w h1 h2 h3 h => by
        have := Sat.toSl (s := 1) h (by rw [h1, Nat.mul_one]) h2 hr3
        rw [Nat.mul_one, h3] at this
        exact this
      have hat : ∀ {cs : List Value} {d j : Nat}, cs.drop d = (ints .i64 xs ++ rs).drop d → d ≤ j → j < m → cs[j]? = some (.int .i64 (xs.getD j 0)) := fun {cs d j} h h1 h2 => by
        have e1 := congrArg (·[j - d]?) h
        simp only [List.getElem?_drop] at e1
        rw [show d + (j - d) = j by omega] at e1
        rw [e1, List.getElem?_append_left (by rw [ints_length]; omega), ints_getD _ _ (by omega)]
      refine Does.enter Tryz.func85 rfl Tryz.ntmps85 rfl ?_
      simp only [env0, Nat.reduceAdd]
      refine WC.seq ?_
      refine WC.region ?_
      refine WL.val (V.assign (OV.p rfl)) rfl ?_
      refine WL.nil ?_
      refine WC.seq ?_
      refine WC.seq ?_
      refine WC.region ?_
      refine WL.val (V.move (OV.p rfl)) rfl ?_
      refine WL.val (V.len (t := 42) Tryz.runUnderlying42 (OV.p rfl)) rfl ?_
      refine WL.val (V.lss (OV.p rfl) (OV.p rfl)) rfl ?_
      refine WL.nil ?_
      refine WC.condF' rfl ((by simp; omega)) ?_
      refine WC.skip ?_
      refine WC.seq ?_
      refine WC.seq ?_
      refine WC.region ?_
      refine WL.val (V.assign (OV.p rfl)) rfl ?_
      refine WL.nil ?_
      refine WC.block ?_
      refine WC.loop (σ := Nat) (fun k => [(0, .slice (some ⟨g, 0, none⟩) m cap), (3, .int .i64 (k : Int))]) (fun k => Cells g 3 (ints .i64 xs ++ rs) :: F) (fun k => 1 ≤ k ∧ k ≤ m ∧ ddTo xs k = xs.take k) (fun k => m - k) 1 ⟨Nat.le_refl _, by omega, by rw [ddTo_keep (.inl rfl), take_getD (by omega)]; rfl⟩ (.cons rfl (.cons rfl (.nil _))) (fun w h => h) ?_
      rintro k ⟨hk1, hkm, hdk⟩
      refine WC.seq ?_
      refine WC.seq ?_
      refine WC.region ?_
      refine WL.val (V.move (OV.p rfl)) rfl ?_
      refine WL.val (V.move (OV.p rfl)) rfl ?_
      refine WL.val (V.len (t := 42) Tryz.runUnderlying42 (OV.p rfl)) rfl ?_
      refine WL.val (V.lss (OV.p rfl) (OV.p rfl)) rfl ?_
      refine WL.nil ?_
      refine WC.cond rfl (fun hc1 => ?_) (fun hc1 => ?_)
      · simp only [decide_eq_true_eq, decide_eq_false_iff_not] at hc1
        refine WC.skip ?_
        refine WC.seq ?_
        refine WC.block ?_
        refine WC.seq ?_
        have hkl : k < m := by omega
        have hg1 : (ints .i64 xs ++ rs)[0 + (k : Int).toNat * 1]? = some (.int .i64 (xs.getD k 0)) := by rw [show 0 + (k : Int).toNat * 1 = k by omega]; exact hat rfl (Nat.zero_le _) hkl
        have hg2 : (ints .i64 xs ++ rs)[0 + ((k : Int) - 1).toNat * 1]? = some (.int .i64 (xs.getD (k - 1) 0)) := by rw [show 0 + ((k : Int) - 1).toNat * 1 = k - 1 by omega]; exact hat rfl (Nat.zero_le _) (by omega)
        refine WC.regionQ (by kernel_rfl) (by kernel_rfl) ?_
        refine WQ.val (V.move (OV.p rfl)) rfl ?_
        refine WQ.val (V.move (OV.p rfl)) rfl ?_
        refine WQ.val (V.idxB st42 (OV.p rfl) (OV.p rfl) (fun hc => by omega)) rfl ?_
        refine WQ.val (V.load Tryz.isAgg3 (OV.p rfl) (fun _ => Rd.here hg1)) rfl ?_
        refine WQ.val (V.move (OV.p rfl)) rfl ?_
        refine WQ.val (V.move (OV.p rfl)) rfl ?_
        refine WQ.val (V.subI (OV.p rfl) (OV.p rfl) (fun hc => by first | omega | (simp at hc; omega))) rfl ?_
        refine WQ.val (V.idxB st42 (OV.p rfl) (OV.p rfl) (fun hc => by omega)) rfl ?_
        refine WQ.val (V.load Tryz.isAgg3 (OV.p rfl) (fun _ => Rd.here hg2)) rfl ?_
        refine WQ.val (V.eql (OV.p rfl) (OV.p rfl)) rfl ?_
        refine WQ.nil ?_
        refine WC.cond rfl (fun hc2 => ?_) (fun hc2 => ?_)
        · simp only [decide_eq_true_eq, decide_eq_false_iff_not] at hc2
          have h2 := hc2
          refine WC.seq ?_
          refine WC.region ?_
          refine WL.val (V.move (OV.p rfl)) rfl ?_
          refine WL.val (V.move (OV.p rfl)) rfl ?_
          refine WL.val (V.val_eq (v' := .slice (some ⟨g, k, none⟩) (m - k) (cap - k)) (V.slice (l := k) (h := m) (u := cap) st42 (OV.p rfl) (OO.some (OV.p rfl) (fun _ => rfl)) OO.none OO.none (by simp) (by omega) (by omega) (Nat.le_refl _)) (fun _ => by rw [if_neg (by omega)]; simp [add_mk])) rfl ?_
          refine WL.val (V.assign (OV.p rfl)) rfl ?_
          refine WL.nil ?_
          refine WC.seq ?_
          refine WC.seq ?_
          refine WC.region ?_
          refine WL.val (V.assign (OV.p rfl)) rfl ?_
          refine WL.nil ?_
          refine WC.block ?_
          refine WC.loop (σ := Nat × Nat × List Value) (fun x => [(0, .slice (some ⟨g, 0, none⟩) m cap), (4, .slice (some ⟨g, k, none⟩) (m - k) (cap - k)), (3, .int .i64 (x.1 : Int)), (5, .int .i64 (x.2.1 : Int))]) (fun x => Cells g 3 x.2.2 :: F) (fun x => k ≤ x.1 ∧ x.1 < k + x.2.1 ∧ k + x.2.1 ≤ m ∧ x.2.2.length = cap ∧ x.1 = (ddTo xs (k + x.2.1)).length ∧ x.2.2.take x.1 = ints .i64 (ddTo xs (k + x.2.1)) ∧ x.2.2.drop (k + x.2.1 - 1) = (ints .i64 xs ++ rs).drop (k + x.2.1 - 1)) (fun x => m - x.2.1) (k, 1, ints .i64 xs ++ rs) ?_ (.cons rfl (.cons rfl (.cons rfl (.cons rfl (.nil _))))) (fun w h => h) ?_
          · have e1 : ddTo xs (k + 1) = xs.take k := by rw [ddTo_skip (by omega) h2, hdk]
            refine ⟨Nat.le_refl _, by show k < k + 1; omega, by show k + 1 ≤ m; omega, by rw [hr1, Nat.mul_one], ?_, ?_, rfl⟩
            · show k = (ddTo xs (k + 1)).length
              rw [e1, List.length_take]; omega
            · show (ints .i64 xs ++ rs).take k = ints .i64 (ddTo xs (k + 1))
              rw [e1, List.take_append_of_le_length (by rw [ints_length]; omega), ints_take]
          rintro ⟨kk, k2, cs⟩ ⟨h10, h11, h12, h13, h14, h15, h16⟩
          dsimp only at h10 h11 h12 h13 h14 h15 h16 ⊢
          refine WC.seq ?_
          refine WC.seq ?_
          refine WC.region ?_
          refine WL.val (V.move (OV.p rfl)) rfl ?_
          refine WL.val (V.move (OV.p rfl)) rfl ?_
          refine WL.val (V.len (t := 42) Tryz.runUnderlying42 (OV.p rfl)) rfl ?_
          refine WL.val (V.lss (OV.p rfl) (OV.p rfl)) rfl ?_
          refine WL.nil ?_
          refine WC.cond rfl (fun hc3 => ?_) (fun hc3 => ?_)
          · simp only [decide_eq_true_eq, decide_eq_false_iff_not] at hc3
            refine WC.skip ?_
            refine WC.seq ?_
            refine WC.block ?_
            refine WC.seq ?_
            have hlt2 : k + k2 < m := by omega
            have hg3 : cs[k + (k2 : Int).toNat * 1]? = some (.int .i64 (xs.getD (k + k2) 0)) := by rw [show k + (k2 : Int).toNat * 1 = k + k2 by omega]; exact hat h16 (by omega) hlt2
            have hg4 : cs[k + ((k2 : Int) - 1).toNat * 1]? = some (.int .i64 (xs.getD (k + k2 - 1) 0)) := by rw [show k + ((k2 : Int) - 1).toNat * 1 = k + k2 - 1 by omega]; exact hat h16 (by omega) (by omega)
            refine WC.regionQ (by kernel_rfl) (by kernel_rfl) ?_
            refine WQ.val (V.move (OV.p rfl)) rfl ?_
            refine WQ.val (V.move (OV.p rfl)) rfl ?_
            refine WQ.val (V.idxB st42 (OV.p rfl) (OV.p rfl) (fun hc => by omega)) rfl ?_
            refine WQ.val (V.load Tryz.isAgg3 (OV.p rfl) (fun _ => Rd.here hg3)) rfl ?_
            refine WQ.val (V.move (OV.p rfl)) rfl ?_
            refine WQ.val (V.move (OV.p rfl)) rfl ?_
            refine WQ.val (V.subI (OV.p rfl) (OV.p rfl) (fun hc => by first | omega | (simp at hc; omega))) rfl ?_
            refine WQ.val (V.idxB st42 (OV.p rfl) (OV.p rfl) (fun hc => by omega)) rfl ?_
            refine WQ.val (V.load Tryz.isAgg3 (OV.p rfl) (fun _ => Rd.here hg4)) rfl ?_
            refine WQ.val (V.neq (OV.p rfl) (OV.p rfl)) rfl ?_
            refine WQ.nil ?_
            refine WC.cond rfl (fun hc4 => ?_) (fun hc4 => ?_)
            · simp only [Bool.not_eq_true', Bool.not_eq_false', decide_eq_true_eq, decide_eq_false_iff_not] at hc4
              have h5 := hc4
              have hst : ddTo xs (k + k2 + 1) = ddTo xs (k + k2) ++ [xs.getD (k + k2) 0] := ddTo_keep (.inr h5)
              refine WC.seq ?_
              refine WC.region ?_
              refine WL.val (V.move (OV.p rfl)) rfl ?_
              refine WL.val (V.move (OV.p rfl)) rfl ?_
              refine WL.val (V.move (OV.p rfl)) rfl ?_
              refine WL.val (V.move (OV.p rfl)) rfl ?_
              refine WL.val (V.idxB st42 (OV.p rfl) (OV.p rfl) (fun hc => by omega)) rfl ?_
              refine WL.val (V.load Tryz.isAgg3 (OV.p rfl) (fun _ => Rd.here hg3)) rfl ?_
              refine WL.val (V.idxB st42 (OV.p rfl) (OV.p rfl) (fun hc => by omega)) rfl ?_
              refine WL.store (cs := [_]) Tryz.sizeOf3 (OV.p rfl) (OV.p rfl) rfl rfl rfl (Upd.at_ (by omega)) ?_
              refine WL.nil ?_
              refine WC.region ?_
              refine WL.val (V.move (OV.p rfl)) rfl ?_
              refine WL.val (V.addI (OV.p rfl) (OV.p rfl) (fun hc => by first | omega | (simp at hc; omega))) rfl ?_
              refine WL.val (V.assign (OV.p rfl)) rfl ?_
              refine WL.nil ?_
              refine WC.region ?_
              refine WL.val (V.move (OV.p rfl)) rfl ?_
              refine WL.val (V.addI (OV.p rfl) (OV.p rfl) (fun hc => by first | omega | (simp at hc; omega))) rfl ?_
              refine WL.val (V.assign (OV.p rfl)) rfl ?_
              refine WL.nil ?_
              refine ⟨rfl, ?_⟩
              first
              | (have hse2 := hse
                 refine ⟨(kk, k2 + 1, cs), ⟨h10, by show kk < k + (k2 + 1); omega, by show k + (k2 + 1) ≤ m; omega, h13, ?_, ?_, ?_⟩, (by show m - (k2 + 1) < m - k2; omega), .cons rfl (.cons rfl (.cons rfl (.cons (look_eq rfl (by simp)) (.nil _)))), fun w h => h⟩
                 · show kk = (ddTo xs (k + k2 + 1)).length
                   rw [hse2]; exact h14
                 · show cs.take kk = ints .i64 (ddTo xs (k + k2 + 1))
                   rw [hse2]; exact h15
                 · have := congrArg (List.drop 1) h16
                   rw [List.drop_drop, List.drop_drop] at this
                   show cs.drop (k + k2 + 1 - 1) = _
                   rw [show k + (k2 + 1) - 1 = k + k2 - 1 + 1 by omega, show k + k2 + 1 - 1 = k + k2 - 1 + 1 by omega]
                   exact this)
              | (have hst2 := hst
                 refine ⟨(kk + 1, k2 + 1, cs.set (0 + (kk : Int).toNat * 1) (.int .i64 (xs.getD (k + k2) 0))), ⟨by show k ≤ kk + 1; omega, by show kk + 1 < k + (k2 + 1); omega, by show k + (k2 + 1) ≤ m; omega, by rw [List.length_set]; exact h13, ?_, ?_, ?_⟩, (by show m - (k2 + 1) < m - k2; omega), .cons rfl (.cons rfl (.cons (look_eq rfl (by simp)) (.cons (look_eq rfl (by simp)) (.nil _)))), fun w h => h⟩
                 · show kk + 1 = (ddTo xs (k + k2 + 1)).length
                   rw [hst2, List.length_append, ← h14]; rfl
                 · show (cs.set (0 + (kk : Int).toNat * 1) (.int .i64 (xs.getD (k + k2) 0))).take (kk + 1) = ints .i64 (ddTo xs (k + k2 + 1))
                   rw [hst2, ints_append, ← h15, show 0 + (kk : Int).toNat * 1 = kk by omega, List.take_add_one, List.getElem?_set_self (by omega), List.take_set_of_le (by omega)]
                   rfl
                 · show (cs.set (0 + (kk : Int).toNat * 1) (.int .i64 (xs.getD (k + k2) 0))).drop (k + k2 + 1 - 1) = _
                   have := congrArg (List.drop 1) h16
                   rw [List.drop_drop, List.drop_drop] at this
                   rw [show 0 + (kk : Int).toNat * 1 = kk by omega, List.drop_set_of_lt (by omega)]
                   show cs.drop (k + k2 + 1 - 1) = _
                   rw [show k + (k2 + 1) - 1 = k + k2 - 1 + 1 by omega, show k + k2 + 1 - 1 = k + k2 - 1 + 1 by omega]
                   exact this)
            · simp only [Bool.not_eq_true', Bool.not_eq_false', decide_eq_true_eq, decide_eq_false_iff_not] at hc4
              have h5 := hc4
              have hse : ddTo xs (k + k2 + 1) = ddTo xs (k + k2) := ddTo_skip (by omega) h5
              refine WC.skip ?_
              refine WC.region ?_
              refine WL.val (V.move (OV.p rfl)) rfl ?_
              refine WL.val (V.addI (OV.p rfl) (OV.p rfl) (fun hc => by first | omega | (simp at hc; omega))) rfl ?_
              refine WL.val (V.assign (OV.p rfl)) rfl ?_
              refine WL.nil ?_
              refine ⟨rfl, ?_⟩
              first
              | (have hse2 := hse
                 refine ⟨(kk, k2 + 1, cs), ⟨h10, by show kk < k + (k2 + 1); omega, by show k + (k2 + 1) ≤ m; omega, h13, ?_, ?_, ?_⟩, (by show m - (k2 + 1) < m - k2; omega), .cons rfl (.cons rfl (.cons rfl (.cons (look_eq rfl (by simp)) (.nil _)))), fun w h => h⟩
                 · show kk = (ddTo xs (k + k2 + 1)).length
                   rw [hse2]; exact h14
                 · show cs.take kk = ints .i64 (ddTo xs (k + k2 + 1))
                   rw [hse2]; exact h15
                 · have := congrArg (List.drop 1) h16
                   rw [List.drop_drop, List.drop_drop] at this
                   show cs.drop (k + k2 + 1 - 1) = _
                   rw [show k + (k2 + 1) - 1 = k + k2 - 1 + 1 by omega, show k + k2 + 1 - 1 = k + k2 - 1 + 1 by omega]
                   exact this)
              | (have hst2 := hst
                 refine ⟨(kk + 1, k2 + 1, cs.set (0 + (kk : Int).toNat * 1) (.int .i64 (xs.getD (k + k2) 0))), ⟨by show k ≤ kk + 1; omega, by show kk + 1 < k + (k2 + 1); omega, by show k + (k2 + 1) ≤ m; omega, by rw [List.length_set]; exact h13, ?_, ?_, ?_⟩, (by show m - (k2 + 1) < m - k2; omega), .cons rfl (.cons rfl (.cons (look_eq rfl (by simp)) (.cons (look_eq rfl (by simp)) (.nil _)))), fun w h => h⟩
                 · show kk + 1 = (ddTo xs (k + k2 + 1)).length
                   rw [hst2, List.length_append, ← h14]; rfl
                 · show (cs.set (0 + (kk : Int).toNat * 1) (.int .i64 (xs.getD (k + k2) 0))).take (kk + 1) = ints .i64 (ddTo xs (k + k2 + 1))
                   rw [hst2, ints_append, ← h15, show 0 + (kk : Int).toNat * 1 = kk by omega, List.take_add_one, List.getElem?_set_self (by omega), List.take_set_of_le (by omega)]
                   rfl
                 · show (cs.set (0 + (kk : Int).toNat * 1) (.int .i64 (xs.getD (k + k2) 0))).drop (k + k2 + 1 - 1) = _
                   have := congrArg (List.drop 1) h16
                   rw [List.drop_drop, List.drop_drop] at this
                   rw [show 0 + (kk : Int).toNat * 1 = kk by omega, List.drop_set_of_lt (by omega)]
                   show cs.drop (k + k2 + 1 - 1) = _
                   rw [show k + (k2 + 1) - 1 = k + k2 - 1 + 1 by omega, show k + k2 + 1 - 1 = k + k2 - 1 + 1 by omega]
                   exact this)
          · simp only [decide_eq_true_eq, decide_eq_false_iff_not] at hc3
            refine WC.exit ?_
            refine WC.seq ?_
            refine WC.region ?_
            refine WL.val (V.move (OV.p rfl)) rfl ?_
            refine WL.val (V.move (OV.p rfl)) rfl ?_
            have hke : k + k2 = m := by omega
            rw [hke, ← hl] at h14 h15
            refine WL.val (V.slice (l := kk) (h := m) (u := cap) st42 (OV.p rfl) (OO.some (OV.p rfl) (fun _ => rfl)) OO.none OO.none (by simp) (by omega) (by omega) (Nat.le_refl _)) rfl ?_
            refine WL.clear0 (b := g) (o := kk) Tryz.underlying42 Tryz.zeroValue3 rfl rfl (OV.p rfl) (fun hq => by rw [if_neg (by omega)]; simp [add_mk]) (Upd.row (by rw [List.length_replicate]; omega)) ?_
            refine WL.nil ?_
            refine WC.seq ?_
            refine WC.region ?_
            refine WL.val (V.move (OV.p rfl)) rfl ?_
            refine WL.val (V.move (OV.p rfl)) rfl ?_
            refine WL.val (V.slice (l := 0) (h := kk) (u := cap) st42 (OV.p rfl) OO.none (OO.some (OV.p rfl) (fun _ => rfl)) OO.none (by simp) (by omega) (by omega) (Nat.le_refl _)) rfl ?_
            refine WL.val (V.assign (OV.p rfl)) rfl ?_
            refine WL.nil ?_
            refine WC.ret ?_
            refine BodyQ.ret (H' := SlA (.slice (some ⟨g, 0, none⟩) kk cap) _ 1 kk (ints .i64 (compactL xs)) :: F) (Res.tmp rfl (look_eq rfl (by simp [Addr.add]))) (fun w h => ?_) ⟨kk, h14, rfl, rfl⟩
            have hlen : (cs.take kk ++ List.replicate (m - kk) (Value.int .i64 0) ++ cs.drop (kk + (List.replicate (m - kk) (Value.int .i64 0)).length)).length = cap := by
              simp only [List.length_append, List.length_take, List.length_replicate, List.length_drop]; omega
            have := hback (ddTo xs xs.length) _ w hlen (by omega) (by rw [← h14, List.append_assoc, List.take_left' (by rw [List.length_take]; omega), h15]) h
            rw [← h14] at this
            exact this
        · simp only [decide_eq_true_eq, decide_eq_false_iff_not] at hc2
          have h2 := hc2
          refine WC.skip ?_
          refine WC.region ?_
          refine WL.val (V.move (OV.p rfl)) rfl ?_
          refine WL.val (V.addI (OV.p rfl) (OV.p rfl) (fun hc => by first | omega | (simp at hc; omega))) rfl ?_
          refine WL.val (V.assign (OV.p rfl)) rfl ?_
          refine WL.nil ?_
          refine ⟨rfl, ?_⟩
          refine ⟨k + 1, ⟨by show 1 ≤ k + 1; omega, by show k + 1 ≤ m; omega, by rw [ddTo_keep (.inr h2), hdk, take_getD (by omega)]⟩, (by show m - (k + 1) < m - k; omega), .cons rfl (.cons (look_eq rfl (by simp)) (.nil _)), fun w h => h⟩
      · simp only [decide_eq_true_eq, decide_eq_false_iff_not] at hc1
        refine WC.exit ?_
        refine WC.seq ?_
        refine WC.region ?_
        refine WL.val (V.move (OV.p rfl)) rfl ?_
        refine WL.val (V.assign (OV.p rfl)) rfl ?_
        refine WL.nil ?_
        refine WC.ret ?_
        obtain rfl : k = m := by omega
        have hce : compactL xs = xs := by unfold compactL; rw [hl, hdk, List.take_of_length_le (by omega)]
        refine BodyQ.ret (H' := SlA (.slice (some ⟨g, 0, none⟩) k cap) _ 1 k (ints .i64 xs) :: F) (Res.tmp rfl rfl) (fun w h => ?_) ⟨k, by rw [hce, hl], rfl, by rw [hce]⟩
        have := hback xs _ w (by rw [hr1, Nat.mul_one]) (by omega) (by rw [List.take_left' (ints_length _ _)]) h
        rw [hl] at this
        exact this
/-- Of a sorted list: the same numbers, each once. -/
theorem mem_ddTo {xs : List Int} {x : Int} : ∀ {j : Nat}, j ≤ xs.length → (x ∈ ddTo xs j ↔ x ∈ xs.take j)
  | 0, _ => by simp [ddTo]
  | j + 1, h => by
    rw [take_getD (by omega), List.mem_append, ← mem_ddTo (j := j) (by omega)]
    by_cases hk : j = 0 ∨ xs.getD j 0 ≠ xs.getD (j - 1) 0
    · rw [ddTo_keep hk, List.mem_append]
    · have h0 : j ≠ 0 := fun e => hk (.inl e)
      have h1 : xs.getD j 0 = xs.getD (j - 1) 0 := by
        rcases Decidable.em (xs.getD j 0 = xs.getD (j - 1) 0) with h | h
        · exact h
        · exact absurd (.inr h) hk
      rw [ddTo_skip h0 h1]
      refine ⟨.inl, fun h2 => h2.elim id fun h3 => ?_⟩
      rw [List.mem_singleton] at h3
      obtain ⟨i, rfl⟩ : ∃ i, j = i + 1 := ⟨j - 1, by omega⟩
      rw [mem_ddTo (by omega), take_getD (by omega), h3, h1]
      simp
theorem ddTo_sorted {xs : List Int} (hs : xs.Pairwise (· ≤ ·)) : ∀ {j : Nat}, j ≤ xs.length → (ddTo xs j).Pairwise (· < ·)
  | 0, _ => by simp [ddTo]
  | j + 1, h => by
    have ih := ddTo_sorted hs (j := j) (by omega)
    by_cases hk : j = 0 ∨ xs.getD j 0 ≠ xs.getD (j - 1) 0
    · rw [ddTo_keep hk, List.pairwise_append]
      refine ⟨ih, by simp, fun a ha b hb => ?_⟩
      rw [List.mem_singleton] at hb
      subst hb
      rw [mem_ddTo (by omega)] at ha
      rcases hk with h0 | h0
      · subst h0; simp at ha
      · obtain ⟨i, hi⟩ := List.getElem?_of_mem ha
        rw [List.getElem?_take] at hi
        split at hi
        · rename_i hij
          obtain ⟨hi', hi⟩ := List.getElem?_eq_some_iff.1 hi
          have hp := List.pairwise_iff_getElem.1 hs
          have h1 := hp i j hi' (by omega) hij
          have e1 : xs.getD j 0 = xs[j] := by simp [List.getD, show j < xs.length by omega]
          have e2 : xs.getD (j - 1) 0 = xs[j - 1] := by simp [List.getD, show j - 1 < xs.length by omega]
          rw [e1] at h0 ⊢
          rw [e2] at h0
          rw [← hi]
          have h2 : xs[i] ≤ xs[j - 1] := by
            rcases Nat.lt_or_ge i (j - 1) with h | h
            · exact hp i (j - 1) hi' (by omega) h
            · have : i = j - 1 := by omega
              subst this; exact Int.le_refl _
          have h3 := hp (j - 1) j (by omega) (by omega) (by omega)
          omega
        · cases hi
    · have h0 : j ≠ 0 := fun e => hk (.inl e)
      have h1 : xs.getD j 0 = xs.getD (j - 1) 0 := by
        rcases Decidable.em (xs.getD j 0 = xs.getD (j - 1) 0) with h | h
        · exact h
        · exact absurd (.inr h) hk
      rw [ddTo_skip h0 h1]
      exact ih
theorem ddTo_length (xs : List Int) : ∀ j, (ddTo xs j).length ≤ j
  | 0 => Nat.le_refl _
  | j + 1 => by
    have := ddTo_length xs j
    rw [ddTo, List.length_append]
    split <;> simp <;> omega
theorem mem_compactL {xs : List Int} {x : Int} : x ∈ compactL xs ↔ x ∈ xs := by rw [compactL, mem_ddTo (Nat.le_refl _), List.take_of_length_le (Nat.le_refl _)]
theorem compactL_sorted {xs : List Int} (hs : xs.Pairwise (· ≤ ·)) : (compactL xs).Pairwise (· < ·) := ddTo_sorted hs (Nat.le_refl _)
theorem compactL_length (xs : List Int) : (compactL xs).length ≤ xs.length := ddTo_length xs _
end Go.Proofs.YtohkefolnmcjnaaGreat
/- slices.Sort at []int, by the kit's contract, over a slice of one's own. -/
namespace Go.Proofs.YtohkefolnmcjnaaGreat
open Go.Sl Go.RowKit
set_option linter.unusedVariables false
set_option linter.unusedSimpArgs false
set_option maxRecDepth 20000
def sorted (xs : List Int) : List Int := xs.mergeSort fun x y => decide (x ≤ y)
theorem sorted_length (xs : List Int) : (sorted xs).length = xs.length := List.length_mergeSort xs
theorem sorted_sorted (xs : List Int) : (sorted xs).Pairwise (· ≤ ·) := by
  have h := List.pairwise_mergeSort (le := fun x y : Int => decide (x ≤ y)) (fun a b c h1 h2 => by simp at h1 h2 ⊢; omega) (fun a b => by simp; omega) xs
  exact h.imp fun {a b} h => of_decide_eq_true h
theorem mem_sorted {xs : List Int} {x : Int} : x ∈ sorted xs ↔ x ∈ xs := List.mem_mergeSort
theorem len64_0 {K : World} {F : List Assn} : Tells Tryz.prog 162 #[.int .u64 0] K F (.int .i64 0) := by
  refine Does.enter Tryz.func162 rfl Tryz.ntmps162 rfl ?_
  simp only [env0, Nat.reduceAdd]
  refine WC.seq ?_
  refine WC.region ?_
  refine WL.val (V.assign (OV.p rfl)) rfl ?_
  refine WL.nil ?_
  refine WC.seq ?_
  refine WC.seq ?_
  refine WC.region ?_
  refine WL.val (V.move (OV.p rfl)) rfl ?_
  refine WL.val (V.geq (OV.p rfl) (OV.p rfl)) rfl ?_
  refine WL.nil ?_
  refine WC.condF' rfl (by first | rfl | (simp; done) | (simp; omega)) ?_
  refine WC.skip ?_
  refine WC.seq ?_
  refine WC.seq ?_
  refine WC.region ?_
  refine WL.val (V.move (OV.p rfl)) rfl ?_
  refine WL.val (V.geq (OV.p rfl) (OV.p rfl)) rfl ?_
  refine WL.nil ?_
  refine WC.condF' rfl (by first | rfl | (simp; done) | (simp; omega)) ?_
  refine WC.skip ?_
  refine WC.seq ?_
  refine WC.seq ?_
  refine WC.region ?_
  refine WL.val (V.move (OV.p rfl)) rfl ?_
  refine WL.val (V.geq (OV.p rfl) (OV.p rfl)) rfl ?_
  refine WL.nil ?_
  refine WC.condF' rfl (by first | rfl | (simp; done) | (simp; omega)) ?_
  refine WC.skip ?_
  refine WC.seq ?_
  refine WC.region ?_
  refine WL.val (V.move (OV.p rfl)) rfl ?_
  refine WL.val (V.move (OV.p rfl)) rfl ?_
  refine WL.val (V.convW Tryz.runUnderlying198 Tryz.runUnderlying5 (OV.p rfl) (fun _ => rfl)) rfl ?_
  refine WL.val (V.idxStr (b := 0) Tryz.underlying9 (OV.p rfl) (OV.p rfl) (fun _ => ⟨by decide, by kernel_rfl⟩)) rfl ?_
  refine WL.val (V.convW Tryz.runUnderlying5 Tryz.runUnderlying3 (OV.p rfl) (fun _ => rfl)) rfl ?_
  refine WL.val (V.val_eq (v' := .int .i64 0) (V.add (OV.p rfl) (OV.p rfl)) (fun _ => rfl)) rfl ?_
  refine WL.val (V.assign (OV.p rfl)) rfl ?_
  refine WL.nil ?_
  refine WC.ret ?_
  exact BodyQ.ret (H' := F) (Res.tmp rfl rfl) (fun w h => h) ⟨rfl, rfl⟩
theorem len_0 {K : World} {F : List Assn} : Tells Tryz.prog 121 #[.int .u64 0] K F (.int .i64 0) := by
  refine Does.enter Tryz.func121 rfl Tryz.ntmps121 rfl ?_
  simp only [env0, Nat.reduceAdd]
  refine WC.seq ?_
  refine WC.region ?_
  refine WL.val (V.assign (OV.p rfl)) rfl ?_
  refine WL.nil ?_
  refine WC.seq ?_
  refine WC.condF' rfl (by first | rfl | (simp; done) | (simp; omega)) ?_
  refine WC.skip ?_
  refine WC.seq ?_
  refine WC.region ?_
  refine WL.val (V.move (OV.p rfl)) rfl ?_
  refine WL.call (vs := [_]) Tryz.call162 ⟨OV.p rfl, trivial⟩ (len64_0) rfl ?_
  rintro _ H0 ⟨rfl, h0⟩
  subst H0
  refine WL.val (V.assign (OV.p rfl)) rfl ?_
  refine WL.nil ?_
  refine WC.ret ?_
  exact BodyQ.ret (H' := F) (Res.tmp rfl rfl) (fun w h => h) ⟨rfl, rfl⟩
theorem insertion_0 {v : Value} {K : World} {F : List Assn} : Does Tryz.prog 152 #[v, .int .i64 0, .int .i64 0] K F (fun _ H' => H' = F) := by
  refine Does.enter Tryz.func152 rfl Tryz.ntmps152 rfl ?_
  simp only [env0, Nat.reduceAdd]
  refine WC.seq ?_
  refine WC.region ?_
  refine WL.val (V.move (OV.p rfl)) rfl ?_
  refine WL.val (V.addI (OV.p rfl) (OV.p rfl) (fun hc => by first | omega | (simp at hc; omega))) rfl ?_
  refine WL.val (V.assign (OV.p rfl)) rfl ?_
  refine WL.nil ?_
  refine WC.block ?_
  refine WC.rounds 1 ?_
  refine WC.seq ?_
  refine WC.seq ?_
  refine WC.region ?_
  refine WL.val (V.move (OV.p rfl)) rfl ?_
  refine WL.val (V.move (OV.p rfl)) rfl ?_
  refine WL.val (V.lss (OV.p rfl) (OV.p rfl)) rfl ?_
  refine WL.nil ?_
  refine WC.condF' rfl (by first | rfl | (simp; done) | (simp; omega)) ?_
  refine WC.exit ?_
  exact BodyQ.normal (H' := F) (Res.none rfl) (fun w h => h) rfl
theorem pdq_0 {v : Value} {K : World} {F : List Assn} : Does Tryz.prog 120 #[v, .int .i64 0, .int .i64 0, .int .i64 0] K F (fun _ H' => H' = F) := by
  refine Does.enter Tryz.func120 rfl Tryz.ntmps120 rfl ?_
  simp only [env0, Nat.reduceAdd]
  refine WC.seq ?_
  refine WC.region ?_
  refine WL.val (V.assign (OV.p rfl)) rfl ?_
  refine WL.nil ?_
  refine WC.seq ?_
  refine WC.region ?_
  refine WL.val (V.assign (OV.p rfl)) rfl ?_
  refine WL.nil ?_
  refine WC.block ?_
  refine WC.rounds 1 ?_
  refine WC.block ?_
  refine WC.seq ?_
  refine WC.region ?_
  refine WL.val (V.move (OV.p rfl)) rfl ?_
  refine WL.val (V.move (OV.p rfl)) rfl ?_
  refine WL.val (V.subI (OV.p rfl) (OV.p rfl) (fun hc => by first | omega | (simp at hc; omega))) rfl ?_
  refine WL.val (V.assign (OV.p rfl)) rfl ?_
  refine WL.nil ?_
  refine WC.seq ?_
  refine WC.seq ?_
  refine WC.region ?_
  refine WL.val (V.move (OV.p rfl)) rfl ?_
  refine WL.val (V.leq (OV.p rfl) (OV.p rfl)) rfl ?_
  refine WL.nil ?_
  refine WC.condT' rfl (by first | rfl | (simp; done) | (simp; omega)) ?_
  refine WC.seq ?_
  refine WC.region ?_
  refine WL.val (V.move (OV.p rfl)) rfl ?_
  refine WL.val (V.move (OV.p rfl)) rfl ?_
  refine WL.val (V.move (OV.p rfl)) rfl ?_
  refine WL.call (vs := [_, _, _]) Tryz.call152 ⟨OV.p rfl, OV.p rfl, OV.p rfl, trivial⟩ (insertion_0) rfl ?_
  rintro v H0 h0
  subst H0
  refine WL.nil ?_
  refine WC.ret ?_
  exact BodyQ.ret (H' := F) (Res.none rfl) (fun w h => h) rfl
theorem sort_nil {K : World} {F : List Assn} : Does Tryz.prog 84 #[.slice none 0 0] K F (fun v H' => H' = F) := by
  refine Does.enter Tryz.func84 rfl Tryz.ntmps84 rfl ?_
  simp only [env0, Nat.reduceAdd]
  refine WC.seq ?_
  refine WC.region ?_
  refine WL.val (V.move (OV.p rfl)) rfl ?_
  refine WL.val (V.len (t := 42) Tryz.runUnderlying42 (OV.p rfl)) rfl ?_
  refine WL.val (V.assign (OV.p rfl)) rfl ?_
  refine WL.nil ?_
  refine WC.region ?_
  refine WL.val (V.move (OV.p rfl)) rfl ?_
  refine WL.val (V.move (OV.p rfl)) rfl ?_
  refine WL.val (V.move (OV.p rfl)) rfl ?_
  refine WL.val (V.convW Tryz.runUnderlying3 Tryz.runUnderlying159 (OV.p rfl) (fun _ => rfl)) rfl ?_
  refine WL.call (vs := [_]) Tryz.call121 ⟨OV.p rfl, trivial⟩ (len_0) rfl ?_
  rintro _ H0 ⟨rfl, h0⟩
  subst H0
  refine WL.call (vs := [_, _, _, _]) Tryz.call120 ⟨OV.p rfl, OV.p rfl, OV.p rfl, OV.p rfl, trivial⟩ (pdq_0) rfl ?_
  rintro v H0 h0
  subst H0
  refine WL.nil ?_
  exact BodyQ.normal (H' := F) (Res.none rfl) (fun w h => h) rfl
theorem sort_own {g m cap : Nat} {xs : List Int} {K : World} {F : List Assn} (hm : m = xs.length) (hsz : xs.length < 4611686018427387904) :
    Does Tryz.prog 84 #[.slice (some ⟨g, 0, none⟩) m cap] K (SlA (.slice (some ⟨g, 0, none⟩) m cap) 3 1 m (ints .i64 xs) :: F)
      (fun v H' => H' = SlA (.slice (some ⟨g, 0, none⟩) m cap) 3 1 m (ints .i64 (sorted xs)) :: F) := by
  intro w hw
  subst hm
  have hown := hw.head
  obtain ⟨h1, h2⟩ := hown
  rcases h2 with ⟨h2, _⟩ | ⟨g', cap', cur, h2, _, h3, h4, h5, h6, h7⟩
  · cases h2
  · injection h2 with e1 e2 e3
    simp only [Option.some.injEq, Addr.mk.injEq] at e1
    obtain ⟨rfl, _⟩ := e1
    subst e3
    have hlen : (ints .i64 xs).length = xs.length := ints_length _ _
    have hcur : ∀ j, j < xs.length → cur[j]? = some (.int .i64 xs[j]!) := fun j hj => by
      have e4 : (cur.toList.take (xs.length * 1))[j]? = (ints .i64 xs)[j]? := by rw [h7]
      rw [List.getElem?_take, if_pos (by omega), Array.getElem?_toList, ints_getD _ _ hj] at e4
      rw [e4]
      simp [List.getD, hj]
    have hH : Go.Sort.Holds (Value.int .i64) w g 0 xs.toArray := fun j hj => by
      have hj' : j < xs.length := by simpa using hj
      refine ⟨?_, ?_⟩
      · simp only [World.cell?, h3, Nat.zero_add, hcur j hj']
        simp [hj']
      · simp [World.frozen?, h3]
    have hlt : g < w.heap.size := by
      rcases Nat.lt_or_ge g w.heap.size with h | h
      · exact h
      · rw [Array.getElem?_eq_none h] at h3; cases h3
    refine (Any.slices_Sort_int Tryz.lays189 g 0 cap xs w hH hlt hsz).mono fun e w' ⟨he, n, os, hw'⟩ => ⟨.tuple #[], _, he, ?_, rfl⟩
    subst hw'
    have hheap : (Go.Sort.grow (Go.Sort.putRow (Value.int .i64) (Go.Sort.ahead w n) g 0 (xs.mergeSort fun x y => decide (x ≤ y)).toArray) os).heap = w.heap.modify g (Go.Sort.onCells (Go.Sort.putCells (Value.int .i64) 0 (xs.mergeSort fun x y => decide (x ≤ y)).toArray)) ++ os := rfl
    have hsize : w.heap.size ≤ (Go.Sort.grow (Go.Sort.putRow (Value.int .i64) (Go.Sort.ahead w n) g 0 (xs.mergeSort fun x y => decide (x ≤ y)).toArray) os).heap.size := by rw [hheap]; simp
    have hat : ∀ b, b < w.heap.size → (Go.Sort.grow (Go.Sort.putRow (Value.int .i64) (Go.Sort.ahead w n) g 0 (xs.mergeSort fun x y => decide (x ≤ y)).toArray) os).heap[b]? = (w.heap.modify g (Go.Sort.onCells (Go.Sort.putCells (Value.int .i64) 0 (xs.mergeSort fun x y => decide (x ≤ y)).toArray)))[b]? := fun b hb => by
      rw [hheap, Array.getElem?_append_left (by simpa using hb)]
    refine ⟨hw.1.grow rfl rfl rfl hsize, hw.2.set (A' := SlA (.slice (some ⟨g, 0, none⟩) xs.length cap) 3 1 xs.length (ints .i64 (sorted xs))) hsize (fun b hb hb' => ?_) ⟨?_, .inr ⟨g, cap, Go.Sort.putCells (Value.int .i64) 0 (xs.mergeSort fun x y => decide (x ≤ y)).toArray cur, rfl, Nat.zero_le _, ?_, h4, h5, ?_, ?_⟩⟩ (fun b hb => .inl hb)⟩
    · have hne : g ≠ b := fun e => hb (by simp [SlA, Value.ownBlock, e])
      rw [hat b hb', Array.getElem?_modify, if_neg hne]
    · rw [ints_length, sorted_length, Nat.mul_one]
    · rw [hat g hlt, Array.getElem?_modify, if_pos rfl, h3]; rfl
    · unfold Go.Sort.putCells; rw [Array.size_mapIdx]; exact h6
    · apply List.ext_getElem?
      intro j
      have hcl : xs.length ≤ cur.size := by omega
      rw [List.getElem?_take, Nat.mul_one]
      by_cases hj : j < xs.length
      · rw [if_pos hj, Array.getElem?_toList, ints_getD _ _ (by rw [sorted_length]; exact hj)]
        have hcj : j < cur.size := by omega
        unfold Go.Sort.putCells
        rw [Array.getElem?_mapIdx, Array.getElem?_eq_getElem hcj]
        have hsl : j < (xs.mergeSort fun x y => decide (x ≤ y)).length := by rw [List.length_mergeSort]; exact hj
        simp [sorted, List.getD, hsl]
        intro h
        omega
      · rw [if_neg hj, List.getElem?_eq_none (by rw [ints_length, sorted_length]; omega)]
theorem sort_ints {A : Option Addr} {m cap : Nat} {xs : List Int} {K : World} {F : List Assn} (hsz : xs.length < 4611686018427387904) :
    Does Tryz.prog 84 #[.slice A m cap] K (SlA (.slice A m cap) 3 1 m (ints .i64 xs) :: F)
      (fun v H' => H' = SlA (.slice A m cap) 3 1 m (ints .i64 (sorted xs)) :: F) := by
  refine Does.have_ (p := xs.length = m) (fun w hw => by have := SlA.len hw; rwa [ints_length, Nat.mul_one] at this) (fun hl => ?_)
  cases A with
  | none =>
    refine Does.have_ (p := m = 0 ∧ cap = 0 ∧ xs = []) (fun w hw => by have := SlA.nilCs hw; simpa [ints] using this) (fun ⟨e1, e2, e3⟩ => ?_)
    subst e1 e2 e3
    exact sort_nil.mono fun v H' h => by rw [h, show sorted [] = [] by simp [sorted]]
  | some a =>
    refine Does.have_ (p := ∃ g, a = ⟨g, 0, none⟩) (fun w hw => SlA.addr hw) (fun ⟨g, e1⟩ => ?_)
    subst e1
    exact sort_own hl.symm hsz
end Go.Proofs.YtohkefolnmcjnaaGreat
/- Geometries of casematelaw07. -/
namespace Go.Proofs.YtohkefolnmcjnaaGreat
open Go.Sl Go.RowKit
set_option linter.unusedVariables false
set_option linter.unusedSimpArgs false
set_option maxRecDepth 20000
end Go.Proofs.YtohkefolnmcjnaaGreat
/- The law package casematelaw07: awake. -/
namespace Go.Proofs.YtohkefolnmcjnaaGreat
open Go.Sl Go.RowKit
set_option linter.unusedVariables false
set_option linter.unusedSimpArgs false
set_option maxRecDepth 20000

def tiny : Geo := ⟨2, 2, 1, 16, 1⟩
def z19 : List Int := List.replicate 19 0
def aw0 : Chip := Chip.new tiny [1]
def aw1 : Chip := aw0.arm 1 2
def aw2 : Chip := (aw1.program 0 0 z19).1
def aw3 : Chip := aw2.on
def aw4 : Chip := (aw3.burn 3).1
def aw5 : Chip := (aw4.burn 2).1
end Go.Proofs.YtohkefolnmcjnaaGreat
