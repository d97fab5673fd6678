import Derived.Test.YtohkefolnmcjnaaGreatP16
import Derived.Test.YtohkefolnmcjnaaGreatP17
import Derived.Test.YtohkefolnmcjnaaGreatP18
/- A packed page with some bits turned is read as what was packed. -/
namespace Go.Proofs.YtohkefolnmcjnaaGreat
open Go.Sl Go.RowKit
set_option linter.unusedVariables false
set_option linter.unusedSimpArgs false
set_option maxRecDepth 20000

theorem nodup_le : ∀ {l m : List Nat}, l.Nodup → (∀ x ∈ l, x ∈ m) → l.length ≤ m.length
  | [], m, _, _ => Nat.zero_le _
  | a :: l, m, hn, hs => by
    have hne := List.nodup_cons.1 hn
    have ha := hs a (.head _)
    have h1 := nodup_le (l := l) (m := m.erase a) hne.2 (fun x hx => (List.mem_erase_of_ne (fun h : x = a => hne.1 (by rw [← h]; exact hx))).2 (hs x (.tail _ hx)))
    rw [List.length_erase_of_mem ha] at h1
    have h2 : 0 < m.length := List.length_pos_of_mem ha
    rw [List.length_cons]; omega
theorem natsOf_getD (ys : List Int) (i : Nat) : (natsOf ys).getD i 0 = (ys.getD i 0).toNat := by
  unfold natsOf
  simp only [List.getD, List.getElem?_map]
  cases ys[i]? <;> rfl
theorem natsOf_turn1 (ys : List Int) {i : Int} (hi : 0 ≤ i) : natsOf (turn1 ys i) = flipB (natsOf ys) i.toNat := by
  unfold turn1 flipB
  rw [natsOf_getD]
  unfold natsOf flip8
  rw [List.map_set, Int.toNat_natCast, show (i / 8).toNat = i.toNat / 8 by omega, show (i % 8).toNat = i.toNat % 8 by omega]
def flipAll (xs ks : List Nat) : List Nat := ks.foldl flipB xs
theorem natsOf_turn : ∀ (l xs : List Int), (∀ i ∈ l, 0 ≤ i) → natsOf (turn xs l) = flipAll (natsOf xs) (natsOf l)
  | [], _, _ => rfl
  | i :: l, xs, h => by
    rw [turn, List.foldl_cons, ← turn, natsOf_turn l _ (fun j hj => h j (.tail _ hj)), natsOf_turn1 _ (h i (.head _))]
    rfl
theorem flipAll_length : ∀ (ks xs : List Nat), (flipAll xs ks).length = xs.length
  | [], _ => rfl
  | k :: ks, xs => by
    show (flipAll (flipB xs k) ks).length = _
    rw [flipAll_length ks, flipB_length]
theorem flipAll_small : ∀ (ks xs : List Nat), Small 256 xs → Small 256 (flipAll xs ks)
  | [], _, h => h
  | k :: ks, xs, h => flipAll_small ks _ (flipB_small h k)
theorem flipAll_bit : ∀ (ks xs : List Nat), ks.Nodup → (∀ k ∈ ks, k < 8 * xs.length) → ∀ k, bitAt (flipAll xs ks) k = (bitAt xs k ^^ decide (k ∈ ks))
  | [], xs, _, _, k => by simp [flipAll]
  | i :: ks, xs, hn, hk, k => by
    have hne := List.nodup_cons.1 hn
    show bitAt (flipAll (flipB xs i) ks) k = _
    rw [flipAll_bit ks _ hne.2 (fun j hj => by rw [flipB_length]; exact hk j (.tail _ hj)), bitAt_flip (hk i (.head _)), Bool.xor_assoc]
    congr 1
    by_cases h : k = i
    · subst h; simp [hne.1]
    · rw [decide_eq_false (show ¬ i = k from fun e => h e.symm), Bool.false_xor]
      apply decide_eq_decide.2
      rw [List.mem_cons]
      exact ⟨.inr, fun e => e.resolve_left h⟩
theorem flipAll_byte : ∀ (ks xs : List Nat) (p : Nat), (∀ k ∈ ks, k / 8 ≠ p) → (flipAll xs ks).getD p 0 = xs.getD p 0
  | [], _, _, _ => rfl
  | i :: ks, xs, p, h => by
    show (flipAll (flipB xs i) ks).getD p 0 = _
    rw [flipAll_byte ks _ p (fun k hk => h k (.tail _ hk))]
    unfold flipB
    rw [getD_set, if_neg (fun hh => h i (.head _) hh.1)]
theorem getD_sub (xs : List Nat) (a B i : Nat) : ((xs.drop a).take B).getD i 0 = if i < B then xs.getD (a + i) 0 else 0 := by
  simp only [List.getD, List.getElem?_take, List.getElem?_drop]
  split <;> rfl
theorem bitAt_sub (xs : List Nat) (a B k : Nat) (hk : k < 8 * B) : bitAt ((xs.drop a).take B) k = bitAt xs (8 * a + k) := by
  unfold bitAt
  rw [getD_sub, if_pos (by omega), show (8 * a + k) / 8 = a + k / 8 by omega, show (8 * a + k) % 8 = k % 8 by omega]
section
variable {t B S : Nat} {d : List Nat}
/-- Where a bit of sector j's word lies in the page. -/
def plc (t B n j e : Nat) : Nat := if 13 * t ≤ e then 8 * (j * n) + (e - 13 * t) else 8 * (j * n + B) + e
def secE (t B n : Nat) (ks : List Nat) (j : Nat) : List Nat := (List.range (13 * t + 8 * B)).filter fun e => decide (plc t B n j e ∈ ks)
theorem secE_nodup (t B n : Nat) (ks : List Nat) (j : Nat) : (secE t B n ks j).Nodup := List.Pairwise.filter _ List.nodup_range
theorem secE_len {n j : Nat} {ks : List Nat} (hn : n = B + moreLen t) : (secE t B n ks j).length ≤ (ks.filter fun k => decide (k / 8 / n = j)).length := by
  have hm8 : 13 * t ≤ 8 * moreLen t := by unfold moreLen; omega
  have hinj : ∀ a b, a < 13 * t + 8 * B → b < 13 * t + 8 * B → plc t B n j a = plc t B n j b → a = b := fun a b ha hb h => by
    unfold plc at h
    split at h <;> split at h <;> omega
  have h1 := nodup_le (l := (secE t B n ks j).map (plc t B n j)) (m := ks.filter fun k => decide (k / 8 / n = j)) (by
    unfold List.Nodup
    rw [List.pairwise_map]
    refine List.Pairwise.imp_of_mem ?_ (secE_nodup t B n ks j)
    intro a b ha hb hab h
    exact hab (hinj a b (List.mem_range.1 (List.mem_filter.1 ha).1) (List.mem_range.1 (List.mem_filter.1 hb).1) h)) (fun x hx => by
    obtain ⟨e, he, rfl⟩ := List.mem_map.1 hx
    obtain ⟨h2, h3⟩ := List.mem_filter.1 he
    have h2 := List.mem_range.1 h2
    refine List.mem_filter.2 ⟨of_decide_eq_true h3, decide_eq_true ?_⟩
    have hB : plc t B n j e / 8 < (j + 1) * n ∧ j * n ≤ plc t B n j e / 8 := by
      rw [Nat.succ_mul]
      unfold plc
      split <;> omega
    exact Nat.div_eq_of_lt_le hB.2 hB.1)
  rwa [List.length_map] at h1
theorem readTo_many : ∀ (k j : Nat) (acc : List Nat) (m0 : Nat) (c : Nat → Nat), m0 ≤ t → (∀ i, c i ≤ t) → ∃ N, N ≤ t ∧ readTo ((List.range' j k).map fun i => some ((sect B d i, encB t (sect B d i)), c i)) acc m0 = ⟨0, acc ++ (d.drop (j * B)).take (k * B), N⟩
  | 0, j, acc, m0, c, h0, h => ⟨m0, h0, by simp [readTo]⟩
  | k + 1, j, acc, m0, c, h0, h => by
    obtain ⟨N, hN, h1⟩ := readTo_many k (j + 1) (acc ++ sect B d j) (max m0 (c j)) c (by have := h j; omega) h
    refine ⟨N, hN, ?_⟩
    rw [List.range'_succ, List.map_cons, readTo, h1]
    congr 1
    rw [List.append_assoc]
    congr 1
    unfold sect
    rw [show (k + 1) * B = B + k * B by rw [Nat.succ_mul, Nat.add_comm], List.take_add, List.drop_drop, Nat.succ_mul]
/-- What is packed is read, though in each sector up to t bits are turned. -/
theorem read_flip (ht : 1 ≤ t ∧ t ≤ 8) (hB : B ≤ 512) (h8 : Small 256 d) (hl : d.length = S * B) {ks : List Nat} (hk : ks.Nodup) (hks : ∀ k ∈ ks, k < 8 * (S * (B + moreLen t))) (hc : ∀ j, (ks.filter fun k => decide (k / 8 / (B + moreLen t) = j)).length ≤ t) :
    ∃ N, N ≤ t ∧ readF t S B (flipAll (packF t S B d) ks) = ⟨0, d, N⟩ := by
  obtain ⟨n, hn⟩ : ∃ n, n = B + moreLen t := ⟨_, rfl⟩
  rw [← hn] at hks hc
  obtain ⟨P, hP⟩ : ∃ P, P = packF t S B d := ⟨_, rfl⟩
  have hPl : P.length = S * n + 1 := by rw [hP, packF_length ht h8 hl, hn]; rfl
  have hP8 : Small 256 P := by rw [hP]; exact packF_small ht h8
  have hst : stateF t S n P = 0 := by rw [hP, hn]; exact packF_state ht h8 hl
  have hz : P.getD (S * n) 0 = 0 := by
    unfold stateF at hst
    split at hst
    · assumption
    · split at hst
      · cases hst
      · split at hst <;> cases hst
  have hst2 : stateF t S n (flipAll P ks) = 0 := by
    unfold stateF
    rw [if_pos]
    rw [flipAll_byte ks P (S * n) (fun k hk => by have := hks k hk; omega)]
    exact hz
  have hlt : ∀ k ∈ ks, k < 8 * P.length := fun k hk => by have := hks k hk; omega
  have hbit := flipAll_bit ks P hk hlt
  have hsec : ∀ j, j < S → uSec t B n (flipAll P ks) j = some ((sect B d j, encB t (sect B d j)), (secE t B n ks j).length) := fun j hj => by
    have e1 : secD B n P j = sect B d j := by rw [hP, hn]; exact (packF_split ht h8 hl hj).1
    have e2 : secM B n P j = encB t (sect B d j) := by rw [hP, hn]; exact (packF_split ht h8 hl hj).2
    have hsl := sect_length hl hj
    have hjn : (j + 1) * n ≤ S * n := Nat.mul_le_mul_right _ hj
    rw [Nat.succ_mul] at hjn
    have hfl := flipAll_length ks P
    unfold uSec
    refine dec_mends ht (sect_small h8 j) (by omega) (Small.take (Small.drop (flipAll_small ks P hP8))) (Small.take (Small.drop (Small.drop (flipAll_small ks P hP8)))) ?_ ?_ (secE_nodup t B n ks j) (fun e he => ?_) ?_ (fun i hi => ?_)
    · show ((_ : List Nat).take B).length = _
      rw [List.length_take, List.length_drop]; omega
    · show ((_ : List Nat).take (n - B)).length = _
      rw [List.length_take, List.length_drop, List.length_drop]; omega
    · have := List.mem_range.1 (List.mem_filter.1 he).1
      omega
    · exact Nat.le_trans (secE_len hn) (hc j)
    · have hmem : decide (i ∈ secE t B n ks j) = decide (plc t B n j i ∈ ks) := by
        apply decide_eq_decide.2
        unfold secE
        rw [List.mem_filter, List.mem_range]
        exact ⟨fun h => of_decide_eq_true h.2, fun h => ⟨by omega, decide_eq_true h⟩⟩
      rw [hmem]
      unfold wAt plc
      by_cases h : 13 * t ≤ i
      · rw [if_pos h, if_pos h, if_pos h, ← e1]
        unfold secD
        rw [bitAt_sub _ _ _ _ (by omega), bitAt_sub _ _ _ _ (by omega), hbit]
      · have hm8 : 13 * t ≤ 8 * moreLen t := by unfold moreLen; omega
        rw [if_neg h, if_neg h, if_neg h, ← e2]
        unfold secM
        rw [List.drop_drop, List.drop_drop, bitAt_sub _ _ _ _ (by omega), bitAt_sub _ _ _ _ (by omega), hbit]
  obtain ⟨N, hN, h1⟩ := readTo_many (t := t) (B := B) (d := d) S 0 [] 0 (fun j => (secE t B n ks j).length) (Nat.zero_le _) (fun j => Nat.le_trans (secE_len hn) (hc j))
  refine ⟨N, hN, ?_⟩
  rw [← hP]
  unfold readF
  rw [← hn, if_neg (fun h => h hst2)]
  have h2 : (List.range S).map (uSec t B n (flipAll P ks)) = (List.range' 0 S).map fun i => some ((sect B d i, encB t (sect B d i)), (secE t B n ks i).length) := by
    rw [← List.range_eq_range']
    apply List.map_congr_left
    intro j hj
    exact hsec j (List.mem_range.1 hj)
  rw [h2, h1, Nat.zero_mul, List.drop_zero, List.nil_append, ← hl, List.take_length]
end
end Go.Proofs.YtohkefolnmcjnaaGreat
/- The drive's functions at any geometry; a nil drive; casematelaw08: small, tiny, awake. -/
namespace Go.Proofs.YtohkefolnmcjnaaGreat
open Go.Sl Go.RowKit
set_option linter.unusedVariables false
set_option linter.unusedSimpArgs false
set_option maxRecDepth 20000

namespace Chip
theorem program_g (S : Chip) (b p : Int) (xs : List Int) : (S.program b p xs).1.g = S.g := by unfold program; repeat (first | rfl | split)
theorem erase_g (S : Chip) (b : Int) : (S.erase b).1.g = S.g := by unfold erase; repeat (first | rfl | split)
theorem mark_g (S : Chip) (b : Int) : (S.mark b).1.g = S.g := by
  unfold mark all
  repeat (first | rfl | split)
theorem done_g (b : Int) (x : Chip × Int) : (done b x).1.g = x.1.g := by
  unfold done
  split
  · rfl
  · split
    · exact mark_g _ _
    · exact mark_g _ _
theorem dWrite_g (S : Chip) (b p : Int) (d : List Nat) : (S.dWrite b p d).1.g = S.g := by
  unfold dWrite
  split
  · rfl
  · rw [done_g, program_g]
theorem dErase_g (S : Chip) (b : Int) : (S.dErase b).1.g = S.g := by
  unfold dErase
  split
  · rfl
  · rw [done_g, erase_g]
end Chip
theorem Cw.g_sem {C C' : Cw} {S : Chip} (h : C'.sem = S) (hg : S.g = C.sem.g) : C'.g = C.g := by
  have : C'.sem.g = C.sem.g := by rw [h, hg]
  exact this
section
variable {bc bd : Nat} {C : Cw} {g : Geo} {K : World} {F : List Assn}
theorem drive_WriteG (hC : C.Ok) (hg : C.g = g) (b p : Int) {A : Option Addr} {m cap : Nat} {d : List Nat} (hd : Seq K F A m 1 (nats .u8 d)) (h8 : Small 256 d) (hmc : m ≤ cap) (hm : m ≤ 1000000) :
    Does Tryz.prog 23 #[ptr bd 0, .int .i64 b, .int .i64 p, .slice A m cap] K (C.A bc :: DvA bd bc g :: F)
    (fun v H' => ∃ C' : Cw, C'.Ok ∧ C'.g = g ∧ H' = C'.A bc :: DvA bd bc g :: F ∧ C'.sem = (C.sem.dWrite b p d).1 ∧ v = .int .i64 (C.sem.dWrite b p d).2) := by
  subst hg
  exact (drive_Write hC b p hd h8 hmc hm).mono fun v H' ⟨C', h1, h2, h3, h4⟩ => ⟨C', h1, Cw.g_sem h3 (Chip.dWrite_g _ _ _ _), h2, h3, h4⟩
theorem drive_EraseG (hC : C.Ok) (hg : C.g = g) (b : Int) : Does Tryz.prog 61 #[ptr bd 0, .int .i64 b] K (C.A bc :: DvA bd bc g :: F)
    (fun v H' => ∃ C' : Cw, C'.Ok ∧ C'.g = g ∧ H' = C'.A bc :: DvA bd bc g :: F ∧ C'.sem = (C.sem.dErase b).1 ∧ v = .int .i64 (C.sem.dErase b).2) := by
  subst hg
  exact (drive_Erase hC b).mono fun v H' ⟨C', h1, h2, h3, h4⟩ => ⟨C', h1, Cw.g_sem h3 (Chip.dErase_g _ _), h2, h3, h4⟩
theorem drive_ReadG (hC : C.Ok) (hg : C.g = g) (b p : Int) : Does Tryz.prog 26 #[ptr bd 0, .int .i64 b, .int .i64 p] K (C.A bc :: DvA bd bc g :: F)
    (fun v H' => ∃ A' c', v = .tuple #[.slice A' (C.sem.dRead b p).d.length c', .int .i64 ((C.sem.dRead b p).n : Nat), .int .i64 (C.sem.dRead b p).err] ∧
      H' = SlA (.slice A' (C.sem.dRead b p).d.length c') 5 1 (C.sem.dRead b p).d.length (nats .u8 (C.sem.dRead b p).d) :: C.A bc :: DvA bd bc g :: F) := by
  subst hg
  exact drive_Read hC b p
theorem drive_WholeG (hC : C.Ok) (hg : C.g = g) (b n : Int) (hn : -9223372036854775808 ≤ n ∧ n ≤ 9223372036854775807) : Tells Tryz.prog 27 #[ptr bd 0, .int .i64 b, .int .i64 n] K (C.A bc :: DvA bd bc g :: F) (.tuple #[.bool (C.sem.dWhole b n).1, .int .i64 (C.sem.dWhole b n).2]) := by
  subst hg
  exact drive_Whole hC b n hn
theorem drive_GoodG (hC : C.Ok) (hg : C.g = g) : Does Tryz.prog 18 #[ptr bd 0] K (C.A bc :: DvA bd bc g :: F)
    (fun v H' => ∃ A' c', v = .slice A' C.sem.good.length c' ∧ H' = SlA (.slice A' C.sem.good.length c') 3 1 C.sem.good.length (ints .i64 C.sem.good) :: C.A bc :: DvA bd bc g :: F) := by
  subst hg
  exact drive_Good hC
theorem drive_NewG (hC : C.Ok) (hg : C.g = g) : Does Tryz.prog 14 #[ptr bc 0] K (C.A bc :: F) (fun v H' => ∃ bd, v = .tuple #[ptr bd 0, .int .i64 0] ∧ H' = C.A bc :: DvA bd bc g :: F) := by
  subst hg
  exact drive_New hC
/-! ### A nil drive -/
end
end Go.Proofs.YtohkefolnmcjnaaGreat
/- What a drive's deeds come to: plain. -/
namespace Go.Proofs.YtohkefolnmcjnaaGreat
open Go.Sl Go.RowKit
set_option linter.unusedVariables false
set_option linter.unusedSimpArgs false
set_option maxRecDepth 20000

namespace Chip
theorem deed_same {S : Chip} (h : S.left = 0) : S.deed = S := by
  unfold deed cut
  rw [h]
  obtain ⟨a, b, c, d, e, f, g, up, l, k⟩ := S
  dsimp only at h
  subst h
  simp
theorem page_ok {S : Chip} {b p : Int} (h : 0 ≤ b ∧ b < S.g.bl ∧ 0 ≤ p ∧ p < S.g.pg) : S.page b p = true := by
  unfold page block
  simp; omega
theorem block_ok {S : Chip} {b : Int} (h : 0 ≤ b ∧ b < S.g.bl) : S.block b = true := by
  unfold block
  simp; omega
theorem ahead_ok {S : Chip} {b p : Int} (hu : S.up = true) (h : 0 ≤ b ∧ b < S.g.bl ∧ 0 ≤ p ∧ p < S.g.pg) (hm : S.marked b = false) : S.ahead b p true = 0 := by
  unfold ahead bad
  rw [if_neg (by rw [hu]; decide), if_neg (fun hh => by rcases hh with h | h | h | h | h <;> first | omega | cases h), hm, Bool.and_false, if_neg (by decide)]
section
variable {S : Chip} {b p : Int} {d : List Nat}
theorem pack_len (hg : S.g.mays) (h8 : Small 256 d) (hl : d.length = S.room) : ((intsOf (packG S.g d)).length : Int) = S.raw := by
  have hN := NGood.of (bl := S.g.bl) (pg := S.g.pg) (by rw [← geo_nat hg]; exact hg)
  unfold packG intsOf
  rw [List.length_map, packF_length hN.t h8 hl]
  exact (Geo.raw_nat hg).symm
theorem dWrite_prog (hu : S.up = true) (h : 0 ≤ b ∧ b < S.g.bl ∧ 0 ≤ p ∧ p < S.g.pg) (hm : S.marked b = false) (hl : d.length = S.room) : S.dWrite b p d = done b (S.program b p (intsOf (packG S.g d))) := by
  have e : decide (d.length = S.room) = true := decide_eq_true hl
  unfold dWrite
  rw [e, if_neg (by rw [ahead_ok hu h hm]; decide)]
theorem rawN_page {xs : List Nat} (hp : S.pages (b, p) = some (intsOf xs)) (hw : S.wrong (b, p) = none) : S.rawN b p = xs := by
  unfold rawN reads
  rw [hp, hw]
  exact natsOf_intsOf xs
theorem dRead_page (hg : S.g.mays) (hu : S.up = true) (h : 0 ≤ b ∧ b < S.g.bl ∧ 0 ≤ p ∧ p < S.g.pg) (hm : S.marked b = false) (h8 : Small 256 d) (hl : d.length = S.room) (hp : S.pages (b, p) = some (intsOf (packG S.g d))) (hw : S.wrong (b, p) = none) :
    S.dRead b p = ⟨0, d, 0⟩ := by
  have hN := NGood.of (bl := S.g.bl) (pg := S.g.pg) (by rw [← geo_nat hg]; exact hg)
  unfold dRead
  rw [if_neg (by rw [ahead_ok hu h hm]; decide), rawN_page hp hw]
  unfold packG
  rw [read_pack hN.t h8 hl]
  rfl
theorem state_255 {t S n : Nat} {raw : List Nat} (h : raw.getD (S * n) 0 = 255) : stateF t S n raw = 60 ∨ stateF t S n raw = 61 := by
  unfold stateF
  rw [h, if_neg (by decide), if_neg (fun h => h rfl)]
  split
  · exact .inl rfl
  · exact .inr rfl
end
end Chip
end Go.Proofs.YtohkefolnmcjnaaGreat
