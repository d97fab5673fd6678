import Derived.Test.YtcedojacbhnbiaaGreatP28
import Derived.Test.YtcedojacbhnbiaaGreatP19
import Derived.Test.YtcedojacbhnbiaaGreatP18
import Derived.Test.YtcedojacbhnbiaaGreatP27
namespace Go.Proofs.YtcedojacbhnbiaaGreat
open Go.Sl Go.RowKit
set_option linter.unusedVariables false
set_option linter.unusedSimpArgs false
set_option maxRecDepth 20000
theorem yG : ∀ {l m : List Nat}, l.Nodup → (∀ x ∈ l, x ∈ m) → l.length ≤ m.length
  | [], m, _, _ => Nat.zero_le _
  | a :: l, m, hn, hs => by
    have hne := List.nodup_cons.1 hn
    have ha := hs a (.head _)
    have h1 := yG (l := l) (m := m.erase a) hne.2 (fun x hx => (List.mem_erase_of_ne (fun h : x = a => hne.1 (by rw [← h]; exact hx))).2 (hs x (.tail _ hx)))
    rw [List.length_erase_of_mem ha] at h1
    have h2 : 0 < m.length := List.length_pos_of_mem ha
    rw [List.length_cons]; omega
theorem DT (ys : List Int) (i : Nat) : (eU ys).getD i 0 = (ys.getD i 0).toNat := by
  unfold eU
  simp only [List.getD, List.getElem?_map]
  cases ys[i]? <;> rfl
theorem CO (ys : List Int) {i : Int} (hi : 0 ≤ i) : eU (yB ys i) = iC (eU ys) i.toNat := by
  unfold yB iC
  rw [DT]
  unfold eU wD
  rw [List.map_set, Int.toNat_natCast, show (i / 8).toNat = i.toNat / 8 by omega, show (i % 8).toNat = i.toNat % 8 by omega]
def eO (xs ks : List Nat) : List Nat := ks.foldl iC xs
theorem pG : ∀ (l xs : List Int), (∀ i ∈ l, 0 ≤ i) → eU (turn xs l) = eO (eU xs) (eU l)
  | [], _, _ => rfl
  | i :: l, xs, h => by
    rw [turn, List.foldl_cons, ← turn, pG l _ (fun j hj => h j (.tail _ hj)), CO _ (h i (.head _))]
    rfl
theorem oO : ∀ (ks xs : List Nat), (eO xs ks).length = xs.length
  | [], _ => rfl
  | k :: ks, xs => by
    show (eO (iC xs k) ks).length = _
    rw [oO ks, dO]
theorem lU : ∀ (ks xs : List Nat), Small 256 xs → Small 256 (eO xs ks)
  | [], _, h => h
  | k :: ks, xs, h => lU ks _ (iO h k)
theorem vM : ∀ (ks xs : List Nat), ks.Nodup → (∀ k ∈ ks, k < 8 * xs.length) → ∀ k, aR (eO xs ks) k = (aR xs k ^^ decide (k ∈ ks))
  | [], xs, _, _, k => by simp [eO]
  | i :: ks, xs, hn, hk, k => by
    have hne := List.nodup_cons.1 hn
    show aR (eO (iC xs i) ks) k = _
    rw [vM ks _ hne.2 (fun j hj => by rw [dO]; exact hk j (.tail _ hj)), nK (hk i (.head _)), Bool.xor_assoc]
    congr 1
    by_cases h : k = i
    · subst h; simp [hne.1]
    · rw [decide_eq_false (show ¬ i = k from fun e => h e.symm), Bool.false_xor]
      apply decide_eq_decide.2
      rw [List.mem_cons]
      exact ⟨.inr, fun e => e.resolve_left h⟩
theorem nk : ∀ (ks xs : List Nat) (p : Nat), (∀ k ∈ ks, k / 8 ≠ p) → (eO xs ks).getD p 0 = xs.getD p 0
  | [], _, _, _ => rfl
  | i :: ks, xs, p, h => by
    show (eO (iC xs i) ks).getD p 0 = _
    rw [nk ks _ p (fun k hk => h k (.tail _ hk))]
    unfold iC
    rw [kL, if_neg (fun hh => h i (.head _) hh.1)]
theorem La (xs : List Nat) (a B i : Nat) : ((xs.drop a).take B).getD i 0 = if i < B then xs.getD (a + i) 0 else 0 := by
  simp only [List.getD, List.getElem?_take, List.getElem?_drop]
  split <;> rfl
theorem qx (xs : List Nat) (a B k : Nat) (hk : k < 8 * B) : aR ((xs.drop a).take B) k = aR xs (8 * a + k) := by
  unfold aR
  rw [La, if_pos (by omega), show (8 * a + k) / 8 = a + k / 8 by omega, show (8 * a + k) % 8 = k % 8 by omega]
section
variable {t B S : Nat} {d : List Nat}
def Lj (t B n j e : Nat) : Nat := if 13 * t ≤ e then 8 * (j * n) + (e - 13 * t) else 8 * (j * n + B) + e
def Co (t B n : Nat) (ks : List Nat) (j : Nat) : List Nat := (List.range (13 * t + 8 * B)).filter fun e => decide (Lj t B n j e ∈ ks)
theorem xK (t B n : Nat) (ks : List Nat) (j : Nat) : (Co t B n ks j).Nodup := List.Pairwise.filter _ List.nodup_range
theorem Df {n j : Nat} {ks : List Nat} (hn : n = B + ay t) : (Co t B n ks j).length ≤ (ks.filter fun k => decide (k / 8 / n = j)).length := by
  have MV : 13 * t ≤ 8 * ay t := by unfold ay; omega
  have hinj : ∀ a b, a < 13 * t + 8 * B → b < 13 * t + 8 * B → Lj t B n j a = Lj t B n j b → a = b := fun a b ha hb h => by
    unfold Lj at h
    split at h <;> split at h <;> omega
  have h1 := yG (l := (Co t B n ks j).map (Lj t B n j)) (m := ks.filter fun k => decide (k / 8 / n = j)) (by
    unfold List.Nodup
    rw [List.pairwise_map]
    refine List.Pairwise.imp_of_mem ?_ (xK t B n ks j)
    intro a b ha hb hab h
    exact hab (hinj a b (List.mem_range.1 (List.mem_filter.1 ha).1) (List.mem_range.1 (List.mem_filter.1 hb).1) h)) (fun x hx => by
    obtain ⟨e, he, rfl⟩ := List.mem_map.1 hx
    obtain ⟨h2, h3⟩ := List.mem_filter.1 he
    have h2 := List.mem_range.1 h2
    refine List.mem_filter.2 ⟨of_decide_eq_true h3, decide_eq_true ?_⟩
    have hB : Lj t B n j e / 8 < (j + 1) * n ∧ j * n ≤ Lj t B n j e / 8 := by
      rw [Nat.succ_mul]
      unfold Lj
      split <;> omega
    exact Nat.div_eq_of_lt_le hB.2 hB.1)
  rwa [List.length_map] at h1
theorem vW : ∀ (k j : Nat) (acc : List Nat) (m0 : Nat) (c : Nat → Nat), m0 ≤ t → (∀ i, c i ≤ t) → ∃ N, N ≤ t ∧ m0 ≤ N ∧ (∀ i, j ≤ i → i < j + k → c i ≤ N) ∧ gu ((List.range' j k).map fun i => some ((dL B d i, fA t (dL B d i)), c i)) acc m0 = ⟨0, acc ++ (d.drop (j * B)).take (k * B), N⟩
  | 0, j, acc, m0, c, h0, h => ⟨m0, h0, Nat.le_refl _, fun i h1 h2 => by omega, by simp [gu]⟩
  | k + 1, j, acc, m0, c, h0, h => by
    obtain ⟨N, hN, hN0, OM, h1⟩ := vW k (j + 1) (acc ++ dL B d j) (max m0 (c j)) c (by have := h j; omega) h
    refine ⟨N, hN, by omega, fun i h3 h4 => ?_, ?_⟩
    · by_cases hij : i = j
      · subst hij; omega
      · exact OM i (by omega) (by omega)
    rw [List.range'_succ, List.map_cons, gu, h1]
    congr 1
    rw [List.append_assoc]
    congr 1
    unfold dL
    rw [show (k + 1) * B = B + k * B by rw [Nat.succ_mul, Nat.add_comm], List.take_add, List.drop_drop, Nat.succ_mul]
theorem Gm (ht : 1 ≤ t ∧ t ≤ 8) (hB : B ≤ 512) (h8 : Small 256 d) (hl : d.length = S * B) {ks : List Nat} (hk : ks.Nodup) (hks : ∀ k ∈ ks, k < 8 * (S * (B + ay t))) (hc : ∀ j, (ks.filter fun k => decide (k / 8 / (B + ay t) = j)).length ≤ t) :
    ∃ N, N ≤ t ∧ (∀ j, j < S → (Co t B (B + ay t) ks j).length ≤ N) ∧ cO t S B (eO (ji t S B d) ks) = ⟨0, d, N⟩ := by
  obtain ⟨n, hn⟩ : ∃ n, n = B + ay t := ⟨_, rfl⟩
  rw [← hn] at hks hc ⊢
  obtain ⟨P, hP⟩ : ∃ P, P = ji t S B d := ⟨_, rfl⟩
  have SQ : P.length = S * n + 1 := by rw [hP, nA ht h8 hl, hn]; rfl
  have QZ : Small 256 P := by rw [hP]; exact vJ ht h8
  have hst : dN t S n P = 0 := by rw [hP, hn]; exact wF ht h8 hl
  have hz : P.getD (S * n) 0 = 0 := by
    unfold dN at hst
    split at hst
    · assumption
    · split at hst
      · cases hst
      · split at hst <;> cases hst
  have yE : dN t S n (eO P ks) = 0 := by
    unfold dN
    rw [if_pos]
    rw [nk ks P (S * n) (fun k hk => by have := hks k hk; omega)]
    exact hz
  have hlt : ∀ k ∈ ks, k < 8 * P.length := fun k hk => by have := hks k hk; omega
  have hbit := vM ks P hk hlt
  have NV : ∀ j, j < S → rJ t B n (eO P ks) j = some ((dL B d j, fA t (dL B d j)), (Co t B n ks j).length) := fun j hj => by
    have e1 : sW B n P j = dL B d j := by rw [hP, hn]; exact (oo ht h8 hl hj).1
    have e2 : Db B n P j = fA t (dL B d j) := by rw [hP, hn]; exact (oo ht h8 hl hj).2
    have hsl := lG hl hj
    have hjn : (j + 1) * n ≤ S * n := Nat.mul_le_mul_right _ hj
    rw [Nat.succ_mul] at hjn
    have hfl := oO ks P
    unfold rJ
    refine H8 ht (fJ h8 j) (by omega) (Small.take (Small.drop (lU ks P QZ))) (Small.take (Small.drop (Small.drop (lU ks P QZ)))) ?_ ?_ (xK t B n ks j) (fun e he => ?_) ?_ (fun i hi => ?_)
    · show ((_ : List Nat).take B).length = _
      rw [List.length_take, List.length_drop]; omega
    · show ((_ : List Nat).take (n - B)).length = _
      rw [List.length_take, List.length_drop, List.length_drop]; omega
    · have := List.mem_range.1 (List.mem_filter.1 he).1
      omega
    · exact Nat.le_trans (Df hn) (hc j)
    · have hmem : decide (i ∈ Co t B n ks j) = decide (Lj t B n j i ∈ ks) := by
        apply decide_eq_decide.2
        unfold Co
        rw [List.mem_filter, List.mem_range]
        exact ⟨fun h => of_decide_eq_true h.2, fun h => ⟨by omega, decide_eq_true h⟩⟩
      rw [hmem]
      unfold xq Lj
      by_cases h : 13 * t ≤ i
      · rw [if_pos h, if_pos h, if_pos h, ← e1]
        unfold sW
        rw [qx _ _ _ _ (by omega), qx _ _ _ _ (by omega), hbit]
      · have MV : 13 * t ≤ 8 * ay t := by unfold ay; omega
        rw [if_neg h, if_neg h, if_neg h, ← e2]
        unfold Db
        rw [List.drop_drop, List.drop_drop, qx _ _ _ _ (by omega), qx _ _ _ _ (by omega), hbit]
  obtain ⟨N, hN, _, OM, h1⟩ := vW (t := t) (B := B) (d := d) S 0 [] 0 (fun j => (Co t B n ks j).length) (Nat.zero_le _) (fun j => Nat.le_trans (Df hn) (hc j))
  refine ⟨N, hN, fun j hj => OM j (Nat.zero_le _) (by omega), ?_⟩
  rw [← hP]
  unfold cO
  rw [← hn, if_neg (fun h => h yE)]
  have h2 : (List.range S).map (rJ t B n (eO P ks)) = (List.range' 0 S).map fun i => some ((dL B d i, fA t (dL B d i)), (Co t B n ks i).length) := by
    rw [← List.range_eq_range']
    apply List.map_congr_left
    intro j hj
    exact NV j (List.mem_range.1 hj)
  rw [h2, h1, Nat.zero_mul, List.drop_zero, List.nil_append, ← hl, List.take_length]
theorem Hw (ht : 1 ≤ t ∧ t ≤ 8) (hB : B ≤ 512) (h8 : Small 256 d) (hl : d.length = S * B) {ks : List Nat} (hk : ks.Nodup) (hks : ∀ k ∈ ks, k < 8 * (S * (B + ay t))) (hc : ∀ j, (ks.filter fun k => decide (k / 8 / (B + ay t) = j)).length ≤ t) :
    ∃ N, N ≤ t ∧ cO t S B (eO (ji t S B d) ks) = ⟨0, d, N⟩ := by
  obtain ⟨N, h1, _, h2⟩ := Gm ht hB h8 hl hk hks hc
  exact ⟨N, h1, h2⟩
end
def Geo.dL (g : Geo) : Nat := g.sb.toNat + ay g.fl.toNat
namespace ak
def Ll (S : ak) (k : Int × Int) : Prop := ∀ w, S.wrong k = some w → (eU w).Nodup ∧ (∀ x ∈ w, 0 ≤ x ∧ x < (8 * S.g.dL : Nat)) ∧ w.length ≤ S.g.fl.toNat
theorem Du {g : Geo} (hg : g.aF) : g.raw = ((g.se.toNat * g.dL + 1 : Nat) : Int) := Geo.nP hg
theorem Dt {S : ak} {b p : Int} (hw : S.Ll (b, p)) : ∃ ks : List Nat, ks.Nodup ∧ (∀ k ∈ ks, k < 8 * S.g.dL) ∧ ks.length ≤ S.g.fl.toNat ∧ (S.wrong (b, p) = none → ks = []) ∧
    ∀ xs, S.pages (b, p) = some (bq xs) → S.fU b p = eO xs ks := by
  cases hwr : S.wrong (b, p) with
  | none => exact ⟨[], List.nodup_nil, fun k hk => (by cases hk), Nat.zero_le _, fun _ => rfl, fun xs hp => A9 hp hwr⟩
  | some w =>
    obtain ⟨h1, h2, h3⟩ := hw w hwr
    refine ⟨eU w, h1, fun k hk => ?_, by rw [jB]; exact h3, fun h => (by cases h), fun xs hp => ?_⟩
    · obtain ⟨x, hx, rfl⟩ := List.mem_map.1 hk
      have := h2 x hx
      omega
    · unfold fU reads
      rw [hp, hwr]
      show eU (turn (bq xs) w) = _
      rw [pG _ _ (fun i hi => (h2 i hi).1), jy]
theorem Ai {S : ak} {b p : Int} {d : List Nat} (hg : S.g.aF) (hu : S.up = true) (h : 0 ≤ b ∧ b < S.g.bl ∧ 0 ≤ p ∧ p < S.g.pg) (hm : S.marked b = false) (h8 : Small 256 d) (hl : d.length = S.room)
    (hp : S.pages (b, p) = some (bq (cK S.g d))) (hw : S.Ll (b, p)) : ∃ N : Nat, (S.wrong (b, p) = none → N = 0) ∧ S.bB b p = ⟨0, d, N⟩ ∧ S.jP b p = 0 := by
  have hN := nY.of (bl := S.g.bl) (pg := S.g.pg) (by rw [← gT hg]; exact hg)
  obtain ⟨hs1, hb1, ht1⟩ := hN
  obtain ⟨ks, k1, k2, k3, k4, k5⟩ := Dt hw
  have hr := k5 _ hp
  have hse : 8 * S.g.dL ≤ 8 * (S.g.se.toNat * S.g.dL) := Nat.mul_le_mul_left _ (Nat.le_mul_of_pos_left _ (by omega))
  obtain ⟨N, hN1, OM⟩ := Hw (t := S.g.fl.toNat) (B := S.g.sb.toNat) (S := S.g.se.toNat) (d := d) ht1 (by omega) h8 hl k1 (fun k hk => Nat.lt_of_lt_of_le (k2 k hk) hse) (fun j => by
    refine Nat.le_trans (List.length_filter_le _ _) k3)
  have hread : cO S.g.fl.toNat S.g.se.toNat S.g.sb.toNat (S.fU b p) = ⟨0, d, N⟩ := by rw [hr]; exact OM
  have Qf : S.ahead b p true = 0 := oJ hu h hm
  have hdr : S.bB b p = ⟨0, d, N⟩ := by
    unfold bB
    rw [if_neg (by rw [Qf]; decide), hread]
    rfl
  refine ⟨N, fun hn => ?_, hdr, ?_⟩
  · have h1 := FJ hg hu h hm h8 hl hp hn
    rw [hdr] at h1
    injection h1
  · unfold jP
    rcases Nat.eq_zero_or_pos (dN S.g.fl.toNat S.g.se.toNat (S.g.sb.toNat + ay S.g.fl.toNat) (S.fU b p)) with h1 | h1
    · exact h1
    · unfold cO at hread
      rw [if_pos (by omega)] at hread
      injection hread
def q8 (S : ak) (k : Int × Int) : Prop := ∀ xs, S.pages k = some xs → ∃ ys, xs = bq ys ∧ ys.getD (S.g.se.toNat * S.g.dL) 0 = 255
theorem xI {S : ak} {b p : Int} (hg : S.g.aF) (ht : S.q8 (b, p)) (hw : S.Ll (b, p)) : S.jP b p ≠ 0 := by
  have hN := nY.of (bl := S.g.bl) (pg := S.g.pg) (by rw [← gT hg]; exact hg)
  obtain ⟨hs1, hb1, ht1⟩ := hN
  have key : ∀ (ys ks : List Nat), ys.getD (S.g.se.toNat * S.g.dL) 0 = 255 → (∀ k ∈ ks, k < 8 * S.g.dL) → dN S.g.fl.toNat S.g.se.toNat (S.g.sb.toNat + ay S.g.fl.toNat) (eO ys ks) ≠ 0 := fun ys ks hy hk => by
    have h1 : (eO ys ks).getD (S.g.se.toNat * (S.g.sb.toNat + ay S.g.fl.toNat)) 0 = 255 := by
      rw [nk ks ys _ (fun k hk' => ?_)]
      · exact hy
      · have h2 := hk k hk'
        have h3 : S.g.dL ≤ S.g.se.toNat * S.g.dL := Nat.le_mul_of_pos_left _ (by omega)
        have h4 : S.g.se.toNat * (S.g.sb.toNat + ay S.g.fl.toNat) = S.g.se.toNat * S.g.dL := rfl
        omega
    rcases Jk (t := S.g.fl.toNat) h1 with h | h <;> rw [h] <;> decide
  cases hp : S.pages (b, p) with
  | some xs =>
    obtain ⟨ys, rfl, hy⟩ := ht xs hp
    obtain ⟨ks, k1, k2, k3, k4, k5⟩ := Dt hw
    unfold jP
    rw [k5 ys hp]
    exact key ys ks hy k2
  | none =>
    have hb : S.reads b p = turn (List.replicate S.g.raw.toNat 255) ((S.wrong (b, p)).getD []) := by
      unfold reads
      rw [hp]
      rfl
    unfold jP fU
    have h0 : ∀ i ∈ (S.wrong (b, p)).getD [], 0 ≤ i ∧ i < (8 * S.g.dL : Nat) := fun i hi => by
      cases hwr : S.wrong (b, p) with
      | none => rw [hwr] at hi; cases hi
      | some w => rw [hwr] at hi; exact (hw w hwr).2.1 i hi
    rw [hb, pG _ _ (fun i hi => (h0 i hi).1)]
    refine key _ _ ?_ (fun k hk => ?_)
    · unfold eU
      rw [List.map_replicate, Du hg, Int.toNat_natCast]
      simp [List.getD, List.getElem?_replicate]
    · obtain ⟨x, hx, rfl⟩ := List.mem_map.1 hk
      have := h0 x hx
      omega
theorem FI {S : ak} {b p : Int} (hg : S.g.aF) (ht : S.q8 (b, p)) (hw : S.Ll (b, p)) : (S.bB b p).err ≠ 0 := by
  have h1 := xI hg ht hw
  unfold jP at h1
  unfold bB
  split
  · rename_i h; exact h
  · show ((cO _ _ _ _).err : Int) ≠ 0
    unfold cO
    rw [if_pos h1]
    show ((dN _ _ _ _ : Nat) : Int) ≠ 0
    omega
end ak
namespace ak
variable {S : ak} {b : Int} {h : Hd} {d : List Nat}
def qI (S : ak) (h : Hd) : Nat := (S.g.aW h.len).toNat
structure Holds (S : ak) (b : Int) (h : Hd) (d : List Nat) : Prop where
  may : h.may S.g = true
  len : h.len = (d.length : Nat)
  small : Small 256 d
  page : ∀ p, p ≤ S.qI h → S.pages (b, (p : Int)) = some (bq (cK S.g (lZ S.g h d p)))
structure Part (S : ak) (b : Int) (h : Hd) : Prop where
  may : h.may S.g = true
  page : S.pages (b, 0) = some (bq (cK S.g (iU S.g h)))
  PD : ∃ p : Nat, p ≤ S.qI h ∧ S.q8 (b, (p : Int))
theorem oQ : ∀ k, S.gP b k = true ↔ ∀ j : Nat, j < k → S.jP b (j : Int) = 0
  | 0 => by simp [gP]
  | k + 1 => by
    rw [gP, Bool.and_eq_true, oQ k, decide_eq_true_eq]
    constructor
    · rintro ⟨h1, h2⟩ j hj
      rcases Nat.lt_or_ge j k with h | h
      · exact h1 j h
      · rw [show j = k by omega]; exact h2
    · intro h
      exact ⟨fun j hj => h j (by omega), h k (by omega)⟩
theorem FZ (hg : S.g.aF) (hm : h.may S.g = true) : (S.qI h : Int) = S.g.aW h.len ∧ (S.qI h : Int) ≤ S.g.pg - 1 ∧ h.len ≤ (S.qI h : Int) * S.g.room ∧ 0 ≤ h.len := by
  have hmb := hm
  unfold Hd.may at hmb
  simp only [Bool.and_eq_true, decide_eq_true_eq] at hmb
  have hf := hmb.1.1.1.1
  have h1 := Geo.Au hg hf
  unfold Geo.fits at hf
  simp only [Bool.and_eq_true, decide_eq_true_eq] at hf
  unfold qI
  rw [Int.toNat_of_nonneg h1.1]
  exact ⟨rfl, h1.2.1, h1.2.2.1, hf.1⟩
theorem CF (hg : S.g.aF) : S.room = S.g.room.toNat := by
  unfold room
  rw [Geo.yg hg]; rfl
theorem Ak (hg : S.g.aF) (hu : S.up = true) (hb : 0 ≤ b ∧ b < S.g.bl) (hm : S.marked b = false) (CX : h.may S.g = true) : S.jg b (1 + S.g.aW h.len) = (S.gP b (1 + S.qI h), 0) := by
  have h1 := FZ hg CX
  have hgb := hg
  unfold Geo.aF at hgb
  have e1 : (decide ((0 : Int) ≤ 1 + S.g.aW h.len) && decide (1 + S.g.aW h.len ≤ S.g.pg)) = true := by rw [decide_eq_true (by omega), decide_eq_true (by omega)]; rfl
  have e2 : S.ahead b 0 true = 0 := oJ hu ⟨hb.1, hb.2, by omega, by omega⟩ hm
  unfold jg
  rw [e1, e2, if_neg (by decide), if_neg (fun h => h rfl)]
  rw [show (1 + S.g.aW h.len).toNat = 1 + S.qI h by omega]
theorem Jc (hg : S.g.aF) (hf : ∀ p : Nat, S.Ll (b, (p : Int))) (ht : S.q8 (b, 0)) : S.gJ b = none := by
  have h1 := FI hg ht (hf 0)
  unfold gJ
  rw [if_pos h1]
section
variable (hg : S.g.aF) (hu : S.up = true) (hb : 0 ≤ b ∧ b < S.g.bl) (hm : S.marked b = false) (hf : ∀ p : Nat, S.Ll (b, (p : Int)))
include hg hu hb hm hf
theorem He (hH : S.Holds b h d) {p : Nat} (hp : p ≤ S.qI h) : ∃ N : Nat, (S.wrong (b, (p : Int)) = none → N = 0) ∧ S.bB b p = ⟨0, lZ S.g h d p, N⟩ ∧ S.jP b p = 0 := by
  have h1 := FZ hg hH.may
  exact Ai hg hu ⟨hb.1, hb.2, by omega, by omega⟩ hm (rY hH.small p) (by rw [oN hg, CF hg]) (hH.page p hp) (hf p)
theorem scan_holds (hH : S.Holds b h d) : S.gJ b = some ⟨b, h, true⟩ := by
  obtain ⟨N, _, h2, _⟩ := He hg hu hb hm hf hH (p := 0) (Nat.zero_le _)
  have h2' : S.bB b 0 = ⟨0, iU S.g h, N⟩ := h2
  unfold gJ
  rw [h2', if_neg (fun h => h rfl)]
  dsimp only
  rw [vK hH.may hg]
  dsimp only
  rw [Ak hg hu hb hm hH.may]
  have : S.gP b (1 + S.qI h) = true := (oQ _).2 fun j hj => by
    obtain ⟨_, _, _, h3⟩ := He hg hu hb hm hf hH (p := j) (by omega)
    exact h3
  rw [this]
theorem IB (hP : S.Part b h) : S.gJ b = some ⟨b, h, false⟩ := by
  have hgb := hg
  unfold Geo.aF at hgb
  obtain ⟨N, _, h2, _⟩ := Ai hg hu ⟨hb.1, hb.2, Int.le_refl _, by omega⟩ hm (oV S.g h) (by rw [jV hg, CF hg]) hP.page (hf 0)
  unfold gJ
  rw [h2, if_neg (fun h => h rfl)]
  dsimp only
  rw [vK hP.may hg]
  dsimp only
  rw [Ak hg hu hb hm hP.may]
  have : S.gP b (1 + S.qI h) = false := by
    rw [← Bool.not_eq_true]
    intro hw
    obtain ⟨p, hp, ht⟩ := hP.PD
    exact xI hg ht (hf p) ((oQ _).1 hw p (by omega))
  rw [this]
end
end ak
theorem ND : (72 : Int) ≠ 70 := by decide
theorem qW : (70 : Int) ≠ 72 := by decide
theorem wB : (0 : Int) ≠ 72 := by decide
theorem DV : (0 : Int) ≠ 70 := by decide
namespace ak
structure Rest (b : Int) (S S' : ak) : Prop where
  g : S'.g = S.g
  len : S'.next.length = S.next.length
  pages : ∀ k : Int × Int, k.1 ≠ b → S'.pages k = S.pages k
  wrong : ∀ k : Int × Int, k.1 ≠ b → S'.wrong k = S.wrong k
  marked : ∀ c, c ≠ b → S'.marked c = S.marked c
  weak : S'.weak = S.weak
theorem Rest.refl (b : Int) (S : ak) : Rest b S S := ⟨rfl, rfl, fun _ _ => rfl, fun _ _ => rfl, fun _ _ => rfl, rfl⟩
theorem Rest.trans {b : Int} {S T U : ak} (h : Rest b S T) (h' : Rest b T U) : Rest b S U :=
  ⟨h'.g.trans h.g, h'.len.trans h.len, fun k hk => (h'.pages k hk).trans (h.pages k hk), fun k hk => (h'.wrong k hk).trans (h.wrong k hk), fun c hc => (h'.marked c hc).trans (h.marked c hc), h'.weak.trans h.weak⟩
def mk1 (S : ak) (b : Int) : ak := { S with marked := fun k => if k = b then true else S.marked k }
theorem xD {S : ak} (hc : S.cut = false) : S.deed.up = S.up := by unfold deed; rw [hc]; cases S.up <;> rfl
theorem qE {S : ak} (hc : S.cut = true) : S.deed.up = false := by unfold deed; rw [hc]; cases S.up <;> rfl
theorem uG {S : ak} (h : S.left = 0) : S.cut = false := by unfold cut; rw [h]; rfl
theorem Kr {S : ak} {b : Int} (hu : S.up = true) (hb : 0 ≤ b ∧ b < S.g.bl) :
    (S.cut = false ∧ done b (S, 72) = (S.deed.mk1 b, 72)) ∨ (S.cut = true ∧ (done b (S, 72) = (S.deed.mk1 b, 70) ∨ done b (S, 72) = (S.deed, 70))) := by
  have e1 : S.mark b = S.all fun T => { T with marked := fun k => if k = b then true else T.marked k } := by
    unfold mark
    rw [if_neg (by rw [hu]; decide), if_neg (by rw [uy hb]; decide)]
  have e2 : done b (S, 72) = if (S.mark b).2 ≠ 0 then S.mark b else ((S.mark b).1, 72) := by
    unfold done
    rw [if_neg (fun h => h rfl)]
  rw [e2, e1]
  unfold all after
  cases hc : S.cut with
  | false => exact .inl ⟨rfl, rfl⟩
  | true =>
    refine .inr ⟨rfl, ?_⟩
    by_cases hk : 0 < S.keep
    · rw [decide_eq_true hk]; exact .inl rfl
    · rw [decide_eq_false hk]; exact .inr rfl
section
variable {S : ak} {b : Int}
theorem Rest.deed (S : ak) (b : Int) : Rest b S S.deed := ⟨rfl, rfl, fun _ _ => rfl, fun _ _ => rfl, fun _ _ => rfl, rfl⟩
theorem Rest.mk1 (S : ak) (b : Int) : Rest b S (S.mk1 b) := ⟨rfl, rfl, fun _ _ => rfl, fun _ _ => rfl, fun c hc => if_neg hc, rfl⟩
theorem y9 : (S.mk1 b).marked b = true := if_pos rfl
def Fails (b : Int) (S : ak) (X : ak × Int) : Prop :=
  (X.2 = 72 ∧ X.1.up = true ∧ X.1.marked b = true) ∨ (X.2 = 70 ∧ X.1.up = false ∧ (X.1.marked b = true ∨ X.1.marked b = S.marked b ∧ X.1.pages = S.pages ∧ X.1.wrong = S.wrong))
theorem ED (hu : S.up = true) (hc : S.cut = false) (hb : 0 ≤ b ∧ b < S.g.bl) : Rest b S (done b (S.deed, 72)).1 ∧ Fails b S (done b (S.deed, 72)) ∧ (S.left = 0 → (done b (S.deed, 72)).1.left = 0 ∧ (done b (S.deed, 72)).2 ≠ 70) := by
  have hu1 : S.deed.up = true := by rw [xD hc]; exact hu
  rcases Kr (S := S.deed) hu1 hb with ⟨c1, e1⟩ | ⟨c1, e1 | e1⟩
  · rw [e1]
    refine ⟨(Rest.deed S b).trans ((Rest.deed _ b).trans (Rest.mk1 _ b)), .inl ⟨rfl, by show S.deed.deed.up = true; rw [xD c1]; exact hu1, y9⟩, fun h0 => ⟨?_, ND⟩⟩
    show S.deed.deed.left = 0
    rw [kD h0, kD h0]; exact h0
  · rw [e1]
    refine ⟨(Rest.deed S b).trans ((Rest.deed _ b).trans (Rest.mk1 _ b)), .inr ⟨rfl, by show S.deed.deed.up = false; exact qE c1, .inl y9⟩, fun h0 => ?_⟩
    rw [kD h0, uG h0] at c1; cases c1
  · rw [e1]
    refine ⟨(Rest.deed S b).trans (Rest.deed _ b), .inr ⟨rfl, by show S.deed.deed.up = false; exact qE c1, .inr ⟨rfl, rfl, rfl⟩⟩, fun h0 => ?_⟩
    rw [kD h0, uG h0] at c1; cases c1
theorem F4 (hu : S.up = true) (hb : 0 ≤ b ∧ b < S.g.bl) (hpg : 0 < S.g.pg) (hm : S.marked b = false) (hn : (S.next.length : Int) = S.g.bl) : Rest b S (S.bD b).1 ∧ (S.left = 0 → (S.bD b).1.left = 0 ∧ (S.bD b).2 ≠ 70) ∧ (S.weak b = false → (S.bD b).2 ≠ 72) ∧
    (((S.bD b).2 = 0 ∧ (S.bD b).1.up = true ∧ (S.bD b).1.marked b = false ∧ (S.bD b).1.iV b = 0 ∧ ∀ p, 0 ≤ p → p < S.g.pg → (S.bD b).1.pages (b, p) = none ∧ (S.bD b).1.wrong (b, p) = none) ∨
     Fails b S (S.bD b) ∨
     ((S.bD b).2 = 70 ∧ (S.bD b).1.up = false ∧ (S.bD b).1.marked b = false ∧ (∃ n, (S.bD b).1.pages = aO S.pages b n ∧ (S.bD b).1.wrong = aO S.wrong b n))) := by
  have e0 : S.bD b = done b (S.erase b) := by
    unfold bD
    rw [if_neg (by rw [oJ hu ⟨hb.1, hb.2, Int.le_refl _, hpg⟩ hm]; decide)]
  have hdr : ∀ {α : Type} (f : Int × Int → Option α) (n : Int) (k : Int × Int), k.1 ≠ b → aO f b n k = f k := fun f n k hk => if_neg fun h => hk h.1
  cases hc : S.cut with
  | true =>
    have e1 : S.erase b = ({ S.deed with pages := aO S.pages b (S.kept S.g.pg), wrong := aO S.wrong b (S.kept S.g.pg) }, 70) := by
      unfold erase
      rw [if_neg (by rw [hu]; decide), if_neg (by rw [uy hb]; decide), hc]; rfl
    have e2 : S.bD b = S.erase b := by
      rw [e0]; unfold done; rw [if_pos (by rw [e1]; first | exact qW | exact wB)]
    rw [e2, e1]
    refine ⟨⟨rfl, rfl, fun k hk => hdr _ _ k hk, fun k hk => hdr _ _ k hk, fun _ _ => rfl, rfl⟩, fun h0 => ?_, fun _ => qW, .inr (.inr ⟨rfl, qE hc, hm, _, rfl, rfl⟩)⟩
    rw [uG h0] at hc; cases hc
  | false =>
    cases hw : S.weak b with
    | true =>
      have e1 : S.erase b = (S.deed, 72) := by
        unfold erase
        rw [if_neg (by rw [hu]; decide), if_neg (by rw [uy hb]; decide), hc, if_neg Bool.false_ne_true, hw, if_pos rfl]
      rw [e0, e1]
      obtain ⟨h1, h2, h3⟩ := ED hu hc hb
      exact ⟨h1, h3, fun h => (by cases h), .inr (.inl h2)⟩
    | false =>
      have e1 : S.erase b = ({ S.deed with pages := aO S.pages b S.g.pg, wrong := aO S.wrong b S.g.pg, next := S.gQ b 0 }, 0) := by
        unfold erase
        rw [if_neg (by rw [hu]; decide), if_neg (by rw [uy hb]; decide), hc, if_neg Bool.false_ne_true, hw, if_neg Bool.false_ne_true]; rfl
      have e2 : S.bD b = S.erase b := by
        rw [e0]; unfold done; rw [if_pos (by rw [e1]; first | exact qW | exact wB)]
      rw [e2, e1]
      refine ⟨⟨rfl, by show (S.next.set _ _).length = _; rw [List.length_set], fun k hk => hdr _ _ k hk, fun k hk => hdr _ _ k hk, fun _ _ => rfl, rfl⟩, fun h0 => ⟨?_, DV⟩, fun _ => wB, .inl ⟨rfl, by show S.deed.up = true; rw [xD hc]; exact hu, hm, ?_, fun p h1 h2 => ⟨if_pos ⟨rfl, h1, h2⟩, if_pos ⟨rfl, h1, h2⟩⟩⟩⟩
      · show S.deed.left = 0
        rw [kD h0]; exact h0
      · show (S.next.set b.toNat 0).getD b.toNat 0 = 0
        simp only [List.getD, List.getElem?_set_self (show b.toNat < S.next.length by omega), Option.getD_some]
theorem FW {p : Int} {d : List Nat} (hg : S.g.aF) (hu : S.up = true) (h : 0 ≤ b ∧ b < S.g.bl ∧ 0 ≤ p ∧ p < S.g.pg) (hm : S.marked b = false) (h8 : Small 256 d) (hl : d.length = S.room) (hn : S.iV b = p) (hln : (S.next.length : Int) = S.g.bl) :
    Rest b S (S.bM b p d).1 ∧ (S.left = 0 → (S.bM b p d).1.left = 0 ∧ (S.bM b p d).2 ≠ 70) ∧ (S.weak b = false → (S.bM b p d).2 ≠ 72) ∧
    (((S.bM b p d).2 = 0 ∧ (S.bM b p d).1.up = true ∧ (S.bM b p d).1.marked b = false ∧ (S.bM b p d).1.iV b = p + 1 ∧ (S.bM b p d).1.wrong = S.wrong ∧ (S.bM b p d).1.pages = sU S.pages (b, p) (some (bq (cK S.g d)))) ∨
     Fails b S (S.bM b p d) ∨
     ((S.bM b p d).2 = 70 ∧ (S.bM b p d).1.up = false ∧ (S.bM b p d).1.marked b = false ∧ (S.bM b p d).1.wrong = S.wrong ∧ ∃ xs, (S.bM b p d).1.pages = sU S.pages (b, p) (some xs) ∧
       (xs = bq (cK S.g d) ∨ ∃ ys, xs = bq ys ∧ ys.getD (S.g.se.toNat * S.g.dL) 0 = 255))) := by
  have e0 : S.bM b p d = done b (S.program b p (bq (cK S.g d))) := EP hu h hm hl
  have hpl := JV hg h8 hl
  have hup : ∀ {α : Type} (f : Int × Int → Option α) (v : Option α) (k : Int × Int), k.1 ≠ b → sU f (b, p) v k = f k := fun f v k hk => if_neg fun e => hk (by rw [e])
  cases hc : S.cut with
  | true =>
    have e1 : S.program b p (bq (cK S.g d)) = ({ S.deed with pages := sU S.pages (b, p) (some ((bq (cK S.g d)).take (S.kept (bq (cK S.g d)).length).toNat ++ S.blank.drop (S.kept (bq (cK S.g d)).length).toNat)), next := S.gQ b (p + 1) }, 70) := by
      unfold program
      rw [if_neg (by rw [hu]; decide), if_neg (by rw [BQ h]; rintro (h | h); cases h; exact h hpl), if_neg (fun h => h hn.symm), hc]; rfl
    have e2 : S.bM b p d = S.program b p (bq (cK S.g d)) := by
      rw [e0]; unfold done; rw [if_pos (by rw [e1]; first | exact qW | exact wB)]
    rw [e2, e1]
    refine ⟨⟨rfl, by show (S.next.set _ _).length = _; rw [List.length_set], fun k hk => hup _ _ k hk, fun k hk => rfl, fun _ _ => rfl, rfl⟩, fun h0 => ?_, fun _ => qW, .inr (.inr ⟨rfl, qE hc, hm, rfl, _, rfl, ?_⟩)⟩
    · rw [uG h0] at hc; cases hc
    · obtain ⟨k, hk⟩ : ∃ k, k = (S.kept (bq (cK S.g d)).length).toNat := ⟨_, rfl⟩
      rw [← hk]
      have hkl : k ≤ (bq (cK S.g d)).length := by rw [hk]; unfold kept; omega
      have hbl : S.blank = bq (List.replicate S.g.raw.toNat 255) := by unfold blank bq raw; rw [List.map_replicate]; rfl
      have hrw := Du hg
      have hraw : (bq (cK S.g d)).length = S.g.se.toNat * S.g.dL + 1 := by
        have h1 : ((bq (cK S.g d)).length : Int) = S.g.raw := hpl
        omega
      by_cases hke : k = (bq (cK S.g d)).length
      · refine .inl ?_
        rw [hke, List.take_of_length_le (Nat.le_refl _), hbl, List.drop_eq_nil_of_le, List.append_nil]
        unfold bq
        rw [List.length_map, List.length_replicate]
        unfold bq at hraw
        rw [hraw, hrw, Int.toNat_natCast]; exact Nat.le_refl _
      · refine .inr ⟨(cK S.g d).take k ++ (List.replicate S.g.raw.toNat 255).drop k, ?_, ?_⟩
        · rw [hbl]
          unfold bq
          rw [List.map_append, List.map_take, List.map_drop]
        · have hpk : (cK S.g d).length = S.g.se.toNat * S.g.dL + 1 := by unfold bq at hraw; rw [List.length_map] at hraw; exact hraw
          have Rc : k < S.g.se.toNat * S.g.dL + 1 := by
            unfold bq at hkl hke
            rw [List.length_map] at hkl hke
            omega
          simp only [List.getD]
          rw [List.getElem?_append_right (by rw [List.length_take]; omega), List.length_take, List.getElem?_drop, hrw, Int.toNat_natCast, List.getElem?_replicate, if_pos (by omega)]
          rfl
  | false =>
    cases hw : S.weak b with
    | true =>
      have e1 : S.program b p (bq (cK S.g d)) = (S.deed, 72) := by
        unfold program
        rw [if_neg (by rw [hu]; decide), if_neg (by rw [BQ h]; rintro (h | h); cases h; exact h hpl), if_neg (fun h => h hn.symm), hc, if_neg Bool.false_ne_true, hw, if_pos rfl]
      rw [e0, e1]
      obtain ⟨h1, h2, h3⟩ := ED hu hc ⟨h.1, h.2.1⟩
      exact ⟨h1, h3, fun h => (by cases h), .inr (.inl h2)⟩
    | false =>
      have e1 : S.program b p (bq (cK S.g d)) = ({ S.deed with pages := sU S.pages (b, p) (some (bq (cK S.g d))), next := S.gQ b (p + 1) }, 0) := by
        unfold program
        rw [if_neg (by rw [hu]; decide), if_neg (by rw [BQ h]; rintro (h | h); cases h; exact h hpl), if_neg (fun h => h hn.symm), hc, if_neg Bool.false_ne_true, hw, if_neg Bool.false_ne_true]; rfl
      have e2 : S.bM b p d = S.program b p (bq (cK S.g d)) := by
        rw [e0]; unfold done; rw [if_pos (by rw [e1]; first | exact qW | exact wB)]
      rw [e2, e1]
      refine ⟨⟨rfl, by show (S.next.set _ _).length = _; rw [List.length_set], fun k hk => hup _ _ k hk, fun k hk => rfl, fun _ _ => rfl, rfl⟩, fun h0 => ⟨?_, DV⟩, fun _ => wB, .inl ⟨rfl, by show S.deed.up = true; rw [xD hc]; exact hu, hm, ?_, rfl, rfl⟩⟩
      · show S.deed.left = 0
        rw [kD h0]; exact h0
      · show (S.next.set b.toNat (p + 1)).getD b.toNat 0 = p + 1
        simp only [List.getD, List.getElem?_set_self (show b.toNat < S.next.length by omega), Option.getD_some]
end
end ak
namespace ak
def Wr (S S' : ak) : Prop := ∀ k, S'.wrong k = none ∨ S'.wrong k = S.wrong k
theorem Wr.refl (S : ak) : Wr S S := fun _ => .inr rfl
theorem Wr.of {S S' : ak} (h : S'.wrong = S.wrong) : Wr S S' := fun k => .inr (by rw [h])
theorem Wr.trans {S T U : ak} (h : Wr S T) (h' : Wr T U) : Wr S U := fun k => by
  rcases h' k with e | e
  · exact .inl e
  · rw [e]; exact h k
theorem Wr.few {S S' : ak} (h : Wr S S') (hg : S'.g = S.g) (hf : ∀ k, S.Ll k) : ∀ k, S'.Ll k := fun k w hw => by
  rcases h k with e | e
  · rw [e] at hw; cases hw
  · rw [e] at hw
    have := hf k w hw
    rw [hg]; exact this
theorem Wr.none {S S' : ak} (h : Wr S S') (hf : ∀ k, S.wrong k = none) : ∀ k, S'.wrong k = none := fun k => by
  rcases h k with e | e
  · exact e
  · rw [e]; exact hf k
theorem Wr.drop {S S' : ak} {b n : Int} (h : S'.wrong = aO S.wrong b n) : Wr S S' := fun k => by
  rw [h]; unfold aO
  split
  · exact .inl rfl
  · exact .inr rfl
def Same (b : Int) (S S' : ak) : Prop := S'.pages = S.pages ∧ S'.wrong = S.wrong
def NU (S : ak) (b : Int) (pg : Nat → List Nat) (N j : Nat) : Prop := j ≤ N + 1 ∧ (∀ p : Nat, p < j → S.pages (b, (p : Int)) = some (bq (cK S.g (pg p)))) ∧ (j ≤ N → S.q8 (b, (j : Int)))
theorem uJ {S : ak} {k : Int × Int} (h : S.pages k = none) : S.q8 k := fun xs hx => by rw [h] at hx; cases hx
theorem EJ {S : ak} {b : Int} : Wr S (S.bD b).1 := by
  have e1 : ∀ x : ak × Int, Wr S x.1 → Wr S (done b x).1 := fun x hx => by
    have hm : (x.1.mark b).1.wrong = x.1.wrong := by
      unfold mark
      split
      · rfl
      · split
        · rfl
        · unfold all
          dsimp only
          split <;> rfl
    unfold done
    split
    · exact hx
    · split
      · exact hx.trans (Wr.of hm)
      · exact hx.trans (Wr.of hm)
  unfold bD
  split
  · exact Wr.refl S
  · refine e1 _ ?_
    unfold erase
    split
    · exact Wr.refl S
    · split
      · exact Wr.refl S
      · dsimp only
        split
        · exact Wr.drop rfl
        · split
          · exact Wr.refl S
          · exact Wr.drop rfl
theorem Jt {S : ak} {b p : Int} {d : List Nat} : Wr S (S.bM b p d).1 := by
  have hm : ∀ T : ak, (T.mark b).1.wrong = T.wrong := fun T => by
    unfold mark
    split
    · rfl
    · split
      · rfl
      · unfold all
        dsimp only
        split <;> rfl
  have e1 : ∀ x : ak × Int, Wr S x.1 → Wr S (done b x).1 := fun x hx => by
    unfold done
    split
    · exact hx
    · split
      · exact hx.trans (Wr.of (hm _))
      · exact hx.trans (Wr.of (hm _))
  unfold bM
  split
  · exact Wr.refl S
  · refine e1 _ (Wr.of ?_)
    unfold program
    split
    · rfl
    · split
      · rfl
      · split
        · rfl
        · dsimp only
          split
          · rfl
          · split <;> rfl
section
variable {S : ak} {b : Int}
theorem KI {pg : Nat → List Nat} (hg : S.g.aF) (hu : S.up = true) (hb : 0 ≤ b ∧ b < S.g.bl) (hm : S.marked b = false) (h8 : ∀ p, Small 256 (pg p)) (hl : ∀ p, (pg p).length = S.room) (hn : S.iV b = 0) (hln : (S.next.length : Int) = S.g.bl)
    {N : Nat} (hN : (N : Int) < S.g.pg) (h0 : ∀ p, 0 ≤ p → p < S.g.pg → S.pages (b, p) = none) : ∀ k, k ≤ N + 1 → Rest b S (dK S b pg k).1 ∧ Wr S (dK S b pg k).1 ∧ (S.left = 0 → (dK S b pg k).1.left = 0 ∧ (dK S b pg k).2 ≠ 70) ∧ (S.weak b = false → (dK S b pg k).2 ≠ 72) ∧
    (((dK S b pg k).2 = 0 ∧ (dK S b pg k).1.up = true ∧ (dK S b pg k).1.marked b = false ∧ (dK S b pg k).1.iV b = (k : Int) ∧ (∀ p : Nat, p < k → (dK S b pg k).1.pages (b, (p : Int)) = some (bq (cK S.g (pg p)))) ∧ (∀ p : Int, (k : Int) ≤ p → p < S.g.pg → (dK S b pg k).1.pages (b, p) = none)) ∨
     ((dK S b pg k).2 = 72 ∧ (dK S b pg k).1.up = true ∧ (dK S b pg k).1.marked b = true) ∨
     ((dK S b pg k).2 = 70 ∧ (dK S b pg k).1.up = false ∧ ((dK S b pg k).1.marked b = true ∨ (dK S b pg k).1.marked b = false ∧ ∃ j, (dK S b pg k).1.NU b pg N j)))
  | 0, _ => ⟨Rest.refl b S, Wr.refl S, fun h => ⟨h, DV⟩, fun _ => wB, .inl ⟨rfl, hu, hm, hn, fun p hp => absurd hp (Nat.not_lt_zero _), fun p h1 h2 => h0 p h1 h2⟩⟩
  | k + 1, hk => by
    obtain ⟨r1, r2, r3, r4, r5⟩ := KI hg hu hb hm h8 hl hn hln hN h0 k (by omega)
    by_cases he : (dK S b pg k).2 = 0
    · obtain ⟨Y, hY⟩ : ∃ Y, Y = (dK S b pg k).1 := ⟨_, rfl⟩
      have est : dK S b pg (k + 1) = Y.bM b k (pg k) := by rw [dK, if_neg (fun h => h he), ← hY]
      rw [← hY] at r1 r2 r3 r5
      have q5 : Y.up = true ∧ Y.marked b = false ∧ Y.iV b = (k : Int) ∧ (∀ p : Nat, p < k → Y.pages (b, (p : Int)) = some (bq (cK S.g (pg p)))) ∧ (∀ p : Int, (k : Int) ≤ p → p < S.g.pg → Y.pages (b, p) = none) := by
        rcases r5 with h | h | h
        · exact h.2
        · rw [he] at h; exact absurd h.1.symm (by decide)
        · rw [he] at h; exact absurd h.1.symm (by decide)
      obtain ⟨u1, u2, u3, u4, u5⟩ := q5
      have hroom : (pg k).length = Y.room := by rw [hl]; unfold room; rw [r1.g]
      obtain ⟨w1, w2, w3, w4⟩ := FW (S := Y) (b := b) (p := (k : Int)) (d := pg k) (by rw [r1.g]; exact hg) u1 (by rw [r1.g]; omega) u2 (h8 k) hroom u3 (by rw [r1.len, r1.g]; exact hln)
      rw [est]
      have hpk : cK Y.g (pg k) = cK S.g (pg k) := by rw [r1.g]
      have ho : ∀ (f : Int × Int → Option (List Int)) (v : Option (List Int)) (p : Int), p ≠ k → sU f (b, (k : Int)) v (b, p) = f (b, p) := fun f v p hp => if_neg fun e => hp (by injection e)
      have hh : ∀ (f : Int × Int → Option (List Int)) (v : Option (List Int)), sU f (b, (k : Int)) v (b, (k : Int)) = v := fun f v => if_pos rfl
      refine ⟨r1.trans w1, r2.trans Jt, fun h => w2 (r3 h).1, fun h => w3 (by rw [r1.weak]; exact h), ?_⟩
      rcases w4 with ⟨a1, a2, a3, a4, _, a6⟩ | (⟨a1, a2, a3⟩ | ⟨a1, a2, a3⟩) | ⟨a1, a2, a3, _, xs, a5, a6⟩
      · refine .inl ⟨a1, a2, a3, by rw [a4]; omega, fun p hp => ?_, fun p h1 h2 => ?_⟩
        · rw [a6]
          by_cases Nn : p = k
          · subst Nn; first | rw [hh, hpk] | rw [hh]
          · rw [ho _ _ _ (by omega)]; exact u4 p (by omega)
        · rw [a6, ho _ _ _ (by omega)]; exact u5 p (by omega) h2
      · exact .inr (.inl ⟨a1, a2, a3⟩)
      · refine .inr (.inr ⟨a1, a2, ?_⟩)
        rcases a3 with a3 | ⟨a3, a4, _⟩
        · exact .inl a3
        · refine .inr ⟨by rw [a3]; exact u2, k, by omega, fun p hp => ?_, fun _ => uJ ?_⟩
          · rw [a4, w1.g, r1.g]; exact u4 p hp
          · rw [a4]; exact u5 _ (Int.le_refl _) (by omega)
      · refine .inr (.inr ⟨a1, a2, .inr ⟨a3, ?_⟩⟩)
        rcases a6 with rfl | ⟨ys, rfl, hy⟩
        · refine ⟨k + 1, by omega, fun p hp => ?_, fun hkN => uJ ?_⟩
          · rw [a5, w1.g, r1.g]
            by_cases Nn : p = k
            · subst Nn; first | rw [hh, hpk] | rw [hh]
            · rw [ho _ _ _ (by omega)]; exact u4 p (by omega)
          · rw [a5, ho _ _ _ (by omega)]; exact u5 _ (by omega) (by omega)
        · refine ⟨k, by omega, fun p hp => ?_, fun _ xs hx => ?_⟩
          · rw [a5, w1.g, r1.g, ho _ _ _ (by omega)]; exact u4 p hp
          · rw [a5, hh] at hx
            injection hx with hx
            exact ⟨ys, hx.symm, by rw [w1.g]; exact hy⟩
    · have est : dK S b pg (k + 1) = dK S b pg k := by rw [dK, if_pos he]
      rw [est]
      refine ⟨r1, r2, r3, r4, ?_⟩
      rcases r5 with h | h | h
      · exact absurd h.1 he
      · exact .inr (.inl h)
      · exact .inr (.inr h)
theorem Jm {h : Hd} {d : List Nat} (CX : h.may S.g = true) (hl : h.len = (d.length : Nat)) (h8 : Small 256 d) {j : Nat} (hj : S.NU b (lZ S.g h d) (S.qI h) j) : S.q8 (b, 0) ∨ S.Part b h ∨ S.Holds b h d := by
  obtain ⟨h1, h2, h3⟩ := hj
  rcases Nat.eq_zero_or_pos j with rfl | h0
  · exact .inl (h3 (Nat.zero_le _))
  · by_cases hN : j ≤ S.qI h
    · exact .inr (.inl ⟨CX, h2 0 h0, j, hN, h3 hN⟩)
    · exact .inr (.inr ⟨CX, hl, h8, fun p hp => h2 p (by omega)⟩)
theorem FV {num aI : Int} {d : List Nat} (hg : S.g.aF) (hu : S.up = true) (hb : 0 ≤ b ∧ b < S.g.bl) (hm : S.marked b = false) (hln : (S.next.length : Int) = S.g.bl) (h8 : Small 256 d) (CX : Hd.may S.g ⟨aI, (d.length : Nat), num⟩ = true) :
    Rest b S (bL S num b aI d).1 ∧ Wr S (bL S num b aI d).1 ∧ (S.left = 0 → (bL S num b aI d).1.left = 0 ∧ (bL S num b aI d).2 ≠ 70) ∧ (S.weak b = false → (bL S num b aI d).2 ≠ 72) ∧
    (((bL S num b aI d).2 = 0 ∧ (bL S num b aI d).1.up = true ∧ (bL S num b aI d).1.marked b = false ∧ (bL S num b aI d).1.Holds b ⟨aI, (d.length : Nat), num⟩ d) ∨
     ((bL S num b aI d).2 = 72 ∧ (bL S num b aI d).1.up = true ∧ (bL S num b aI d).1.marked b = true) ∨
     ((bL S num b aI d).2 = 70 ∧ (bL S num b aI d).1.up = false ∧ ((bL S num b aI d).1.marked b = true ∨ (bL S num b aI d).1.marked b = false ∧
       (Same b S (bL S num b aI d).1 ∨ (bL S num b aI d).1.q8 (b, 0) ∨ (bL S num b aI d).1.Part b ⟨aI, (d.length : Nat), num⟩ ∨ (bL S num b aI d).1.Holds b ⟨aI, (d.length : Nat), num⟩ d)))) := by
  have hgb := hg
  unfold Geo.aF at hgb
  obtain ⟨e1, e2, e3, e4⟩ := F4 hu hb (by omega) hm hln
  obtain ⟨h, hh⟩ : ∃ h : Hd, h = ⟨aI, (d.length : Nat), num⟩ := ⟨_, rfl⟩
  rw [← hh] at CX ⊢
  have hpb := FZ hg CX
  by_cases he : (S.bD b).2 = 0
  · obtain ⟨T, hT⟩ : ∃ T, T = (S.bD b).1 := ⟨_, rfl⟩
    have est : bL S num b aI d = dK T b (lZ S.g h d) (S.qI h + 1) := by
      unfold bL
      rw [if_neg (fun h => h he), ← hT, ← hh]
      unfold qI
      rw [hh]
    have hwr := EJ (S := S) (b := b)
    rw [← hT] at e1 e2 e4 hwr
    have q4 : T.up = true ∧ T.marked b = false ∧ T.iV b = 0 ∧ ∀ p, 0 ≤ p → p < S.g.pg → T.pages (b, p) = none ∧ T.wrong (b, p) = none := by
      rcases e4 with h | (h | h) | h
      · exact h.2
      · rw [he] at h; exact absurd h.1.symm (by decide)
      · rw [he] at h; exact absurd h.1.symm (by decide)
      · rw [he] at h; exact absurd h.1.symm (by decide)
    obtain ⟨u1, u2, u3, u4⟩ := q4
    obtain ⟨w1, w2, w3, w4, w5⟩ := KI (S := T) (b := b) (pg := lZ S.g h d) (by rw [e1.g]; exact hg) u1 (by rw [e1.g]; exact hb) u2 (fun p => rY h8 p) (fun p => by rw [oN hg]; unfold room; rw [e1.g]; exact (CF hg).symm) u3 (by rw [e1.len, e1.g]; exact hln)
      (N := S.qI h) (by rw [e1.g]; omega) (fun p h1 h2 => (u4 p h1 (by rw [← e1.g]; exact h2)).1) (S.qI h + 1) (Nat.le_refl _)
    rw [est]
    have hgg : (dK T b (lZ S.g h d) (S.qI h + 1)).1.g = S.g := (w1.g).trans e1.g
    have hst : ∀ j, (dK T b (lZ S.g h d) (S.qI h + 1)).1.NU b (lZ S.g h d) (S.qI h) j → (dK T b (lZ S.g h d) (S.qI h + 1)).1.q8 (b, 0) ∨ (dK T b (lZ S.g h d) (S.qI h + 1)).1.Part b h ∨ (dK T b (lZ S.g h d) (S.qI h + 1)).1.Holds b h d := fun j hj => by
      refine Jm (by rw [hgg]; exact CX) (by rw [hh]) h8 (j := j) ?_
      have hp2 : (dK T b (lZ S.g h d) (S.qI h + 1)).1.qI h = S.qI h := by
        show ((dK T b (lZ S.g h d) (S.qI h + 1)).1.g.aW h.len).toNat = (S.g.aW h.len).toNat
        rw [hgg]
      rw [hp2, hgg]
      exact hj
    refine ⟨e1.trans w1, hwr.trans w2, fun h0 => w3 (e2 h0).1, fun hw => w4 (by rw [e1.weak]; exact hw), ?_⟩
    rcases w5 with ⟨a1, a2, a3, a4, a5, a6⟩ | a | ⟨a1, a2, a3⟩
    · refine .inl ⟨a1, a2, a3, ⟨by rw [hgg]; exact CX, by rw [hh], h8, fun p hp => ?_⟩⟩
      have hp2 : (dK T b (lZ S.g h d) (S.qI h + 1)).1.qI h = S.qI h := by
        show ((dK T b (lZ S.g h d) (S.qI h + 1)).1.g.aW h.len).toNat = (S.g.aW h.len).toNat
        rw [hgg]
      rw [hp2] at hp
      rw [a5 p (by omega), hgg, e1.g]
    · exact .inr (.inl a)
    · refine .inr (.inr ⟨a1, a2, ?_⟩)
      rcases a3 with a3 | ⟨a3, j, hj⟩
      · exact .inl a3
      · exact .inr ⟨a3, .inr (hst j hj)⟩
  · have est : bL S num b aI d = S.bD b := by unfold bL; rw [if_pos he]
    rw [est]
    refine ⟨e1, EJ, e2, e3, ?_⟩
    rcases e4 with h | (h | ⟨a1, a2, a3⟩) | ⟨a1, a2, a3, n, a4, a5⟩
    · exact absurd h.1 he
    · exact .inr (.inl h)
    · refine .inr (.inr ⟨a1, a2, ?_⟩)
      rcases a3 with a3 | ⟨a3, a4, a5⟩
      · exact .inl a3
      · exact .inr ⟨by rw [a3]; exact hm, .inl ⟨a4, a5⟩⟩
    · refine .inr (.inr ⟨a1, a2, .inr ⟨a3, ?_⟩⟩)
      by_cases hn : 0 < n
      · exact .inr (.inl (uJ (by rw [a4]; exact if_pos ⟨rfl, Int.le_refl _, hn⟩)))
      · have hd : ∀ (f : Int × Int → Option (List Int)), aO f b n = f := fun f => by
          funext k
          unfold aO
          rw [if_neg (fun h => by omega)]
        exact .inl ⟨by rw [a4, hd], by rw [a5, hd]⟩
end
end ak
end Go.Proofs.YtcedojacbhnbiaaGreat
