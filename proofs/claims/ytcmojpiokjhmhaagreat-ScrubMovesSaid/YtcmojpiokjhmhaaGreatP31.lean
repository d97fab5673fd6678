import Derived.Test.YtcmojpiokjhmhaaGreatP29
import Derived.Test.YtcmojpiokjhmhaaGreatP30
import Derived.Test.YtcmojpiokjhmhaaGreatP28
namespace Go.Proofs.YtcmojpiokjhmhaaGreat
open Go.Sl Go.RowKit
set_option linter.unusedVariables false
set_option linter.unusedSimpArgs false
set_option maxRecDepth 20000
def G8 (S : ah) (T : St) (j : Nat) : Nat := (bN S T (j : Int)).1.n
def lZ (S : ah) (T : St) (limit : Int) (k : Nat) : List Nat := (List.range k).filter fun j => decide (limit ≤ (G8 S T j : Int))
abbrev cK (l : List Nat) : List Int := l.map fun j : Nat => (j : Int)
theorem ah.l7.refl (S : ah) (b : Int) : ah.l7 S S b := ⟨rfl, rfl, rfl, fun _ => rfl, fun _ => rfl⟩
theorem ah.l7.trans {S T U : ah} {b : Int} (h : ah.l7 S T b) (h' : ah.l7 T U b) : ah.l7 S U b :=
  ⟨h'.g.trans h.g, h'.up.trans h.up, h'.marked.trans h.marked, fun p => (h'.pages p).trans (h.pages p), fun p => (h'.wrong p).trans (h.wrong p)⟩
section
variable {aj n : Nat} {S : ah} {T : St} {m : Lm} {D : Nat → List Nat} {limit : Int}
theorem bS.ready (h : bS aj n S T m) {i : Nat} (hi : i < aj) : T.ready (i : Int) = 0 := by
  obtain ⟨st, hI⟩ := h.si
  exact hI.ready hi
theorem bS.len (h : bS aj n S T m) : T.stands.length = aj := by
  obtain ⟨st, hI⟩ := h.si
  exact hI.len
theorem bS.at' (h : bS aj n S T m) (i : Nat) : T.at' (i : Int) = T.stands.getD i 0 := by
  obtain ⟨st, hI⟩ := h.si
  exact hI.at' i
theorem bS.long (h : bS aj n S T m) (hn : n ≤ 100000) : ∀ l ∈ T.stale, l.length ≤ 110000 := fun l hl => by
  obtain ⟨st, hI⟩ := h.si
  exact Nat.le_trans (hI.long l hl) (by omega)
theorem bS.rd (h : bS aj n S T m) (hF : ∀ i, i < aj → m i = some (D i)) {i : Nat} (hi : i < aj) : bN S T (i : Int) = (⟨0, D i, G8 S T i⟩, T) := by
  obtain ⟨⟨N, h1⟩, _⟩ := h.read hi (hF i hi)
  unfold G8
  rw [h1]
theorem bS.Qa (h : bS aj n S T m) (hF : ∀ i, i < aj → m i = some (D i)) : ∀ k, k ≤ aj → rY S T limit k = (T, cK (lZ S T limit k), false)
  | 0, _ => rfl
  | k + 1, hk => by
    have ih := bS.Qa h hF k (by omega)
    have hr := h.rd hF (show k < aj by omega)
    rw [rY, ih, if_neg Bool.false_ne_true]
    dsimp only
    rw [hr, if_neg (show ¬ (0 : Int) = 70 by decide)]
    dsimp only
    congr 2
    unfold lZ cK
    rw [List.range_succ, List.filter_append, List.map_append]
    by_cases hl : limit ≤ (G8 S T k : Int)
    · rw [if_pos ⟨rfl, hl⟩, List.filter_cons_of_pos (by rw [decide_eq_true hl])]; rfl
    · rw [if_neg (fun hh => hl hh.2), List.filter_cons_of_neg (by rw [decide_eq_false hl]; decide)]
      rw [List.filter_nil, List.map_nil, List.append_nil]
theorem bS.gX (h : bS aj n S T m) (hF : ∀ i, i < aj → m i = some (D i)) (hl : 1 ≤ limit) : gX S T limit = (T, cK (lZ S T limit aj), 0) := by
  unfold Go.Proofs.YtcmojpiokjhmhaaGreat.gX
  rw [if_neg (by omega), h.len, h.Qa hF aj (Nat.le_refl _)]
  rfl
theorem bS.Nv (h : bS aj n S T m) (hF : ∀ i, i < aj → m i = some (D i)) (hl : 1 ≤ limit) (h1 : 0 < aj) : (Go.Proofs.YtcmojpiokjhmhaaGreat.gX S.off T limit).2 = ([], 70) := by
  obtain ⟨st, hI⟩ := h.si
  have hat : 0 ≤ T.at' ((0 : Nat) : Int) := (hI.CG h.up h1 (hF 0 h1)).2
  have hr : bN S.off T ((0 : Nat) : Int) = (⟨70, [], 0⟩, T.told 70) := by
    have hd : (S.off.aY (T.at' ((0 : Nat) : Int)) 0).err = 70 := by
      have ha : S.off.ahead (T.at' ((0 : Nat) : Int)) 0 true = 70 := by unfold ah.ahead; exact if_pos rfl
      unfold ah.aY
      rw [ha, if_pos (by decide)]
    unfold bN
    rw [h.ready h1, if_neg (fun h => h rfl), if_neg (by omega), hd, if_pos (by decide)]
  have hw1 : rY S.off T limit 1 = (T.told 70, [], true) := by
    have e : rY S.off T limit 1 = if (bN S.off T ((0 : Nat) : Int)).1.err = 70 then ((bN S.off T ((0 : Nat) : Int)).2, [], true) else ((bN S.off T ((0 : Nat) : Int)).2, if (bN S.off T ((0 : Nat) : Int)).1.err = 0 ∧ limit ≤ ((bN S.off T ((0 : Nat) : Int)).1.n : Int) then [] ++ [((0 : Nat) : Int)] else [], false) := rfl
    rw [e, hr, if_pos rfl]
  have hw2 : rY S.off T limit aj = (T.told 70, [], true) := by
    have := vV (S := S.off) (T := T) (limit := limit) (k := 1) (by rw [hw1]) (aj - 1)
    rw [show 1 + (aj - 1) = aj by omega] at this
    rw [this, hw1]
  unfold Go.Proofs.YtcmojpiokjhmhaaGreat.gX
  rw [if_neg (by omega), h.len, hw2, if_pos rfl]
theorem bS.K7 (h : bS aj n S T m) (hF : ∀ i, i < aj → m i = some (D i)) (hn : n ≤ 100000) (hc : S.g.cap ≤ 1000000) {i : Nat} (hi : i < aj) : qH S T (i : Int) := fun _ => by
  rw [h.rd hF hi]
  obtain ⟨_, _, h8, hl⟩ := h.read hi (hF i hi)
  exact ⟨h8, by show (D i).length ≤ _; omega, fun l hl => Nat.le_trans (h.long hn l hl) (by decide)⟩
theorem bS.move (h : bS aj n S T m) (hF : ∀ i, i < aj → m i = some (D i)) {i : Nat} (hi : i < aj) : kE S T (i : Int) = aK S T (i : Int) (D i) := by
  unfold kE
  rw [h.rd hF hi, if_neg (fun hh => hh rfl)]
theorem bS.opened (h : bS aj n S T m) {S' : ah} (hE : ah.sj S S') (hu : S'.up = true) (hw : S'.weak = S.weak) (hr : S'.wrong = S.wrong) : bS aj n S' (gY S' aj) m := by
  obtain ⟨st, hI⟩ := h.si
  have hnx := h.next
  have hN : ah.wQ S st T.next := fun b h1 h2 h3 hd w d hs => hI.num b h1 h2 h3 hd w d hs
  have h4 := hI.cm.eqv hE
  have hon := ah.jX h4.ci hu (hN.eqv hE) hI.next aj
  exact ⟨⟨st, (ah.nX h4 hu).wider (by omega)⟩, hu, fun c => by rw [hw]; exact h.weak c, fun c => by rw [hE.marked]; exact h.un c, fun c p hp => by rw [hr]; exact h.inp c p (by rw [← hE.g]; exact hp), by omega, by rw [hE.g]; exact h.bl⟩
theorem bS.turn (h : bS aj n S T m) {S' : ah} (hE : ah.sj S S') (hu : S'.up = true) (hw : S'.weak = S.weak) (hr : ∀ b p, (p < 0 ∨ S.g.pg ≤ p) → S'.wrong (b, p) = none) : bS aj n S' T m := by
  obtain ⟨st, hI⟩ := h.si
  exact ⟨⟨st, hI.eqv hE⟩, hu, fun c => by rw [hw]; exact h.weak c, fun c => by rw [hE.marked]; exact h.un c, fun c p hp => hr c p (by rw [← hE.g]; exact hp), h.next, by rw [hE.g]; exact h.bl⟩
theorem bS.all (h : bS aj n S T m) (hF : ∀ i, i < aj → m i = some (D i)) (hn : n + aj ≤ 100000) (h0 : S.left = 0) {ls : List Nat} (hls : ∀ i ∈ ls, i < aj) (hll : ls.length ≤ aj) : ∀ k, k ≤ ls.length →
    (bW (cK ls) S T k).2.2 = 0 ∧ (bW (cK ls) S T k).1.left = 0 ∧ (bW (cK ls) S T k).1.g = S.g ∧ bS aj (n + k) (bW (cK ls) S T k).1 (bW (cK ls) S T k).2.1 m ∧
      ∀ j, j < aj → (j ∈ ls.take k → ∀ p, (bW (cK ls) S T k).1.wrong ((bW (cK ls) S T k).2.1.stands.getD j 0, p) = none) ∧
        (j ∉ ls.take k → (bW (cK ls) S T k).2.1.stands.getD j 0 = T.stands.getD j 0 ∧ ah.l7 S (bW (cK ls) S T k).1 (T.stands.getD j 0))
  | 0, _ => ⟨rfl, h0, rfl, h, fun j hj => ⟨fun hm => by simp at hm, fun _ => ⟨rfl, ah.l7.refl _ _⟩⟩⟩
  | k + 1, hk => by
    obtain ⟨e1, e2, e3, e4, e5⟩ := bS.all h hF hn h0 hls hll k (by omega)
    obtain ⟨i0, hi0⟩ : ∃ i0, ls[k]? = some i0 := ⟨_, List.getElem?_eq_getElem (by omega)⟩
    have yL := hls i0 (List.mem_of_getElem? hi0)
    have hgd : (cK ls).getD k 0 = (i0 : Int) := by simp [cK, List.getD, hi0]
    obtain ⟨Q, hQ⟩ : ∃ Q, Q = bW (cK ls) S T k := ⟨_, rfl⟩
    have hst : bW (cK ls) S T (k + 1) = aK Q.1 Q.2.1 (i0 : Int) (D i0) := by
      rw [bW, if_neg (fun h => h e1), hgd, e4.move hF yL, hQ]
    rw [← hQ] at e1 e2 e3 e4 e5
    rw [hst]
    obtain ⟨_, _, h8, hl⟩ := e4.read yL (hF i0 yL)
    obtain ⟨c1, c2, c3⟩ := e4.change (by omega) yL h8 hl
    obtain ⟨c4, c5⟩ := c2 e2
    rcases c3 with ⟨_, q2, q3, q4⟩ | ⟨q1, _⟩
    · rw [Lm.vo (hF i0 yL)] at q2
      refine ⟨c5, c4, c1.trans e3, q2, fun j hj => ?_⟩
      rw [List.take_add_one, hi0]
      by_cases hji : j = i0
      · subst hji
        exact ⟨fun _ => q3, fun hh => absurd (List.mem_append_right _ (.head _)) hh⟩
      · obtain ⟨q5, q6⟩ := q4 j hj hji
        obtain ⟨k1, k2⟩ := e5 j hj
        refine ⟨fun hm p => ?_, fun hm => ?_⟩
        · rcases List.mem_append.1 hm with hm | hm
          · rw [q5, q6.wrong]; exact k1 hm p
          · simp at hm; exact absurd hm hji
        · obtain ⟨k3, k4⟩ := k2 (fun hh => hm (List.mem_append_left _ hh))
          exact ⟨q5.trans k3, k4.trans (by rw [← k3]; exact q6)⟩
    · rw [c5] at q1; exact absurd q1 (by decide)
theorem bS.Jy (h : bS aj n S T m) (hF : ∀ i, i < aj → m i = some (D i)) (hn : n + aj ≤ 100000) (h0 : S.left = 0) (hl : 1 ≤ limit) {ls : List Nat} (hls : ls = lZ S T limit aj) :
    (bW (cK ls) S T ls.length).2.2 = 0 ∧ (bW (cK ls) S T ls.length).1.left = 0 ∧ bS aj (n + aj) (bW (cK ls) S T ls.length).1 (bW (cK ls) S T ls.length).2.1 m ∧ lZ (bW (cK ls) S T ls.length).1 (bW (cK ls) S T ls.length).2.1 limit aj = [] := by
  have hlm : ∀ i, i ∈ ls ↔ i < aj ∧ limit ≤ (G8 S T i : Int) := fun i => by
    rw [hls]; unfold lZ
    rw [List.mem_filter, List.mem_range, decide_eq_true_eq]
  have hll : ls.length ≤ aj := by
    rw [hls]; unfold lZ
    exact Nat.le_trans (List.length_filter_le _ _) (by rw [List.length_range]; exact Nat.le_refl _)
  obtain ⟨e1, e2, _, e4, e5⟩ := h.all hF hn h0 (fun i hi => ((hlm i).1 hi).1) hll ls.length (Nat.le_refl _)
  refine ⟨e1, e2, e4.wider (by omega), ?_⟩
  rw [List.eq_nil_iff_forall_not_mem]
  intro j hj
  unfold lZ at hj
  rw [List.mem_filter, List.mem_range, decide_eq_true_eq] at hj
  obtain ⟨hj1, hj2⟩ := hj
  obtain ⟨k1, k2⟩ := e5 j hj1
  rw [List.take_length] at k1 k2
  by_cases hm : j ∈ ls
  · have := (e4.read hj1 (hF j hj1)).2.1 (k1 hm)
    unfold G8 at hj2
    rw [this] at hj2
    have : limit ≤ 0 := hj2
    omega
  · obtain ⟨k3, k4⟩ := k2 hm
    have hr := h.rd hF hj1
    have hs := GV (T' := (bW (cK ls) S T ls.length).2.1) (by rw [h.at']; exact k4) (h.ready hj1) (e4.ready hj1) (by rw [e4.at', h.at']; exact k3) hr
    have hn1 : G8 (bW (cK ls) S T ls.length).1 (bW (cK ls) S T ls.length).2.1 j = G8 S T j := by
      conv => lhs; unfold G8
      rw [hs]
    rw [hn1] at hj2
    exact hm ((hlm j).2 ⟨hj1, hj2⟩)
theorem bS.Mj (h : bS aj n S T m) (hF : ∀ i, i < aj → m i = some (D i)) (hn : n + aj ≤ 100000) {ls : List Nat} (hls : ∀ i ∈ ls, i < aj) (hll : ls.length ≤ aj) : ∀ k, k ≤ ls.length →
    ((bW (cK ls) S T k).2.2 = 0 ∧ (bW (cK ls) S T k).1.g = S.g ∧ bS aj (n + k) (bW (cK ls) S T k).1 (bW (cK ls) S T k).2.1 m) ∨
    ((bW (cK ls) S T k).2.2 = 70 ∧ ∀ S', ah.sj (bW (cK ls) S T k).1 S' → S'.up = true → S'.weak = (bW (cK ls) S T k).1.weak → S'.wrong = (bW (cK ls) S T k).1.wrong → bS aj (n + aj) S' (gY S' aj) m)
  | 0, _ => .inl ⟨rfl, rfl, h⟩
  | k + 1, hk => by
    rcases bS.Mj h hF hn hls hll k (by omega) with ⟨e1, e3, e4⟩ | ⟨e1, e2⟩
    · obtain ⟨i0, hi0⟩ : ∃ i0, ls[k]? = some i0 := ⟨_, List.getElem?_eq_getElem (by omega)⟩
      have yL := hls i0 (List.mem_of_getElem? hi0)
      have hgd : (cK ls).getD k 0 = (i0 : Int) := by simp [cK, List.getD, hi0]
      obtain ⟨Q, hQ⟩ : ∃ Q, Q = bW (cK ls) S T k := ⟨_, rfl⟩
      have hst : bW (cK ls) S T (k + 1) = aK Q.1 Q.2.1 (i0 : Int) (D i0) := by
        rw [bW, if_neg (fun h => h e1), hgd, e4.move hF yL, hQ]
      rw [← hQ] at e1 e3 e4
      rw [hst]
      obtain ⟨_, _, h8, hl⟩ := e4.read yL (hF i0 yL)
      obtain ⟨c1, c2, c3⟩ := e4.change (by omega) yL h8 hl
      rcases c3 with ⟨q1, q2, _, _⟩ | ⟨q1, q2⟩
      · rw [Lm.vo (hF i0 yL)] at q2
        exact .inl ⟨q1, c1.trans e3, q2⟩
      · refine .inr ⟨q1, fun S' k1 k2 k3 k4 => ?_⟩
        obtain ⟨mm, hmm, hH⟩ := q2 S' k1 k2 k3 k4
        have : mm = m := by
          rcases hmm with h | h
          · exact h
          · rw [h, Lm.vo (hF i0 yL)]
        rw [this] at hH
        exact hH.wider (by omega)
    · have hs : bW (cK ls) S T (k + 1) = bW (cK ls) S T k := by rw [bW, if_pos (by rw [e1]; decide)]
      rw [hs]
      exact .inr ⟨e1, e2⟩
theorem bS.new {g : Geo} (hg : g.aD) {aj : Nat} (h1 : (aj : Int) < g.bl) (h2 : g.bl ≤ 20) : bS aj 0 (ah.new g []) (gY (ah.new g []) aj) (fun _ => none) :=
  ⟨⟨_, ah.nX (ah.CM.new hg aj aj) rfl⟩, rfl, fun _ => rfl, fun _ => rfl, fun _ _ _ => rfl, by rw [BZ hg]; exact Int.le_refl _, h1, h2⟩
theorem bS.flip (h : bS aj n S T m) (b p : Int) {ps : List Int} (hps : ∀ x ∈ ps, 0 ≤ x ∧ x < (8 * S.g.dG : Nat)) (hl : ps.length ≤ S.g.fl.toNat) : bS aj n (S.flip b p ps) T m := by
  refine h.turn (ah.sj.flip S b p hps hl) ?_ ?_ (fun b' p' hp' => ?_)
  · unfold ah.flip; split <;> exact h.up
  · unfold ah.flip; split <;> rfl
  · unfold ah.flip
    split
    · rename_i hpg
      show ah.mR S.wrong (b, p) _ (b', p') = none
      unfold ah.mR
      split
      · rename_i e
        injection e with e1 e2
        unfold ah.page at hpg
        simp only [Bool.and_eq_true, decide_eq_true_eq] at hpg
        omega
      · exact h.inp b' p' hp'
    · exact h.inp b' p' hp'
end
section
variable {K : World} {F : List ak} {M : Mw}
end
def jq (g : Geo) (from' : Int) (k : Nat) : List Int := (List.range k).map fun (i : Nat) => ((max from' 0) % (8 * g.sb + 13 * g.fl) + (i : Int)) % (8 * g.sb + 13 * g.fl)
theorem Dc (g : Geo) (f : Int) (k : Nat) : jq g f (k + 1) = jq g f k ++ [((max f 0) % (8 * g.sb + 13 * g.fl) + (k : Int)) % (8 * g.sb + 13 * g.fl)] := by
  unfold jq
  rw [List.range_succ, List.map_append]; rfl
theorem pW (g : Geo) (f : Int) (k : Nat) : (jq g f k).length = k := by unfold jq; rw [List.length_map, List.length_range]
theorem GK {g : Geo} (hg : g.aD) {f : Int} {k : Nat} : ∀ x ∈ jq g f k, 0 ≤ x ∧ x < (8 * g.dG : Nat) := fun x hx => by
  have hgb := hg
  unfold Geo.aD at hgb
  obtain ⟨i, _, rfl⟩ := List.mem_map.1 hx
  have h1 := Int.emod_nonneg ((max f 0) % (8 * g.sb + 13 * g.fl) + (i : Int)) (show 8 * g.sb + 13 * g.fl ≠ 0 by omega)
  have h2 := Int.emod_lt_of_pos ((max f 0) % (8 * g.sb + 13 * g.fl) + (i : Int)) (show 0 < 8 * g.sb + 13 * g.fl by omega)
  have h3 : 8 * g.sb + 13 * g.fl ≤ (8 * g.dG : Nat) := by
    unfold Geo.dG ay
    omega
  exact ⟨h1, by omega⟩
section
variable {K : World} {F : List ak}
end
def o7 (ss : List ByteArray) (i : Nat) : List Nat := dU (bytesOf (ss.getD i ByteArray.empty))
def su (ss : List ByteArray) (i : Nat) : Lm := fun k => if k < i then some (o7 ss k) else none
theorem Ji (ss : List ByteArray) (i : Nat) : (su ss i).put i (some (o7 ss i)) = su ss (i + 1) := by
  funext k
  unfold Lm.put su
  by_cases h : k = i
  · subst h; rw [if_pos rfl, if_pos (by omega)]
  · rw [if_neg h]
    by_cases hk : k < i
    · rw [if_pos hk, if_pos (by omega)]
    · rw [if_neg hk, if_neg (by omega)]
theorem Gs (ss : List ByteArray) (i : Nat) : Small 256 (o7 ss i) := vO (mM _)
theorem Gb (ss : List ByteArray) (i : Nat) : (o7 ss i).length = (ss.getD i ByteArray.empty).size := by unfold o7; rw [mX, bytesOf_length]
theorem K5 (ss : List ByteArray) (i : Nat) : strOfNums (aZ (o7 ss i)) = ss.getD i ByteArray.empty := by
  have : aZ (o7 ss i) = bytesOf (ss.getD i ByteArray.empty) := by
    unfold o7 aZ dU
    rw [List.map_map]
    conv => rhs; rw [← List.map_id (bytesOf _)]
    apply List.map_congr_left
    intro x hx
    have := mM _ x hx
    show ((x.toNat : Nat) : Int) = x
    omega
  rw [this, Bw]
structure BN (aj L B : Nat) (N : Int) (S : ah) (T : St) (m : Lm) : Prop where
  si : ∃ st, ah.SI aj L B S st T m
  up : S.up = true
  left : S.left = 0
  weak : ∀ b, S.weak b = false
  un : ∀ b, S.marked b = false
  wrong : ∀ k, S.wrong k = none
  next : T.next ≤ N
theorem BN.mono {aj L B : Nat} {N N' : Int} {S : ah} {T : St} {m : Lm} (h : BN aj L B N S T m) (hn : N ≤ N') : BN aj L B N' S T m := ⟨h.si, h.up, h.left, h.weak, h.un, h.wrong, by have := h.next; omega⟩
theorem BN.change {aj L B : Nat} {N : Int} {S : ah} {T : St} {m : Lm} (h : BN aj L B N S T m) (hbl : (aj : Int) < S.g.bl) (h20 : S.g.bl ≤ 20) (hN : N ≤ 1000000) {i0 : Nat} (hi0 : i0 < aj) (hL : i0 < L) (h64 : i0 < 64) {d : List Nat} (h8 : Small 256 d) (hd : (d.length : Int) ≤ S.g.cap) :
    (aK S T (i0 : Int) d).2.2 = 0 ∧ (aK S T (i0 : Int) d).1.g = S.g ∧ BN aj L (B + 1) (N + 21) (aK S T (i0 : Int) d).1 (aK S T (i0 : Int) d).2.1 (m.put i0 (some d)) := by
  obtain ⟨st, hI⟩ := h.si
  have hnx := h.next
  obtain ⟨r1, r2, r3, r4, r5, r6, r7⟩ := ah.xu hI h.up hi0 hL h64 h8 hd (by omega)
  rcases r7 with ⟨_, _, _, q4⟩ | ⟨q1, q2, q3⟩ | ⟨q1, _, _⟩
  · exfalso
    have h1 := ah.Aa hI q4
    have h2 : ((List.range S.g.bl.toNat).filter fun (b : Nat) => !S.marked (b : Int) && !S.weak (b : Int)).length = S.g.bl.toNat := by
      rw [List.filter_eq_self.2 (fun b _ => by rw [h.un, h.weak]; rfl), List.length_range]
    have h3 := List.length_filter_le (fun i => (m i).isSome) (List.range aj)
    rw [List.length_range] at h3
    omega
  · refine ⟨q1, r1, q3, q2, (r4 h.left).1, fun b => by rw [r2]; exact h.weak b, fun b => ?_, r3.none h.wrong, by omega⟩
    cases hm : (aK S T (i0 : Int) d).1.marked b with
    | false => rfl
    | true =>
      rcases r6 (by rw [q1]; exact oU) b hm with h1 | h1
      · rw [h.un] at h1; cases h1
      · rw [h.weak] at h1; cases h1
  · exact absurd q1 (r4 h.left).2
theorem BN.opened {aj L B : Nat} {N : Int} {S : ah} {T : St} {m : Lm} (h : BN aj L B N S T m) (Vd : L = aj) {k : Nat} {m' : Lm} (hm : ∀ i, m' i = if i < aj then m i else none) : ∃ st, ah.SI k L 256 S st (gY S k) m' := by
  obtain ⟨st, hI⟩ := h.si
  have hc := hI.cm
  refine ⟨st, ah.nX ⟨hc.ci, hc.low, hc.uniq, fun i _ hi b h d hl => ?_, fun i _ v hi => ?_⟩ h.up⟩
  · rw [hm] at hi
    by_cases hil : i < aj
    · rw [if_pos hil] at hi; exact hc.none_ i hil hi b h d hl
    · have := hc.low b h d hl; omega
  · rw [hm] at hi
    by_cases hil : i < aj
    · rw [if_pos hil] at hi; exact hc.some_ i hil v hi
    · rw [if_neg hil] at hi; cases hi
theorem BN.new {g : Geo} (hg : g.aD) (aj : Nat) : BN aj aj 256 1 (ah.new g []) (gY (ah.new g []) aj) (fun _ => none) :=
  ⟨⟨_, ah.nX (ah.CM.new hg aj aj) rfl⟩, rfl, rfl, fun _ => rfl, fun _ => rfl, fun _ => rfl, by rw [BZ hg]; exact Int.le_refl _⟩
end Go.Proofs.YtcmojpiokjhmhaaGreat
