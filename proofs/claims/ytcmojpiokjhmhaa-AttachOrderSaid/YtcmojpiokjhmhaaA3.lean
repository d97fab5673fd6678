/- slices.SortStableFunc at []api.Found, of any length. -/
import Derived.Test.YtcmojpiokjhmhaaA2
import Derived.Test.YtcmojpiokjhmhaaT4
namespace Go.Proofs.Ytcmojpiokjhmhaa
open Go.Sl Go.RowKit
set_option linter.unusedVariables false
set_option linter.unusedSimpArgs false
set_option maxRecDepth 20000

section
variable {c : Fd → Fd → Int}
/-! Blocks of B that are sorted -/
theorem blk_keep {zs ws : List Fd} {a b x y : Nat} (h : Rg a b zs ws) (hs : Srt c zs x y) (hd : y ≤ a ∨ b ≤ x) : Srt c ws x y := hs.of fun i h1 h2 => h.out i (by omega)
theorem blk_succ {zs ws : List Fd} {B t : Nat} (h : ∀ q, q < t → Srt c zs (q * B) (q * B + B)) (hr : Rg (t * B) (t * B + B) zs ws) (hs : Srt c ws (t * B) (t * B + B)) : ∀ q, q < t + 1 → Srt c ws (q * B) (q * B + B) := fun q hq => by
  by_cases e : q = t
  · rw [e]; exact hs
  · have h1 : (q + 1) * B ≤ t * B := Nat.mul_le_mul_right _ (by omega)
    rw [Nat.succ_mul] at h1
    exact blk_keep hr (h q (by omega)) (.inl h1)
/-- All blocks. -/
def Blk (c : Fd → Fd → Int) (zs : List Fd) (B L : Nat) : Prop := ∀ q, Srt c zs (q * B) (min (q * B + B) L)
theorem blk_all {zs ws : List Fd} {B t L : Nat} (h : ∀ q, q < t → Srt c zs (q * B) (q * B + B)) (hr : Rg (t * B) L zs ws) (hs : Srt c ws (t * B) L) (htl : t * B ≤ L) (hL : L < t * B + B) : Blk c ws B L := fun q => by
  by_cases h1 : q < t
  · have h2 : (q + 1) * B ≤ t * B := Nat.mul_le_mul_right _ (by omega)
    rw [Nat.succ_mul] at h2
    exact (blk_keep hr (h q h1) (.inl h2)).sub (Nat.le_refl _) (Nat.min_le_left _ _)
  · by_cases h2 : q = t
    · rw [h2]; exact hs.sub (Nat.le_refl _) (Nat.min_le_right _ _)
    · have h3 : (t + 1) * B ≤ q * B := Nat.mul_le_mul_right _ (by omega)
      rw [Nat.succ_mul] at h3
      exact fun x y k1 k2 k3 => by omega
/-- In the midst of a round of merging. -/
structure Mid (c : Fd → Fd → Int) (B L t : Nat) (zs : List Fd) : Prop where
  done : ∀ q, q < t → Srt c zs (q * (2 * B)) (q * (2 * B) + 2 * B)
  rest : ∀ q, t * (2 * B) ≤ q * B → Srt c zs (q * B) (min (q * B + B) L)
theorem Mid.zero {B L : Nat} {zs : List Fd} (h : Blk c zs B L) : Mid c B L 0 zs := ⟨fun q hq => absurd hq (Nat.not_lt_zero _), fun q _ => h q⟩
theorem two_mul_ (t B : Nat) : (2 * t) * B = t * (2 * B) := by rw [Nat.mul_comm 2 t, Nat.mul_assoc]
theorem Mid.fst {B L t : Nat} {zs : List Fd} (h : Mid c B L t zs) : Srt c zs (t * (2 * B)) (min (t * (2 * B) + B) L) := by
  have := h.rest (2 * t) (by rw [two_mul_]; exact Nat.le_refl _)
  rwa [two_mul_] at this
theorem Mid.snd {B L t : Nat} {zs : List Fd} (h : Mid c B L t zs) : Srt c zs (t * (2 * B) + B) (min (t * (2 * B) + B + B) L) := by
  have e : (2 * t + 1) * B = t * (2 * B) + B := by rw [Nat.succ_mul, two_mul_]
  have := h.rest (2 * t + 1) (by rw [e]; omega)
  rwa [e] at this
theorem Mid.succ {B L t : Nat} {zs ws : List Fd} (h : Mid c B L t zs) (hr : Rg (t * (2 * B)) (t * (2 * B) + 2 * B) zs ws) (hs : Srt c ws (t * (2 * B)) (t * (2 * B) + 2 * B)) : Mid c B L (t + 1) ws :=
  ⟨blk_succ h.done hr hs, fun q hq => by
    rw [Nat.succ_mul] at hq
    exact blk_keep hr (h.rest q (by omega)) (.inr hq)⟩
theorem Mid.all {B L t : Nat} {zs ws : List Fd} (h : Mid c B L t zs) (hr : Rg (t * (2 * B)) L zs ws) (hs : Srt c ws (t * (2 * B)) L) (htl : t * (2 * B) ≤ L) (hL : L < t * (2 * B) + 2 * B) : Blk c ws (2 * B) L := blk_all h.done hr hs htl hL
end
section
variable {K : World} {F : List Assn} {f g L cap : Nat} {c : Fd → Fd → Int} {r : List Value}
theorem insertion_part (hf : CmpIs f c) (hc : Ord3 c) {ys : List Fd} {a b : Nat} {ai bi : Int} (ea : ai = (a : Int)) (eb : bi = (b : Int)) (hl : ys.length = L) (hL : L ≤ 1000000) (hab : a ≤ b) (hb : b ≤ L) :
    Does Try.prog 19 #[.slice (some ⟨g, 0, none⟩) L cap, .int .i64 ai, .int .i64 bi, .func (.func f) #[] #[]] K (Cells g 26 (flatF ys ++ r) :: F) (fun v H' => ∃ zs, Rg a b ys zs ∧ Srt c zs a b ∧ H' = Cells g 26 (flatF zs ++ r) :: F) := by
  subst ea eb
  refine Does.enter Try.func19 rfl Try.ntmps19 rfl ?_
  simp only [env0, Nat.reduceAdd]
  refine WC.sr ?_
  refine WL.mv rfl rfl ?_
  refine WL.ad rfl rfl rfl ?_
  refine WL.sg rfl rfl ?_
  refine WL.nil ?_
  refine WC.block ?_
  refine WC.loop (σ := Nat × List Fd) (fun s => [(0, .slice (some ⟨g, 0, none⟩) L cap), (1, .int .i64 (a : Int)), (2, .int .i64 (b : Int)), (3, .func (.func f) #[] #[]), (8, .int .i64 (s.1 : Int))]) (fun s => Cells g 26 (flatF s.2 ++ r) :: F) (fun s => a + 1 ≤ s.1 ∧ (s.1 = a + 1 ∨ s.1 ≤ b) ∧ Rg a b ys s.2 ∧ Srt c s.2 a s.1) (fun s => b + 1 - s.1) (a + 1, ys) ⟨Nat.le_refl _, .inl rfl, Rg.refl _ _ _, Srt.one _ _ _ (Nat.le_refl _)⟩ (.cons rfl (.cons rfl (.cons rfl (.cons rfl (.cons (look_eq rfl (by simp)) (.nil _)))))) (fun w h => h) ?_
  rintro ⟨i, zs⟩ ⟨hi1, him, hR, hS⟩
  dsimp only at hi1 him hR hS ⊢
  refine WC.seq ?_
  refine WC.sr ?_
  refine WL.mv rfl rfl ?_
  refine WL.mv rfl rfl ?_
  refine WL.val (V.lss (OV.p rfl) (OV.p rfl)) rfl ?_
  refine WL.nil ?_
  refine WC.cond rfl (fun hc0 => ?_) (fun hc0 => ?_)
  ·simp only [decide_eq_true_eq, decide_eq_false_iff_not] at hc0
   have hi2 : i < b := by omega
   refine WC.skip ?_
   refine WC.seq ?_
   refine WC.block ?_
   refine WC.sr ?_
   refine WL.mv rfl rfl ?_
   refine WL.sg rfl rfl ?_
   refine WL.nil ?_
   refine WC.block ?_
   refine WC.loop (σ := Nat × List Fd) (fun s => [(0, .slice (some ⟨g, 0, none⟩) L cap), (1, .int .i64 (a : Int)), (2, .int .i64 (b : Int)), (3, .func (.func f) #[] #[]), (8, .int .i64 (i : Int)), (9, .int .i64 (s.1 : Int))]) (fun s => Cells g 26 (flatF s.2 ++ r) :: F) (fun s => a ≤ s.1 ∧ s.1 ≤ i ∧ Rg a b ys s.2 ∧ Srt1 c s.2 a (i + 1) s.1) (fun s => s.1) (i, zs) ⟨by show a ≤ i; omega, Nat.le_refl _, hR, hS.one_more⟩ (.cons rfl (.cons rfl (.cons rfl (.cons rfl (.cons rfl (.cons rfl (.nil _))))))) (fun w h => h) ?_
   rintro ⟨j, xs⟩ ⟨haj, hji, hX, hX1⟩
   dsimp only at haj hji hX hX1 ⊢
   have hxl : xs.length = L := hX.len.trans hl
   have hja : Rds K (Cells g 26 (flatF xs ++ r) :: F) g (0 + (j : Int).toNat * 5) (el xs j).cells := found_rds (by omega) (by omega)
   have hjb : a < j → Rds K (Cells g 26 (flatF xs ++ r) :: F) g (0 + ((j : Int) - 1).toNat * 5) (el xs (j - 1)).cells := fun h0 => found_rds (by omega) (by omega)
   refine WC.seq ?_
   refine WC.seq ?_
   refine WC.regionQ (by kernel_rfl) (by kernel_rfl) ?_
   refine WQ.val (V.move (OV.p rfl)) rfl ?_
   refine WQ.val (V.move (OV.p rfl)) rfl ?_
   refine WQ.val (V.gtr (OV.p rfl) (OV.p rfl)) rfl ?_
   refine WQ.val (V.move (OV.p rfl)) rfl ?_
   refine WQ.valG (oj := _) rfl rfl rfl GC.t (V.move (OV.p rfl)) rfl ?_
   refine WQ.valG (oj := _) rfl rfl rfl GC.t (V.move (OV.p rfl)) rfl ?_
   refine WQ.valG (oj := _) rfl rfl rfl GC.t (V.move (OV.p rfl)) rfl ?_
   refine WQ.valG (oj := _) rfl rfl rfl GC.t (V.idxB st22 (OV.g rfl id) (OV.g rfl id) (fun hc => by omega)) rfl ?_
   refine WQ.valG (oj := _) rfl rfl rfl GC.t (V.loadA (vs := (el xs j).cells) ⟨Try.isAgg26, Try.sizeOf26⟩ (OV.g rfl id) rfl (fun _ => hja)) rfl ?_
   refine WQ.valG (oj := _) rfl rfl rfl GC.t (V.move (OV.p rfl)) rfl ?_
   refine WQ.valG (oj := _) rfl rfl rfl GC.t (V.move (OV.p rfl)) rfl ?_
   refine WQ.valG (oj := _) rfl rfl rfl GC.t (V.subI (OV.g rfl id) (OV.p rfl) (fun hc => by first | omega | (simp at hc; omega))) rfl ?_
   refine WQ.valG (oj := _) rfl rfl rfl GC.t (V.idxB st22 (OV.g rfl id) (OV.g rfl id) (fun hc => by simp at hc; omega)) rfl ?_
   refine WQ.valG (oj := _) rfl rfl rfl GC.t (V.loadA (vs := (el xs (j - 1)).cells) ⟨Try.isAgg26, Try.sizeOf26⟩ (OV.g rfl id) rfl (fun hc => hjb (by simp at hc; omega))) rfl ?_
   refine WQ.callGV (oj := _) (first := []) (vs := [_, _]) (captured := []) rfl rfl rfl GC.t hf.1 (OV.g rfl id) ⟨OV.g rfl id, OV.g rfl id, trivial⟩ (fun _ => hf.2 _ _ (el xs j) (el xs (j - 1))) rfl ?_
   refine WQ.valG (oj := _) rfl rfl rfl GC.t (V.lss (OV.g rfl id) (OV.p rfl)) rfl ?_
   refine WQ.val (V.pickAnd (OV.p rfl) (OV.g rfl id)) rfl ?_
   refine WQ.nil ?_
   refine WC.cond rfl (fun hc1 => ?_) (fun hc1 => ?_)
   ·simp only [Bool.and_eq_true, Bool.and_eq_false_iff, decide_eq_true_eq, decide_eq_false_iff_not] at hc1
    have h1 := hc1
    have haj2 : a < j := by omega
    have hjb' := hjb haj2
    have hsw := hX1.swap hc haj2 (show j < i + 1 by omega) (by omega) h1.2
    refine WC.skip ?_
    refine WC.seq ?_
    refine WC.block ?_
    refine WC.regionA F (by kernel_rfl) ?_
    refine WA.t 0 rfl (V.move (OV.p rfl)) ?_
    refine WA.t 1 rfl (V.move (OV.p rfl)) ?_
    refine WA.t 2 rfl (V.move (OV.p rfl)) ?_
    refine WA.t 3 rfl (V.move (OV.p rfl)) ?_
    refine WA.t 4 rfl (V.subI (OV.p rfl) (OV.p rfl) (fun hc => by first | omega | (simp at hc; omega))) ?_
    refine WA.t 5 rfl (V.move (OV.p rfl)) ?_
    refine WA.t 6 rfl (V.move (OV.p rfl)) ?_
    refine WA.t 7 rfl (V.subI (OV.p rfl) (OV.p rfl) (fun hc => by first | omega | (simp at hc; omega))) ?_
    refine WA.t 8 rfl (V.idxB st22 (OV.p rfl) (OV.p rfl) (fun hc => by omega)) ?_
    refine WA.t 10 rfl (V.move (OV.p rfl)) ?_
    refine WA.t 11 rfl (V.move (OV.p rfl)) ?_
    refine WA.t 12 rfl (V.idxB st22 (OV.p rfl) (OV.p rfl) (fun hc => by omega)) ?_
    refine WA.two (i := 9) (j := 13) (fun w h => by repeat (first | exact h | replace h := h.tail)) (by kernel_rfl) rfl rfl ?_ ?_
    ·refine WL.val (V.loadA (vs := (el xs (j - 1)).cells) ⟨Try.isAgg26, Try.sizeOf26⟩ (OV.p rfl) rfl (fun _ => hjb')) rfl ?_
     refine WL.nil ?_
     refine WA.o 13 rfl ?_
     refine WL.val (V.loadA (vs := (el xs j).cells) ⟨Try.isAgg26, Try.sizeOf26⟩ (OV.p rfl) rfl (fun _ => hja)) rfl ?_
     refine WL.nil ?_
     refine WA.t 14 rfl (V.idxB st22 (OV.p rfl) (OV.p rfl) (fun hc => by omega)) ?_
     refine WA.o 15 rfl ?_
     refine WL.store (cs := (el xs (j - 1)).cells) Try.sizeOf26 (OV.p rfl) (OV.p rfl) rfl rfl rfl (flatF_upd (j := j) (y := el xs (j - 1)) (by omega) (by omega)) ?_
     refine WL.nil ?_
     refine WA.t 16 rfl (V.idxB st22 (OV.p rfl) (OV.p rfl) (fun hc => by omega)) ?_
     refine WA.o 17 rfl ?_
     refine WL.store (cs := (el xs j).cells) Try.sizeOf26 (OV.p rfl) (OV.p rfl) rfl rfl rfl (flatF_upd (j := j - 1) (y := el xs j) (by rw [List.length_set]; omega) (by omega)) ?_
     refine WL.nil ?_
     refine WA.fin ?_
     refine WC.region ?_
     refine WL.mv rfl rfl ?_
     refine WL.sb rfl rfl rfl ?_
     refine WL.sg rfl rfl ?_
     refine WL.nil ?_
     refine ⟨rfl, ?_⟩
     exact ⟨(j - 1, swp xs j (j - 1)), ⟨by show a ≤ j - 1; omega, by show j - 1 ≤ i; omega, hX.trans (swp_rg (by omega) (by omega) (by omega)), hsw⟩, (by show j - 1 < j; omega), .cons rfl (.cons rfl (.cons rfl (.cons rfl (.cons rfl (.cons (look_eq rfl (by show Value.int .i64 ((j : Int) - 1) = Value.int .i64 ((j - 1 : Nat) : Int); congr 1 <;> omega)) (.nil _)))))), fun w h => h⟩
    ·refine WL.val (V.loadA (vs := (el xs j).cells) ⟨Try.isAgg26, Try.sizeOf26⟩ (OV.p rfl) rfl (fun _ => hja)) rfl ?_
     refine WL.nil ?_
     refine WA.o 9 rfl ?_
     refine WL.val (V.loadA (vs := (el xs (j - 1)).cells) ⟨Try.isAgg26, Try.sizeOf26⟩ (OV.p rfl) rfl (fun _ => hjb')) rfl ?_
     refine WL.nil ?_
     refine WA.t 14 rfl (V.idxB st22 (OV.p rfl) (OV.p rfl) (fun hc => by omega)) ?_
     refine WA.o 15 rfl ?_
     refine WL.store (cs := (el xs (j - 1)).cells) Try.sizeOf26 (OV.p rfl) (OV.p rfl) rfl rfl rfl (flatF_upd (j := j) (y := el xs (j - 1)) (by omega) (by omega)) ?_
     refine WL.nil ?_
     refine WA.t 16 rfl (V.idxB st22 (OV.p rfl) (OV.p rfl) (fun hc => by omega)) ?_
     refine WA.o 17 rfl ?_
     refine WL.store (cs := (el xs j).cells) Try.sizeOf26 (OV.p rfl) (OV.p rfl) rfl rfl rfl (flatF_upd (j := j - 1) (y := el xs j) (by rw [List.length_set]; omega) (by omega)) ?_
     refine WL.nil ?_
     refine WA.fin ?_
     refine WC.region ?_
     refine WL.mv rfl rfl ?_
     refine WL.sb rfl rfl rfl ?_
     refine WL.sg rfl rfl ?_
     refine WL.nil ?_
     refine ⟨rfl, ?_⟩
     exact ⟨(j - 1, swp xs j (j - 1)), ⟨by show a ≤ j - 1; omega, by show j - 1 ≤ i; omega, hX.trans (swp_rg (by omega) (by omega) (by omega)), hsw⟩, (by show j - 1 < j; omega), .cons rfl (.cons rfl (.cons rfl (.cons rfl (.cons rfl (.cons (look_eq rfl (by show Value.int .i64 ((j : Int) - 1) = Value.int .i64 ((j - 1 : Nat) : Int); congr 1 <;> omega)) (.nil _)))))), fun w h => h⟩
   ·simp only [Bool.and_eq_true, Bool.and_eq_false_iff, decide_eq_true_eq, decide_eq_false_iff_not] at hc1
    have h1 := hc1
    have hdone : Srt c xs a (i + 1) := hX1.stop hc (by
      rcases h1 with h | h
      · exact .inl (by omega)
      · by_cases e : j = a
        · exact .inl e
        · exact .inr ⟨by omega, h⟩)
    refine WC.exit ?_
    refine WC.region ?_
    refine WL.mv rfl rfl ?_
    refine WL.ad rfl rfl rfl ?_
    refine WL.sg rfl rfl ?_
    refine WL.nil ?_
    refine ⟨rfl, ?_⟩
    exact ⟨(i + 1, xs), ⟨by show a + 1 ≤ i + 1; omega, .inr hi2, hX, hdone⟩, (by show b + 1 - (i + 1) < b + 1 - i; omega), .cons rfl (.cons rfl (.cons rfl (.cons rfl (.cons (look_eq rfl (by simp)) (.nil _))))), fun w h => h⟩
  ·simp only [decide_eq_true_eq, decide_eq_false_iff_not] at hc0
   refine WC.exit ?_
   exact BodyQ.normal (H' := Cells g 26 (flatF zs ++ r) :: F) (Res.none rfl) (fun w h => h) ⟨zs, hR, hS.sub (Nat.le_refl _) (by omega), rfl⟩
set_option maxHeartbeats 1000000 in
theorem stable_any (hf : CmpIs f c) (hc : Ord3 c) {ys : List Fd} (hl : ys.length = L) (hL : L ≤ 1000) :
    Does Try.prog 18 #[.slice (some ⟨g, 0, none⟩) L cap, .int .i64 (L : Int), .func (.func f) #[] #[]] K (Cells g 26 (flatF ys ++ r) :: F) (fun v H' => ∃ zs, List.Perm zs ys ∧ Srt c zs 0 L ∧ H' = Cells g 26 (flatF zs ++ r) :: F) := by
  refine Does.enter Try.func18 rfl Try.ntmps18 rfl ?_
  simp only [env0, Nat.reduceAdd]
  refine WC.sr ?_
  refine WL.sg rfl rfl ?_
  refine WL.nil ?_
  refine WC.sr ?_
  refine WL.mv rfl rfl ?_
  refine WL.sg rfl rfl ?_
  refine WL.sg rfl rfl ?_
  refine WL.nil ?_
  refine WC.seq ?_
  refine WC.block ?_
  refine WC.loop (σ := Nat × List Fd) (fun s => [(0, .slice (some ⟨g, 0, none⟩) L cap), (1, .int .i64 (L : Int)), (2, .func (.func f) #[] #[]), (6, .int .i64 20), (7, .int .i64 ((s.1 * 20 : Nat) : Int)), (8, .int .i64 ((s.1 * 20 + 20 : Nat) : Int))]) (fun s => Cells g 26 (flatF s.2 ++ r) :: F) (fun s => s.1 * 20 ≤ L ∧ s.2.length = L ∧ List.Perm s.2 ys ∧ ∀ q, q < s.1 → Srt c s.2 (q * 20) (q * 20 + 20)) (fun s => L - s.1) (0, ys) ⟨by show 0 * 20 ≤ L; omega, hl, List.Perm.refl _, fun q hq => absurd hq (Nat.not_lt_zero _)⟩ (.cons rfl (.cons rfl (.cons rfl (.cons rfl (.cons rfl (.cons rfl (.nil _))))))) (fun w h => h) ?_
  rintro ⟨t, zs⟩ ⟨ht, hzl, hP, hB⟩
  dsimp only at ht hzl hP hB ⊢
  refine WC.seq ?_
  refine WC.sr ?_
  refine WL.mv rfl rfl ?_
  refine WL.mv rfl rfl ?_
  refine WL.val (V.leq (OV.p rfl) (OV.p rfl)) rfl ?_
  refine WL.nil ?_
  refine WC.cond rfl (fun hc0 => ?_) (fun hc0 => ?_)
  ·simp only [decide_eq_true_eq, decide_eq_false_iff_not] at hc0
   have h0 := hc0
   refine WC.skip ?_
   refine WC.block ?_
   refine WC.sr ?_
   refine WL.mv rfl rfl ?_
   refine WL.mv rfl rfl ?_
   refine WL.mv rfl rfl ?_
   refine WL.mv rfl rfl ?_
   refine WL.call (vs := [_, _, _, _]) Try.call19 ⟨OV.p rfl, OV.p rfl, OV.p rfl, OV.p rfl, trivial⟩ (insertion_part hf hc (a := t * 20) (b := t * 20 + 20) rfl rfl hzl (by omega) (by omega) (by omega)) rfl ?_
   rintro _ _ ⟨xs, hR, hS, rfl⟩
   refine WL.nil ?_
   refine WC.sr ?_
   refine WL.mv rfl rfl ?_
   refine WL.sg rfl rfl ?_
   refine WL.nil ?_
   refine WC.region ?_
   refine WL.mv rfl rfl ?_
   refine WL.mv rfl rfl ?_
   refine WL.ad rfl rfl rfl ?_
   refine WL.sg rfl rfl ?_
   refine WL.nil ?_
   refine ⟨rfl, ?_⟩
   exact ⟨(t + 1, xs), ⟨by show (t + 1) * 20 ≤ L; omega, hR.len.trans hzl, hR.perm.trans hP, blk_succ hB hR hS⟩, (by show L - (t + 1) < L - t; omega), .cons rfl (.cons rfl (.cons rfl (.cons rfl (.cons (look_eq rfl (by show Value.int .i64 ((t * 20 + 20 : Nat) : Int) = Value.int .i64 (((t + 1) * 20 : Nat) : Int); congr 1 <;> omega)) (.cons (look_eq rfl (by show Value.int .i64 (((t * 20 + 20 : Nat) : Int) + 20) = Value.int .i64 (((t + 1) * 20 + 20 : Nat) : Int); congr 1 <;> omega)) (.nil _)))))), fun w h => h⟩
  ·simp only [decide_eq_true_eq, decide_eq_false_iff_not] at hc0
   have h0 := hc0
   refine WC.exit ?_
   refine WC.sr ?_
   refine WL.mv rfl rfl ?_
   refine WL.mv rfl rfl ?_
   refine WL.mv rfl rfl ?_
   refine WL.mv rfl rfl ?_
   refine WL.call (vs := [_, _, _, _]) Try.call19 ⟨OV.p rfl, OV.p rfl, OV.p rfl, OV.p rfl, trivial⟩ (insertion_part hf hc (a := t * 20) (b := L) rfl rfl hzl (by omega) (by omega) (Nat.le_refl _)) rfl ?_
   rintro _ _ ⟨us, hR, hS, rfl⟩
   have hblk : Blk c us 20 L := blk_all hB hR hS ht (by omega)
   have hul : us.length = L := hR.len.trans hzl
   have huP := hR.perm.trans hP
   refine WL.nil ?_
   refine WC.block ?_
   refine WC.loop (σ := Nat × List Fd) (fun s => [(0, .slice (some ⟨g, 0, none⟩) L cap), (1, .int .i64 (L : Int)), (2, .func (.func f) #[] #[]), (6, .int .i64 (s.1 : Int))]) (fun s => Cells g 26 (flatF s.2 ++ r) :: F) (fun s => 20 ≤ s.1 ∧ s.1 ≤ 2 * L + 20 ∧ s.2.length = L ∧ List.Perm s.2 ys ∧ Blk c s.2 s.1 L) (fun s => 2 * L + 20 - s.1) (20, us) ⟨Nat.le_refl _, by show 20 ≤ 2 * L + 20; omega, hul, huP, hblk⟩ (.cons rfl (.cons rfl (.cons rfl (.cons rfl (.nil _))))) (fun w h => h) ?_
   rintro ⟨B, vs⟩ ⟨hB20, hBL, hvl, hvP, hvB⟩
   dsimp only at hB20 hBL hvl hvP hvB ⊢
   refine WC.seq ?_
   refine WC.sr ?_
   refine WL.mv rfl rfl ?_
   refine WL.mv rfl rfl ?_
   refine WL.val (V.lss (OV.p rfl) (OV.p rfl)) rfl ?_
   refine WL.nil ?_
   refine WC.cond rfl (fun hc1 => ?_) (fun hc1 => ?_)
   ·simp only [decide_eq_true_eq, decide_eq_false_iff_not] at hc1
    have h1 := hc1
    refine WC.skip ?_
    refine WC.block ?_
    refine WC.sr ?_
    refine WL.mv rfl rfl ?_
    refine WL.val (V.mulI (OV.p rfl) (OV.p rfl) (fun hc => by first | omega | (simp at hc; omega))) rfl ?_
    refine WL.sg rfl rfl ?_
    refine WL.sg rfl rfl ?_
    refine WL.nil ?_
    refine WC.seq ?_
    refine WC.block ?_
    refine WC.loop (σ := Nat × List Fd) (fun s => [(0, .slice (some ⟨g, 0, none⟩) L cap), (1, .int .i64 (L : Int)), (2, .func (.func f) #[] #[]), (6, .int .i64 (B : Int)), (7, .int .i64 ((s.1 * (2 * B) : Nat) : Int)), (8, .int .i64 ((s.1 * (2 * B) + 2 * B : Nat) : Int))]) (fun s => Cells g 26 (flatF s.2 ++ r) :: F) (fun s => s.1 * (2 * B) ≤ L ∧ s.1 ≤ L ∧ s.2.length = L ∧ List.Perm s.2 ys ∧ Mid c B L s.1 s.2) (fun s => L + 1 - s.1) (0, vs) ⟨by show 0 * (2 * B) ≤ L; omega, Nat.zero_le _, hvl, hvP, Mid.zero hvB⟩ (.cons rfl (.cons rfl (.cons rfl (.cons rfl (.cons (look_eq rfl (by show Value.int .i64 0 = Value.int .i64 ((0 * (2 * B) : Nat) : Int); congr 1 <;> omega)) (.cons (look_eq rfl (by show Value.int .i64 (2 * (B : Int)) = Value.int .i64 ((0 * (2 * B) + 2 * B : Nat) : Int); congr 1 <;> omega)) (.nil _))))))) (fun w h => h) ?_
    rintro ⟨q, xs⟩ ⟨hq, hqL, hxl, hxP, hM⟩
    dsimp only at hq hqL hxl hxP hM ⊢
    obtain ⟨p, hp⟩ : ∃ p, p = q * (2 * B) := ⟨_, rfl⟩
    have hM1 := hM.fst
    have hM2 := hM.snd
    rw [← hp] at hq hM1 hM2 ⊢
    refine WC.seq ?_
    refine WC.sr ?_
    refine WL.mv rfl rfl ?_
    refine WL.mv rfl rfl ?_
    refine WL.val (V.leq (OV.p rfl) (OV.p rfl)) rfl ?_
    refine WL.nil ?_
    refine WC.cond rfl (fun hc2 => ?_) (fun hc2 => ?_)
    ·simp only [decide_eq_true_eq, decide_eq_false_iff_not] at hc2
     have h2 := hc2
     have hq1 : (q + 1) * (2 * B) = p + 2 * B := by rw [Nat.succ_mul, ← hp]
     have hqq : q + 1 ≤ (q + 1) * (2 * B) := Nat.le_mul_of_pos_right _ (by omega)
     refine WC.skip ?_
     refine WC.block ?_
     refine WC.sr ?_
     refine WL.mv rfl rfl ?_
     refine WL.mv rfl rfl ?_
     refine WL.mv rfl rfl ?_
     refine WL.mv rfl rfl ?_
     refine WL.val (V.val_eq (v' := .int .i64 ((p + B : Nat) : Int)) (V.addI (OV.p rfl) (OV.p rfl) (fun _ => by omega)) (fun _ => by congr 1 <;> omega)) rfl ?_
     refine WL.mv rfl rfl ?_
     refine WL.mv rfl rfl ?_
     refine WL.call (vs := [_, _, _, _, _]) Try.call20 ⟨OV.p rfl, OV.p rfl, OV.p rfl, OV.p rfl, OV.p rfl, trivial⟩ (symMerge_found hf hc (by omega) (p + 2 * B - p) (a := p) (m := p + B) (b := p + 2 * B) (Nat.le_refl _) (by omega) (by omega) (by omega) hxl (hM1.sub (Nat.le_refl _) (by omega)) (hM2.sub (Nat.le_refl _) (by omega))) rfl ?_
     rintro _ _ ⟨ws, hW, hWs, rfl⟩
     rw [hp] at hW hWs
     have hnx := hM.succ hW hWs
     refine WL.nil ?_
     refine WC.sr ?_
     refine WL.mv rfl rfl ?_
     refine WL.sg rfl rfl ?_
     refine WL.nil ?_
     refine WC.region ?_
     refine WL.mv rfl rfl ?_
     refine WL.mv rfl rfl ?_
     refine WL.val (V.mulI (OV.p rfl) (OV.p rfl) (fun hc => by first | omega | (simp at hc; omega))) rfl ?_
     refine WL.ad rfl rfl rfl ?_
     refine WL.sg rfl rfl ?_
     refine WL.nil ?_
     refine ⟨rfl, ?_⟩
     exact ⟨(q + 1, ws), ⟨by show (q + 1) * (2 * B) ≤ L; omega, by show q + 1 ≤ L; omega, hW.len.trans hxl, hW.perm.trans hxP, hnx⟩, (by show L + 1 - (q + 1) < L + 1 - q; omega), .cons rfl (.cons rfl (.cons rfl (.cons rfl (.cons (look_eq rfl (by show Value.int .i64 ((p + 2 * B : Nat) : Int) = Value.int .i64 (((q + 1) * (2 * B) : Nat) : Int); rw [hq1])) (.cons (look_eq rfl (by show Value.int .i64 (((p + 2 * B : Nat) : Int) + 2 * (B : Int)) = Value.int .i64 (((q + 1) * (2 * B) + 2 * B : Nat) : Int); rw [hq1]; congr 1 <;> omega)) (.nil _)))))), fun w h => h⟩
    ·simp only [decide_eq_true_eq, decide_eq_false_iff_not] at hc2
     have h2 := hc2
     refine WC.exit ?_
     refine WC.join (σ := List Fd) (fun ws => [(0, .slice (some ⟨g, 0, none⟩) L cap), (1, .int .i64 (L : Int)), (2, .func (.func f) #[] #[]), (6, .int .i64 (B : Int))]) (fun ws => Cells g 26 (flatF ws ++ r) :: F) (fun ws => ws.length = L ∧ List.Perm ws ys ∧ Blk c ws (2 * B) L) ?_ ?_
     ·skip
      refine WC.sr ?_
      refine WL.mv rfl rfl ?_
      refine WL.mv rfl rfl ?_
      refine WL.val (V.val_eq (v' := .int .i64 ((p + B : Nat) : Int)) (V.addI (OV.p rfl) (OV.p rfl) (fun _ => by omega)) (fun _ => by congr 1 <;> omega)) rfl ?_
      refine WL.sg rfl rfl ?_
      refine WL.nil ?_
      refine WC.sr ?_
      refine WL.mv rfl rfl ?_
      refine WL.mv rfl rfl ?_
      refine WL.val (V.lss (OV.p rfl) (OV.p rfl)) rfl ?_
      refine WL.nil ?_
      refine WC.cond rfl (fun hc3 => ?_) (fun hc3 => ?_)
      ·simp only [decide_eq_true_eq, decide_eq_false_iff_not] at hc3
       have h3 := hc3
       refine WC.region ?_
       refine WL.mv rfl rfl ?_
       refine WL.mv rfl rfl ?_
       refine WL.mv rfl rfl ?_
       refine WL.mv rfl rfl ?_
       refine WL.mv rfl rfl ?_
       refine WL.call (vs := [_, _, _, _, _]) Try.call20 ⟨OV.p rfl, OV.p rfl, OV.p rfl, OV.p rfl, OV.p rfl, trivial⟩ (symMerge_found hf hc (by omega) (L - p) (a := p) (m := p + B) (b := L) (Nat.le_refl _) (by omega) (by omega) (Nat.le_refl _) hxl (hM1.sub (Nat.le_refl _) (by omega)) (hM2.sub (Nat.le_refl _) (by omega))) rfl ?_
       rintro _ _ ⟨ws, hW, hWs, rfl⟩
       have hall : Blk c ws (2 * B) L := hM.all (by rw [← hp]; exact hW) (by rw [← hp]; exact hWs) (by rw [← hp]; exact hq) (by rw [← hp]; omega)
       refine WL.nil ?_
       refine ⟨rfl, ?_⟩
       first
       | exact ⟨ws, ⟨hW.len.trans hxl, hW.perm.trans hxP, hall⟩, .cons rfl (.cons rfl (.cons rfl (.cons rfl (.nil _)))), fun w h => h⟩
       | exact ⟨xs, ⟨hxl, hxP, hM.all (Rg.refl _ _ _) (by rw [← hp]; exact hM1.sub (Nat.le_refl _) (by omega)) (by rw [← hp]; exact hq) (by rw [← hp]; omega)⟩, .cons rfl (.cons rfl (.cons rfl (.cons rfl (.nil _)))), fun w h => h⟩
      ·simp only [decide_eq_true_eq, decide_eq_false_iff_not] at hc3
       have h3 := hc3
       refine WC.skip ?_
       refine ⟨rfl, ?_⟩
       first
       | exact ⟨ws, ⟨hW.len.trans hxl, hW.perm.trans hxP, hall⟩, .cons rfl (.cons rfl (.cons rfl (.cons rfl (.nil _)))), fun w h => h⟩
       | exact ⟨xs, ⟨hxl, hxP, hM.all (Rg.refl _ _ _) (by rw [← hp]; exact hM1.sub (Nat.le_refl _) (by omega)) (by rw [← hp]; exact hq) (by rw [← hp]; omega)⟩, .cons rfl (.cons rfl (.cons rfl (.cons rfl (.nil _)))), fun w h => h⟩
     ·skip
      rintro ws ⟨hwl, hwP, hwB⟩
      try dsimp only at hwl hwP hwB ⊢
      refine WC.region ?_
      refine WL.mv rfl rfl ?_
      refine WL.val (V.mulI (OV.p rfl) (OV.p rfl) (fun hc => by first | omega | (simp at hc; omega))) rfl ?_
      refine WL.sg rfl rfl ?_
      refine WL.nil ?_
      refine ⟨rfl, ?_⟩
      exact ⟨(2 * B, ws), ⟨by show 20 ≤ 2 * B; omega, by show 2 * B ≤ 2 * L + 20; omega, hwl, hwP, hwB⟩, (by show 2 * L + 20 - 2 * B < 2 * L + 20 - B; omega), .cons rfl (.cons rfl (.cons rfl (.cons (look_eq rfl (by show Value.int .i64 ((B : Int) * 2) = Value.int .i64 ((2 * B : Nat) : Int); congr 1 <;> omega)) (.nil _)))), fun w h => h⟩
   ·simp only [decide_eq_true_eq, decide_eq_false_iff_not] at hc1
    have h1 := hc1
    refine WC.exit ?_
    exact BodyQ.normal (H' := Cells g 26 (flatF vs ++ r) :: F) (Res.none rfl) (fun w h => h) ⟨vs, hvP, by
      have := hvB 0
      rw [Nat.zero_mul] at this
      exact this.sub (Nat.le_refl _) (by omega), rfl⟩
/-- Two that are alike are the same one. -/
def Anti (c : Fd → Fd → Int) (ys : List Fd) : Prop := ∀ p q, p ∈ ys → q ∈ ys → Le c p q → Le c q p → p = q
theorem Srt.pairwise {zs : List Fd} (h : Srt c zs 0 zs.length) : zs.Pairwise (Le c) := by
  rw [List.pairwise_iff_getElem]
  intro i j hi hj hij
  have := h i j (Nat.zero_le _) hij hj
  simpa [el, List.getD, hi, hj] using this
theorem isort_le (hc : Ord3 c) (ys : List Fd) : (isort (ltOf c) ys).Pairwise (Le c) := by
  refine (isort_sorted (lt := ltOf c) (fun a b d h1 h2 => ?_) (fun a b h => ?_) ys).imp fun {a b} h => ?_
  · rw [decide_eq_false_iff_not] at *
    exact hc.tr _ _ _ h2 h1
  · rw [decide_eq_true_eq] at h
    rw [decide_eq_false_iff_not]
    exact hc.asy _ _ h
  · rw [decide_eq_false_iff_not] at h
    exact h
theorem sort_one (hc : Ord3 c) {ys zs : List Fd} (ha : Anti c ys) (hp : List.Perm zs ys) (hs : zs.Pairwise (Le c)) : zs = isort (ltOf c) ys :=
  List.Perm.eq_of_pairwise (le := Le c) (fun p q h1 h2 h3 h4 => ha p q (hp.mem_iff.1 h1) (mem_isort.1 h2) h3 h4) hs (isort_le hc ys) (hp.trans (isort_perm ys).symm)
theorem sort_any (hf : CmpIs f c) (hc : Ord3 c) {ys : List Fd} (ha : Anti c ys) (hy : ys.length ≤ 1000) : SortAt f c ys := fun K F A cap => by
  obtain ⟨m, hm⟩ : ∃ m, m = ys.length := ⟨_, rfl⟩
  rw [← hm] at hy ⊢
  cases A with
  | none =>
    refine Does.have_ (p := m = 0 ∧ cap = 0) (fun w hw => ⟨(SlA.nilCs hw).1, (SlA.nilCs hw).2.1⟩) (fun h0 => ?_)
    obtain ⟨h1, h2⟩ := h0
    subst h2
    have hy : ys = [] := List.eq_nil_of_length_eq_zero (by omega)
    subst hy
    obtain rfl : m = 0 := by omega
    exact sort_found hf rfl (by decide)
  | some a =>
    refine Does.have_ (p := ∃ g, a = ⟨g, 0, none⟩) (fun w hw => SlA.addr hw) (fun ⟨g, hg⟩ => ?_)
    subst hg
    refine Does.ex (fun w hw => Sat.slCells hw) (fun r hr => ?_)
    obtain ⟨r1, r2, r3, r4⟩ := hr
    have hst := stable_any (K := K) (F := F) (g := g) (cap := cap) (r := r) hf hc hm.symm hy
    refine Does.enter Try.func14 rfl Try.ntmps14 rfl ?_
    simp only [env0, Nat.reduceAdd]
    refine WC.region ?_
    refine WL.mv rfl rfl ?_
    refine WL.mv rfl rfl ?_
    refine WL.val (V.len (t := 22) Try.runUnderlying22 (OV.p rfl)) rfl ?_
    refine WL.mv rfl rfl ?_
    refine WL.call (vs := [_, _, _]) Try.call18 ⟨OV.p rfl, OV.p rfl, OV.p rfl, trivial⟩ (hst) rfl ?_
    rintro _ _ ⟨zs, hP, hS, rfl⟩
    have hzl : zs.length = m := hP.length_eq.trans hm.symm
    have hzi : zs = isort (ltOf c) ys := sort_one hc ha hP (Srt.pairwise (by rw [hzl]; exact hS))
    refine WL.nil ?_
    refine BodyQ.normal (H' := Cells g 26 (flatF zs ++ r) :: F) (Res.none rfl) (fun w h => h) (fun w h => ?_)
    have hfl : (flatF zs).length = m * 5 := by rw [flatF_length, hzl]
    have hfl0 : (flatF ys).length = m * 5 := by rw [flatF_length, hm]
    have h' := Sat.toSl (m := m) (cap := cap) (s := 5) h (by rw [List.length_append] at r1 ⊢; omega) r3 r4
    rw [List.take_left' hfl, hzi] at h'
    exact h'
end
end Go.Proofs.Ytcmojpiokjhmhaa
