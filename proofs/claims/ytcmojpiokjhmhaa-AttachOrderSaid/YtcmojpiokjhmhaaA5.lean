/- The law AttachOrder, walked. -/
import Derived.Test.YtcmojpiokjhmhaaA4
namespace Go.Proofs.Ytcmojpiokjhmhaa
open Go.Sl Go.RowKit
set_option linter.unusedVariables false
set_option linter.unusedSimpArgs false
set_option maxRecDepth 20000

def mostF : List Fd → Int := fun l => l.foldl (fun m x => max m x.hd.num) 0
theorem mostF_snoc (l : List Fd) (x : Fd) : mostF (l ++ [x]) = max (mostF l) x.hd.num := by unfold mostF; rw [List.foldl_append]; rfl
theorem mostF_ge (l : List Fd) : (0 ≤ mostF l) ∧ ∀ x ∈ l, x.hd.num ≤ mostF l := by
  suffices h : ∀ (l : List Fd) (m : Int), m ≤ l.foldl (fun m x => max m x.hd.num) m ∧ ∀ x ∈ l, x.hd.num ≤ l.foldl (fun m x => max m x.hd.num) m from h l 0
  intro l
  induction l with
  | nil => intro m; exact ⟨Int.le_refl _, fun x hx => (by cases hx)⟩
  | cons y l ih =>
    intro m
    obtain ⟨h1, h2⟩ := ih (max m y.hd.num)
    refine ⟨by show m ≤ l.foldl (fun m x => max m x.hd.num) (max m y.hd.num); omega, fun x hx => ?_⟩
    show x.hd.num ≤ l.foldl (fun m x => max m x.hd.num) (max m y.hd.num)
    rcases List.mem_cons.1 hx with rfl | hx
    · omega
    · exact h2 x hx
theorem mostF_in (l : List Fd) (hne : l ≠ []) (h0 : ∀ x ∈ l, 0 ≤ x.hd.num) : ∃ x ∈ l, x.hd.num = mostF l := by
  suffices h : ∀ (l : List Fd) (m : Int), l.foldl (fun m x => max m x.hd.num) m = m ∨ ∃ x ∈ l, x.hd.num = l.foldl (fun m x => max m x.hd.num) m by
    rcases h l 0 with h | h
    · cases l with
      | nil => exact absurd rfl hne
      | cons y l =>
        have h1 := (mostF_ge (y :: l)).2 y (.head _)
        have h2 := h0 y (.head _)
        have h3 : mostF (y :: l) = 0 := h
        exact ⟨y, .head _, by omega⟩
    · exact h
  intro l
  induction l with
  | nil => intro m; exact .inl rfl
  | cons y l ih =>
    intro m
    rcases ih (max m y.hd.num) with h | ⟨x, hx, h⟩
    · by_cases hm : m ≤ y.hd.num
      · exact .inr ⟨y, .head _, by show y.hd.num = l.foldl (fun m x => max m x.hd.num) (max m y.hd.num); rw [h]; omega⟩
      · exact .inl (by show l.foldl (fun m x => max m x.hd.num) (max m y.hd.num) = m; rw [h]; omega)
    · exact .inr ⟨x, .tail _ hx, h⟩
theorem dist_of {fs : List Fd} (h : ∀ i k, i < fs.length → k < i → (el fs k).block ≠ (el fs i).block) : Dist fs := fun p q hp hq hb => by
  obtain ⟨i, hi, rfl⟩ := List.getElem_of_mem hp
  obtain ⟨j, hj, rfl⟩ := List.getElem_of_mem hq
  have e1 : el fs i = fs[i] := by simp [el, List.getD, hi]
  have e2 : el fs j = fs[j] := by simp [el, List.getD, hj]
  rcases Nat.lt_trichotomy i j with h1 | h1 | h1
  · have := h j i hj h1
    rw [e1, e2] at this; exact absurd hb this
  · subst h1; rfl
  · have := h i j hi h1
    rw [e1, e2] at this; exact absurd hb.symm this
section
variable {K : World} {F : List Assn} {A : Option Addr} {n cap : Nat} {fs : List Fd}
set_option maxHeartbeats 2000000 in
theorem law10_AttachOrder (lebs by' : Int) (hs : Seq K F A n 5 (flatF fs)) (hn : fs.length = n) (hcap : n ≤ cap) :
    Tells Try.prog 3 #[.int .i64 lebs, .slice A n cap, .int .i64 by'] K F (.bool true) := by
  have hel : ∀ (k : Nat), k < n → ∀ (j : Nat) v, (el fs k).cells[j]? = some v → Rd K F (A.map (·.add (k * 5 + j))) v := fun k hk j v hj => by
    have hx : fs[k]? = some (el fs k) := by simp [el, List.getD, show k < fs.length by omega]
    exact found_rd hs hx hj
  refine Does.enter Try.func3 rfl Try.ntmps3 rfl ?_
  simp only [env0, Nat.reduceAdd]
  refine WC.sr ?_
  refine WL.sg rfl rfl ?_
  refine WL.nil ?_
  refine WC.seq ?_
  refine WC.sr ?_
  refine WL.mv rfl rfl ?_
  refine WL.val (V.len (t := 22) Try.runUnderlying22 (OV.p rfl)) rfl ?_
  refine WL.val (V.gtr (OV.p rfl) (OV.p rfl)) rfl ?_
  refine WL.mv rfl rfl ?_
  refine WL.valG (oj := _) rfl rfl rfl GC.f (V.move (OV.p rfl)) rfl ?_
  refine WL.valG (oj := _) rfl rfl rfl GC.f (V.lss (OV.g rfl id) (OV.p rfl)) rfl ?_
  refine WL.val (V.pickOr (OV.p rfl) (OV.g rfl id)) rfl ?_
  refine WL.mv rfl rfl ?_
  refine WL.valG (oj := _) rfl rfl rfl GC.f (V.move (OV.p rfl)) rfl ?_
  refine WL.valG (oj := _) rfl rfl rfl GC.f (V.move (OV.p rfl)) rfl ?_
  refine WL.valG (oj := _) rfl rfl rfl GC.f (V.len (t := 22) Try.runUnderlying22 (OV.g rfl id)) rfl ?_
  refine WL.valG (oj := _) rfl rfl rfl GC.f (V.geq (OV.g rfl id) (OV.g rfl id)) rfl ?_
  refine WL.val (V.pickOr (OV.p rfl) (OV.g rfl id)) rfl ?_
  refine WL.nil ?_
  refine WC.cond rfl (fun hc0 => ?_) (fun hc0 => ?_)
  ·simp only [Bool.or_eq_true, Bool.or_eq_false_iff, decide_eq_true_eq, decide_eq_false_iff_not] at hc0
   refine WC.sr ?_
   refine WL.sg rfl rfl ?_
   refine WL.nil ?_
   refine WC.ret ?_
   exact BodyQ.ret (H' := F) (Res.tmp rfl rfl) (fun w h => h) ⟨rfl, rfl⟩
  ·simp only [Bool.or_eq_true, Bool.or_eq_false_iff, decide_eq_true_eq, decide_eq_false_iff_not] at hc0
   obtain ⟨⟨hn200, hb0⟩, hbn⟩ := hc0
   obtain ⟨b, rfl⟩ : ∃ b : Nat, by' = (b : Int) := ⟨by'.toNat, by omega⟩
   refine WC.skip ?_
   refine WC.sr ?_
   refine WL.sg rfl rfl ?_
   refine WL.nil ?_
   refine WC.seq ?_
   refine WC.sr ?_
   refine WL.sg rfl rfl ?_
   refine WL.nil ?_
   refine WC.block ?_
   refine WC.loop (σ := Nat) (fun i => [(0, .int .i64 lebs), (1, .slice A n cap), (2, .int .i64 (b : Int)), (7, .int .i64 (mostF (fs.take i))), (8, .int .i64 (i : Int))]) (fun _ => F) (fun i => i ≤ n ∧ (∀ x ∈ fs.take i, 0 ≤ x.hd.num ∧ x.hd.num ≤ 1000000000) ∧ ∀ j k, j < i → k < j → (el fs k).block ≠ (el fs j).block) (fun i => n - i) 0 ⟨Nat.zero_le _, fun x hx => by simp at hx, fun j k h1 h2 => absurd h1 (Nat.not_lt_zero _)⟩ (.cons rfl (.cons rfl (.cons rfl (.cons rfl (.cons rfl (.nil _)))))) (fun w h => h) ?_
   rintro i ⟨hi, hnums, hdst⟩
   try dsimp only at hi hnums hdst ⊢
   refine WC.seq ?_
   refine WC.sr ?_
   refine WL.mv rfl rfl ?_
   refine WL.mv rfl rfl ?_
   refine WL.val (V.len (t := 22) Try.runUnderlying22 (OV.p rfl)) rfl ?_
   refine WL.val (V.lss (OV.p rfl) (OV.p rfl)) rfl ?_
   refine WL.nil ?_
   refine WC.cond rfl (fun hc1 => ?_) (fun hc1 => ?_)
   ·simp only [decide_eq_true_eq, decide_eq_false_iff_not] at hc1
    have hin : i < n := by omega
    have hti : (i : Int).toNat = i := by omega
    obtain ⟨x, hx⟩ : ∃ x, x = el fs i := ⟨_, rfl⟩
    have hxe : ∀ (j : Nat) v, x.cells[j]? = some v → Rd K F (A.map (·.add (i * 5 + j))) v := fun j v hj => hel i hin j v (by rw [← hx]; exact hj)
    have htk : fs.take (i + 1) = fs.take i ++ [x] := by rw [List.take_add_one, hx]; simp [el, List.getD, show i < fs.length by omega]
    refine WC.skip ?_
    refine WC.seq ?_
    refine WC.block ?_
    refine WC.seq ?_
    refine WC.sr ?_
    refine WL.mv rfl rfl ?_
    refine WL.mv rfl rfl ?_
    refine WL.val (V.val_eq (v' := sp A (i * 5)) (V.idxS st22 (OV.p rfl) (OV.p rfl) (fun hc => by omega) (fun hc => by rw [hti]; exact hxe 0 _ rfl)) (fun _ => by rw [hti])) rfl ?_
    refine WL.val (V.fieldS (k' := i * 5 + 1) fo26_1 (OV.p rfl) (fun _ => hxe 1 _ rfl)) rfl ?_
    refine WL.val (V.fieldS (k' := i * 5 + 3) fo24_2 (OV.p rfl) (fun _ => hxe 3 _ rfl)) rfl ?_
    refine WL.val (V.load Try.isAgg3 (OV.p rfl) (fun _ => hxe 3 _ rfl)) rfl ?_
    refine WL.val (V.lss (OV.p rfl) (OV.p rfl)) rfl ?_
    refine WL.mv rfl rfl ?_
    refine WL.valG (oj := _) rfl rfl rfl GC.f (V.move (OV.p rfl)) rfl ?_
    refine WL.valG (oj := _) rfl rfl rfl GC.f (V.move (OV.p rfl)) rfl ?_
    refine WL.valG (oj := _) rfl rfl rfl GC.f (V.val_eq (v' := sp A (i * 5)) (V.idxS st22 (OV.g rfl id) (OV.g rfl id) (fun hc => by omega) (fun hc => by rw [hti]; exact hxe 0 _ rfl)) (fun _ => by rw [hti])) rfl ?_
    refine WL.valG (oj := _) rfl rfl rfl GC.f (V.fieldS (k' := i * 5 + 1) fo26_1 (OV.g rfl id) (fun _ => hxe 1 _ rfl)) rfl ?_
    refine WL.valG (oj := _) rfl rfl rfl GC.f (V.fieldS (k' := i * 5 + 3) fo24_2 (OV.g rfl id) (fun _ => hxe 3 _ rfl)) rfl ?_
    refine WL.valG (oj := _) rfl rfl rfl GC.f (V.load Try.isAgg3 (OV.g rfl id) (fun _ => hxe 3 _ rfl)) rfl ?_
    refine WL.valG (oj := _) rfl rfl rfl GC.f (V.gtr (OV.g rfl id) (OV.p rfl)) rfl ?_
    refine WL.val (V.pickOr (OV.p rfl) (OV.g rfl id)) rfl ?_
    refine WL.nil ?_
    refine WC.cond rfl (fun hc2 => ?_) (fun hc2 => ?_)
    ·simp only [Bool.or_eq_true, Bool.or_eq_false_iff, decide_eq_true_eq, decide_eq_false_iff_not] at hc2
     have h2 := hc2
     refine WC.sr ?_
     refine WL.sg rfl rfl ?_
     refine WL.nil ?_
     refine WC.ret ?_
     exact BodyQ.ret (H' := F) (Res.tmp rfl rfl) (fun w h => h) ⟨rfl, rfl⟩
    ·simp only [Bool.or_eq_true, Bool.or_eq_false_iff, decide_eq_true_eq, decide_eq_false_iff_not] at hc2
     have h2 := hc2
     refine WC.skip ?_
     refine WC.sr ?_
     refine WL.mv rfl rfl ?_
     refine WL.mv rfl rfl ?_
     refine WL.mv rfl rfl ?_
     refine WL.val (V.val_eq (v' := sp A (i * 5)) (V.idxS st22 (OV.p rfl) (OV.p rfl) (fun hc => by omega) (fun hc => by rw [hti]; exact hxe 0 _ rfl)) (fun _ => by rw [hti])) rfl ?_
     refine WL.val (V.fieldS (k' := i * 5 + 1) fo26_1 (OV.p rfl) (fun _ => hxe 1 _ rfl)) rfl ?_
     refine WL.val (V.fieldS (k' := i * 5 + 3) fo24_2 (OV.p rfl) (fun _ => hxe 3 _ rfl)) rfl ?_
     refine WL.val (V.load Try.isAgg3 (OV.p rfl) (fun _ => hxe 3 _ rfl)) rfl ?_
     refine WL.val (V.max (OV.p rfl) (OV.p rfl)) rfl ?_
     refine WL.sg rfl rfl ?_
     refine WL.nil ?_
     refine WC.sr ?_
     refine WL.sg rfl rfl ?_
     refine WL.nil ?_
     refine WC.block ?_
     refine WC.loop (σ := Nat) (fun k => [(0, .int .i64 lebs), (1, .slice A n cap), (2, .int .i64 (b : Int)), (7, .int .i64 (mostF (fs.take (i + 1)))), (8, .int .i64 (i : Int)), (9, .int .i64 (k : Int))]) (fun _ => F) (fun k => k ≤ i ∧ ∀ j, j < k → (el fs j).block ≠ x.block) (fun k => i - k) 0 ⟨Nat.zero_le _, fun j hj => absurd hj (Nat.not_lt_zero _)⟩ (.cons rfl (.cons rfl (.cons rfl (.cons (look_eq rfl (by rw [htk, mostF_snoc])) (.cons rfl (.cons rfl (.nil _))))))) (fun w h => h) ?_
     rintro k ⟨hk, hkd⟩
     try dsimp only at hk hkd ⊢
     refine WC.seq ?_
     refine WC.sr ?_
     refine WL.mv rfl rfl ?_
     refine WL.mv rfl rfl ?_
     refine WL.val (V.lss (OV.p rfl) (OV.p rfl)) rfl ?_
     refine WL.nil ?_
     refine WC.cond rfl (fun hc3 => ?_) (fun hc3 => ?_)
     ·simp only [decide_eq_true_eq, decide_eq_false_iff_not] at hc3
      have hki : k < i := by omega
      have htk2 : (k : Int).toNat = k := by omega
      refine WC.skip ?_
      refine WC.seq ?_
      refine WC.block ?_
      refine WC.seq ?_
      refine WC.regionQ (by kernel_rfl) (by kernel_rfl) ?_
      refine WQ.val (V.move (OV.p rfl)) rfl ?_
      refine WQ.val (V.move (OV.p rfl)) rfl ?_
      refine WQ.val (V.val_eq (v' := sp A (k * 5)) (V.idxS st22 (OV.p rfl) (OV.p rfl) (fun hc => by omega) (fun hc => by rw [htk2]; exact hel k (by omega) 0 _ rfl)) (fun _ => by rw [htk2])) rfl ?_
      refine WQ.val (V.fieldS (k' := k * 5) fo26_0 (OV.p rfl) (fun _ => hel k (by omega) 0 _ rfl)) rfl ?_
      refine WQ.val (V.load Try.isAgg3 (OV.p rfl) (fun _ => hel k (by omega) 0 _ rfl)) rfl ?_
      refine WQ.val (V.move (OV.p rfl)) rfl ?_
      refine WQ.val (V.move (OV.p rfl)) rfl ?_
      refine WQ.val (V.val_eq (v' := sp A (i * 5)) (V.idxS st22 (OV.p rfl) (OV.p rfl) (fun hc => by omega) (fun hc => by rw [hti]; exact hxe 0 _ rfl)) (fun _ => by rw [hti])) rfl ?_
      refine WQ.val (V.fieldS (k' := i * 5) fo26_0 (OV.p rfl) (fun _ => hxe 0 _ rfl)) rfl ?_
      refine WQ.val (V.load Try.isAgg3 (OV.p rfl) (fun _ => hxe 0 _ rfl)) rfl ?_
      refine WQ.val (V.eql (OV.p rfl) (OV.p rfl)) rfl ?_
      refine WQ.nil ?_
      refine WC.cond rfl (fun hc4 => ?_) (fun hc4 => ?_)
      ·simp only [decide_eq_true_eq, decide_eq_false_iff_not] at hc4
       have h4 := hc4
       refine WC.sr ?_
       refine WL.sg rfl rfl ?_
       refine WL.nil ?_
       refine WC.ret ?_
       exact BodyQ.ret (H' := F) (Res.tmp rfl rfl) (fun w h => h) ⟨rfl, rfl⟩
      ·simp only [decide_eq_true_eq, decide_eq_false_iff_not] at hc4
       have h4 := hc4
       refine WC.skip ?_
       refine WC.region ?_
       refine WL.mv rfl rfl ?_
       refine WL.ad rfl rfl rfl ?_
       refine WL.sg rfl rfl ?_
       refine WL.nil ?_
       refine ⟨rfl, ?_⟩
       exact ⟨k + 1, ⟨hki, fun j hj => by
         by_cases e : j = k
         · rw [e]; exact h4
         · exact hkd j (by omega)⟩, (by show i - (k + 1) < i - k; omega), .cons rfl (.cons rfl (.cons rfl (.cons rfl (.cons rfl (.cons (look_eq rfl (by simp)) (.nil _)))))), fun w h => h⟩
     ·simp only [decide_eq_true_eq, decide_eq_false_iff_not] at hc3
      obtain rfl : k = i := by omega
      refine WC.exit ?_
      refine WC.region ?_
      refine WL.mv rfl rfl ?_
      refine WL.ad rfl rfl rfl ?_
      refine WL.sg rfl rfl ?_
      refine WL.nil ?_
      refine ⟨rfl, ?_⟩
      exact ⟨k + 1, ⟨hin, fun y hy => by
        rw [htk] at hy
        rcases List.mem_append.1 hy with hy | hy
        · exact hnums y hy
        · rw [List.mem_singleton.1 hy]; omega, fun j l h1 h3 => by
        by_cases e : j = k
        · subst e; rw [← hx]; exact hkd l h3
        · exact hdst j l (by omega) h3⟩, (by show n - (k + 1) < n - k; omega), .cons rfl (.cons rfl (.cons rfl (.cons rfl (.cons (look_eq rfl (by simp)) (.nil _))))), fun w h => h⟩
   ·simp only [decide_eq_true_eq, decide_eq_false_iff_not] at hc1
    refine WC.exit ?_
    refine WC.seq ?_
    obtain rfl : i = n := by omega
    rw [List.take_of_length_le (by omega)] at hnums ⊢
    obtain ⟨M, hM⟩ : ∃ M, M = mostF fs := ⟨_, rfl⟩
    rw [← hM]
    have hne : fs ≠ [] := fun e => by rw [e] at hn; simp at hn; omega
    have hD : Dist fs := dist_of (fun j k h1 h2 => hdst j k (by omega) h2)
    obtain ⟨hM0, hMx⟩ := mostF_ge fs
    obtain ⟨xm, hxm, hxM⟩ := mostF_in fs hne (fun x hx => (hnums x hx).1)
    rw [← hM] at hM0 hMx hxM
    have hM9 : M ≤ 1000000000 := by rw [← hxM]; exact (hnums xm hxm).2
    have hnx1 : nextF fs = M + 1 := next_is hMx ⟨xm, hxm, hxM⟩
    obtain ⟨tn, htn⟩ : ∃ tn, tn = fs.drop b ++ fs.take b := ⟨_, rfl⟩
    have htP : List.Perm tn fs := by rw [htn]; exact turn_perm fs b
    have hnx2 : nextF tn = M + 1 := next_is (fun x hx => hMx x (htP.mem_iff.1 hx)) ⟨xm, htP.mem_iff.2 hxm, hxM⟩
    obtain ⟨z, hz⟩ : ∃ z : Fd, z = ⟨999, ⟨0, 0, M + 1⟩, false⟩ := ⟨_, rfl⟩
    have hzw : z.whole = false := by rw [hz]
    have hzn : z.hd.num = M + 1 := by rw [hz]
    have hnx3 : nextF (fs ++ [z]) = M + 1 + 1 := next_is (fun x hx => by
      rcases List.mem_append.1 hx with hx | hx
      · have := hMx x hx; omega
      · rw [List.mem_singleton.1 hx, hzn]; exact Int.le_refl _) ⟨z, List.mem_append_right _ (.head _), hzn⟩
    obtain ⟨hmf, hmp⟩ := pick_more (fs := fs) lebs.toNat hzw
    have htl : tn.length = i := htP.length_eq.trans hn
    refine WC.region ?_
    refine WL.sg rfl rfl ?_
    refine WL.nil ?_
    refine WC.sr ?_
    refine WL.mv rfl rfl ?_
    refine WL.mv rfl rfl ?_
    refine WL.mv rfl rfl ?_
    refine WL.val (V.val_eq (v' := .slice (A.map (·.add (b * 5))) (i - b) (cap - b)) (V.slice st22 (l := b) (h := i) (u := cap) (OV.p rfl) (OO.some (OV.p rfl) (fun _ => by omega)) OO.none OO.none (by simp) (by omega) (by omega) (by omega)) (fun _ => by rw [if_neg (by omega)])) rfl ?_
    refine WL.sub (Sub.refl _) (fun w h => Sat.slNil h 26 5) ?_
    refine WL.append (m := 0) (q := i - b) (cs := []) (news := flatF (fs.drop b)) Try.underlying22 el26 (OV.p rfl) (OV.p rfl) (seqF_drop hs hn b (by omega)) (fun u hu => by obtain ⟨x, _, hx⟩ := List.mem_flatMap.1 hu; exact List.all_eq_true.1 (flatF_one x) u hx) (by omega) rfl rfl (fun A4 c4 hA4 hc4 => ?_)
    rw [Nat.zero_add, List.nil_append]
    refine WL.sg rfl rfl ?_
    refine WL.nil ?_
    refine WC.sr ?_
    refine WL.mv rfl rfl ?_
    refine WL.mv rfl rfl ?_
    refine WL.mv rfl rfl ?_
    refine WL.val (V.val_eq (v' := .slice A b cap) (V.slice st22 (l := 0) (h := b) (u := cap) (OV.p rfl) OO.none (OO.some (OV.p rfl) (fun _ => by omega)) OO.none (by simp) (by omega) (by omega) (by omega)) (fun _ => by rw [sub0]; rfl)) rfl ?_
    refine WL.append (m := i - b) (q := b) (cs := flatF (fs.drop b)) (news := flatF (fs.take b)) Try.underlying22 el26 (OV.p rfl) (OV.p rfl) (seqF_take hs hn b (by omega)) (fun u hu => by obtain ⟨x, _, hx⟩ := List.mem_flatMap.1 hu; exact List.all_eq_true.1 (flatF_one x) u hx) (by omega) rfl rfl (fun A5 c5 hA5 hc5 => ?_)
    rw [show i - b + b = i by omega, show flatF (fs.drop b) ++ flatF (fs.take b) = flatF tn by rw [htn]; simp [flatF]]
    refine WL.sg rfl rfl ?_
    refine WL.nil ?_
    refine WC.sr ?_
    refine WL.sg rfl rfl ?_
    refine WL.nil ?_
    refine WC.sr ?_
    refine WL.mv rfl rfl ?_
    refine WL.mv rfl rfl ?_
    refine WL.sub (Sub.refl _) (fun w h => Sat.slNil h 26 5) ?_
    refine WL.append (m := 0) (q := i) (cs := []) (news := flatF fs) Try.underlying22 el26 (OV.p rfl) (OV.p rfl) hs.up (fun u hu => by obtain ⟨x, _, hx⟩ := List.mem_flatMap.1 hu; exact List.all_eq_true.1 (flatF_one x) u hx) (by omega) rfl rfl (fun A6 c6 hA6 hc6 => ?_)
    rw [Nat.zero_add, List.nil_append]
    refine WL.sg rfl rfl ?_
    refine WL.nil ?_
    refine WC.sr ?_
    refine WL.mv rfl rfl ?_
    refine WL.mv rfl rfl ?_
    refine WL.ad rfl rfl rfl ?_
    refine WL.val (V.build (vs := [(0, _), (2, _)]) ⟨OV.p rfl, OV.p rfl, trivial⟩ rfl (bld24_0_2 _ _)) rfl ?_
    refine WL.val (V.build (vs := [(0, _), (1, _)]) ⟨OV.p rfl, OV.p rfl, trivial⟩ rfl (bld26_0_1 _ _ _ _)) rfl ?_
    refine WL.buildSlice (E := 26) (cs := [_, _, _, _, _]) (vs := [(0, _)]) ⟨OV.p rfl, trivial⟩ rfl (bsl22_1_0 _ _ _ _ _) rfl (fun b98 => ?_)
    refine WL.sub (Sub.refl _) (fun w h => h.p1) ?_
    refine WL.append (m := i) (q := 1) (cs := flatF fs) (news := z.cells) Try.underlying22 el26 (OV.p rfl) (OV.p rfl) (by rw [hz]; exact Seq.all rfl) (fun u hu => List.all_eq_true.1 (flatF_one z) u hu) (by omega) rfl rfl (fun A7 c7 hA7 hc7 => ?_)
    rw [← flatF_snoc]
    refine WL.sub (H' := SlA (.slice A7 (i + 1) c7) 26 5 (i + 1) (flatF (fs ++ [z])) :: SlA (.slice A5 i c5) 26 5 i (flatF tn) :: F) (Sub.refl _) (fun w h => h.sel 3 [0, 2] rfl) ?_
    refine WL.sg rfl rfl ?_
    refine WL.nil ?_
    refine WC.sr ?_
    refine WL.mv rfl rfl ?_
    refine WL.mv rfl rfl ?_
    refine WL.call (vs := [_, _]) Try.call4 ⟨OV.p rfl, OV.p rfl, trivial⟩ (attach_PickA (lebs := lebs) hs.up.up hn (by omega) (fun leb => hD.anti fun x hx => (List.mem_filter.1 hx).1) (fun x hx => by have := hnums x hx; omega)) rfl ?_
    rintro _ _ ⟨B1, d1, rfl, rfl⟩
    refine WL.mv rfl rfl ?_
    refine WL.xt rfl rfl rfl ?_
    refine WL.xt rfl rfl rfl ?_
    refine WL.xt rfl rfl rfl ?_
    refine WL.sg rfl rfl ?_
    refine WL.sg rfl rfl ?_
    refine WL.sg rfl rfl ?_
    refine WL.nil ?_
    refine WC.sr ?_
    refine WL.mv rfl rfl ?_
    refine WL.mv rfl rfl ?_
    refine WL.call (vs := [_, _]) Try.call4 ⟨OV.p rfl, OV.p rfl, trivial⟩ (attach_PickA (lebs := lebs) (fs := tn) (Seq.up (Seq.up (SlA.seq (by rw [flatF_length, htl])))) htl (by omega) (fun leb => hD.anti fun x hx => htP.mem_iff.1 ((List.mem_filter.1 hx).1)) (fun x hx => by have := hnums x (htP.mem_iff.1 hx); omega)) rfl ?_
    rintro _ _ ⟨B2, d2, rfl, rfl⟩
    refine WL.mv rfl rfl ?_
    refine WL.xt rfl rfl rfl ?_
    refine WL.xt rfl rfl rfl ?_
    refine WL.xt rfl rfl rfl ?_
    refine WL.sg rfl rfl ?_
    refine WL.sg rfl rfl ?_
    refine WL.sg rfl rfl ?_
    refine WL.nil ?_
    refine WC.sr ?_
    refine WL.mv rfl rfl ?_
    refine WL.mv rfl rfl ?_
    refine WL.call (vs := [_, _]) Try.call4 ⟨OV.p rfl, OV.p rfl, trivial⟩ (attach_PickA (lebs := lebs) (fs := fs ++ [z]) (Seq.up (Seq.up (SlA.seq (by rw [flatF_length, List.length_append, hn]; rfl)))) (by rw [List.length_append, hn]; rfl) (by omega) (fun leb => by rw [hmf]; exact hD.anti fun x hx => (List.mem_filter.1 hx).1) (fun x hx => by
      rcases List.mem_append.1 hx with hx | hx
      · have := hnums x hx; omega
      · rw [List.mem_singleton.1 hx, hzn]; omega)) rfl ?_
    rintro _ _ ⟨B3, d3, rfl, rfl⟩
    have hl2 : pickL lebs tn = pickL lebs fs := by
      unfold pickL
      split
      · exact pick_perm _ htP hD
      · rfl
    have hl3 : pickL lebs (fs ++ [z]) = pickL lebs fs := by
      unfold pickL
      split
      · exact hmp
      · rfl
    have hn2 : pickN lebs tn = pickN lebs fs := by unfold pickN; rw [hnx1, hnx2]
    rw [hl2, hl3, hn2]
    refine WL.mv rfl rfl ?_
    refine WL.xt rfl rfl rfl ?_
    refine WL.xt rfl rfl rfl ?_
    refine WL.xt rfl rfl rfl ?_
    refine WL.sg rfl rfl ?_
    refine WL.sg rfl rfl ?_
    refine WL.sg rfl rfl ?_
    refine WL.nil ?_
    refine WC.seq ?_
    refine WC.sr ?_
    refine WL.mv rfl rfl ?_
    refine WL.val (V.neq (OV.p rfl) (OV.p rfl)) rfl ?_
    refine WL.nil ?_
    refine WC.cond rfl (fun hc5 => ?_) (fun hc5 => ?_)
    ·have h5 := hc5
     have hlb : ¬ (1 ≤ lebs ∧ lebs ≤ 64) := fun hh => by
       unfold pickE at h5
       rw [if_pos hh] at h5
       simp at h5
     have hp0 : pickL lebs fs = [] := if_neg hlb
     rw [hp0, List.length_nil]
     refine WC.sr ?_
     refine WL.call (vs := []) Try.call5 trivial (law10_awake _ _) rfl ?_
     rintro _ H0 ⟨rfl, h0⟩
     subst H0
     refine WL.mv rfl rfl ?_
     refine WL.valG (oj := _) rfl rfl rfl GC.t (V.move (OV.p rfl)) rfl ?_
     refine WL.valG (oj := _) rfl rfl rfl GC.t (V.move (OV.p rfl)) rfl ?_
     refine WL.valG (oj := _) rfl rfl rfl GC.t (V.eql (OV.g rfl id) (OV.g rfl id)) rfl ?_
     refine WL.val (V.pickAnd (OV.p rfl) (OV.g rfl id)) rfl ?_
     refine WL.mv rfl rfl ?_
     refine WL.valG (oj := _) rfl rfl rfl GC.t (V.move (OV.p rfl)) rfl ?_
     refine WL.valG (oj := _) rfl rfl rfl GC.t (V.move (OV.p rfl)) rfl ?_
     refine WL.valG (oj := _) rfl rfl rfl GC.t (V.eql (OV.g rfl id) (OV.g rfl id)) rfl ?_
     refine WL.val (V.pickAnd (OV.p rfl) (OV.g rfl id)) rfl ?_
     refine WL.mv rfl rfl ?_
     refine WL.valG (oj := _) rfl rfl rfl GC.t (V.move (OV.p rfl)) rfl ?_
     refine WL.valG (oj := _) rfl rfl rfl GC.t (V.len (t := 27) Try.runUnderlying27 (OV.g rfl id)) rfl ?_
     refine WL.valG (oj := _) rfl rfl rfl GC.t (V.move (OV.p rfl)) rfl ?_
     refine WL.valG (oj := _) rfl rfl rfl GC.t (V.len (t := 27) Try.runUnderlying27 (OV.g rfl id)) rfl ?_
     refine WL.valG (oj := _) rfl rfl rfl GC.t (V.addI (OV.g rfl id) (OV.g rfl id) (fun hc => by first | omega | (simp at hc; omega))) rfl ?_
     refine WL.valG (oj := _) rfl rfl rfl GC.t (V.move (OV.p rfl)) rfl ?_
     refine WL.valG (oj := _) rfl rfl rfl GC.t (V.len (t := 27) Try.runUnderlying27 (OV.g rfl id)) rfl ?_
     refine WL.valG (oj := _) rfl rfl rfl GC.t (V.addI (OV.g rfl id) (OV.g rfl id) (fun hc => by first | omega | (simp at hc; omega))) rfl ?_
     refine WL.valG (oj := _) rfl rfl rfl GC.t (V.eql (OV.g rfl id) (OV.p rfl)) rfl ?_
     refine WL.val (V.pickAnd (OV.p rfl) (OV.g rfl id)) rfl ?_
     refine WL.sg rfl rfl ?_
     refine WL.nil ?_
     refine WC.ret ?_
     exact BodyQ.ret (H' := F) (Res.tmp rfl rfl) (fun w h => by repeat (first | exact h | replace h := h.tail)) ⟨by simp, rfl⟩
    ·have h5 := hc5
     have hlb : 1 ≤ lebs ∧ lebs ≤ 64 := Decidable.byContradiction fun hh => by
       unfold pickE at h5
       rw [if_neg hh] at h5
       simp at h5
     have hp0 : (pickL lebs fs).length ≤ 64 := by
       unfold pickL
       rw [if_pos hlb, pickF_length]; omega
     have hn3 : pickN lebs (fs ++ [z]) = M + 2 := by
       unfold pickN
       rw [if_pos hlb, hnx3]; omega
     rw [hn3]
     refine WC.skip ?_
     refine WC.sr ?_
     refine WL.call (vs := []) Try.call5 trivial (law10_awake _ _) rfl ?_
     rintro _ H0 ⟨rfl, h0⟩
     subst H0
     refine WL.mv rfl rfl ?_
     refine WL.valG (oj := _) rfl rfl rfl GC.t (V.move (OV.p rfl)) rfl ?_
     refine WL.valG (oj := _) rfl rfl rfl GC.t (V.move (OV.p rfl)) rfl ?_
     refine WL.valG (oj := _) rfl rfl rfl GC.t (V.eql (OV.g rfl id) (OV.g rfl id)) rfl ?_
     refine WL.val (V.pickAnd (OV.p rfl) (OV.g rfl id)) rfl ?_
     refine WL.mv rfl rfl ?_
     refine WL.valG (oj := _) rfl rfl rfl GC.t (V.move (OV.p rfl)) rfl ?_
     refine WL.valG (oj := _) rfl rfl rfl GC.t (V.move (OV.p rfl)) rfl ?_
     refine WL.valG (oj := _) rfl rfl rfl GC.t (V.eql (OV.g rfl id) (OV.g rfl id)) rfl ?_
     refine WL.val (V.pickAnd (OV.p rfl) (OV.g rfl id)) rfl ?_
     refine WL.mv rfl rfl ?_
     refine WL.valG (oj := _) rfl rfl rfl GC.t (V.move (OV.p rfl)) rfl ?_
     refine WL.valG (oj := _) rfl rfl rfl GC.t (V.move (OV.p rfl)) rfl ?_
     refine WL.callG (oj := _) (vs := [_, _]) rfl rfl rfl GC.t Try.call6 ⟨OV.g rfl id, OV.g rfl id, trivial⟩ (fun hg => ref01_Ints (xs := pickL lebs fs) (ys := pickL lebs fs) _ _ (by repeat (first | exact SlA.seq (by rw [ints_length, Nat.mul_one]) | apply Seq.up)) (by repeat (first | exact SlA.seq (by rw [ints_length, Nat.mul_one]) | apply Seq.up)) (by omega)) rfl ?_
     refine WL.val (V.pickAnd (OV.p rfl) (OV.g rfl id)) rfl ?_
     refine WL.mv rfl rfl ?_
     refine WL.valG (oj := _) rfl rfl rfl GC.t (V.move (OV.p rfl)) rfl ?_
     refine WL.valG (oj := _) rfl rfl rfl GC.t (V.move (OV.p rfl)) rfl ?_
     refine WL.valG (oj := _) rfl rfl rfl GC.t (V.eql (OV.g rfl id) (OV.g rfl id)) rfl ?_
     refine WL.val (V.pickAnd (OV.p rfl) (OV.g rfl id)) rfl ?_
     refine WL.mv rfl rfl ?_
     refine WL.valG (oj := _) rfl rfl rfl GC.t (V.move (OV.p rfl)) rfl ?_
     refine WL.valG (oj := _) rfl rfl rfl GC.t (V.move (OV.p rfl)) rfl ?_
     refine WL.callG (oj := _) (vs := [_, _]) rfl rfl rfl GC.t Try.call6 ⟨OV.g rfl id, OV.g rfl id, trivial⟩ (fun hg => ref01_Ints (xs := pickL lebs fs) (ys := pickL lebs fs) _ _ (by repeat (first | exact SlA.seq (by rw [ints_length, Nat.mul_one]) | apply Seq.up)) (by repeat (first | exact SlA.seq (by rw [ints_length, Nat.mul_one]) | apply Seq.up)) (by omega)) rfl ?_
     refine WL.val (V.pickAnd (OV.p rfl) (OV.g rfl id)) rfl ?_
     refine WL.mv rfl rfl ?_
     refine WL.valG (oj := _) rfl rfl rfl GC.t (V.move (OV.p rfl)) rfl ?_
     refine WL.valG (oj := _) rfl rfl rfl GC.t (V.move (OV.p rfl)) rfl ?_
     refine WL.valG (oj := _) rfl rfl rfl GC.t (V.addI (OV.g rfl id) (OV.p rfl) (fun hc => by first | omega | (simp at hc; omega))) rfl ?_
     refine WL.valG (oj := _) rfl rfl rfl GC.t (V.eql (OV.g rfl id) (OV.g rfl id)) rfl ?_
     refine WL.val (V.pickAnd (OV.p rfl) (OV.g rfl id)) rfl ?_
     refine WL.sg rfl rfl ?_
     refine WL.nil ?_
     refine WC.ret ?_
     exact BodyQ.ret (H' := F) (Res.tmp rfl rfl) (fun w h => by repeat (first | exact h | replace h := h.tail)) ⟨by simp, rfl⟩
end
end Go.Proofs.Ytcmojpiokjhmhaa
