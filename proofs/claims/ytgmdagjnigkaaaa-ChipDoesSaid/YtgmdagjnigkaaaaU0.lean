/- casemateref01: At, All, Put, Turn. -/
import Derived.Test.YtgmdagjnigkaaaaC6
import Derived.Test.YtgmdagjnigkaaaaSlQ
namespace Go.Proofs.Ytgmdagjnigkaaaa
open Go.Sl Go.RowKit
set_option linter.unusedVariables false
set_option linter.unusedSimpArgs false
set_option maxRecDepth 20000

theorem wrapB {x : Int} (h : 0 ≤ x ∧ x < 256) : IntKind.u8.wrap x = x := by
  simp only [IntKind.wrap, IntKind.bits, IntKind.signed]; simp; omega
/-- Bit number k of a byte. -/
def bitK (x : Int) (k : Nat) : Int := x / 2 ^ k % 2
def bitOf (xs : List Int) (i : Nat) : Int := bitK (xs.getD (i / 8) 0) (i % 8)
def allI (xs : List Int) : List Int := (List.range (8 * xs.length)).map (bitOf xs)
def byteOf (l : List Int) (j : Nat) : Nat → Int
  | 0 => 0
  | m + 1 => byteOf l j m + 2 ^ m * l.getD (8 * j + m) 0
def putTo (l : List Int) (i : Nat) : List Int := (List.range ((l.length + 7) / 8)).map fun j => byteOf l j (min 8 (i - 8 * j))
def putI (l : List Int) : List Int := putTo l l.length
theorem bitK_bd {x : Int} {k : Nat} : 0 ≤ bitK x k ∧ bitK x k ≤ 1 := by unfold bitK; omega
theorem allI_length (xs : List Int) : (allI xs).length = 8 * xs.length := by simp [allI]
theorem allI_get {xs : List Int} {i : Nat} (h : i < 8 * xs.length) : (allI xs).getD i 0 = bitOf xs i := by
  simp [allI, List.getD, h]
theorem allI_bits (xs : List Int) : ∀ x ∈ allI xs, 0 ≤ x ∧ x ≤ 1 := fun x hx => by
  obtain ⟨i, _, rfl⟩ := List.mem_map.1 hx
  exact bitK_bd
theorem bits_getD {l : List Int} (hl : ∀ x ∈ l, 0 ≤ x ∧ x ≤ 1) (i : Nat) : 0 ≤ l.getD i 0 ∧ l.getD i 0 ≤ 1 := by
  by_cases h : i < l.length
  · have := hl l[i] (List.getElem_mem h)
    simpa [List.getD, h] using this
  · simp [List.getD, List.getElem?_eq_none (Nat.le_of_not_lt h)]
theorem byteOf_bd {l : List Int} (hl : ∀ x ∈ l, 0 ≤ x ∧ x ≤ 1) (j : Nat) : ∀ m, 0 ≤ byteOf l j m ∧ byteOf l j m + 1 ≤ 2 ^ m
  | 0 => by simp [byteOf]
  | m + 1 => by
    have ih := byteOf_bd hl j m
    have h1 := bits_getD hl (8 * j + m)
    have hp : (0 : Int) < 2 ^ m := Int.pow_pos (by decide)
    have h2 : 0 ≤ 2 ^ m * l.getD (8 * j + m) 0 := Int.mul_nonneg (by omega) h1.1
    have h3 : 2 ^ m * l.getD (8 * j + m) 0 ≤ 2 ^ m * 1 := Int.mul_le_mul_of_nonneg_left h1.2 (by omega)
    rw [byteOf, Int.pow_succ]
    omega
theorem putTo_length (l : List Int) (i : Nat) : (putTo l i).length = (l.length + 7) / 8 := by simp [putTo]
theorem putTo_get {l : List Int} {i j : Nat} (h : j < (l.length + 7) / 8) : (putTo l i).getD j 0 = byteOf l j (min 8 (i - 8 * j)) := by
  simp [putTo, List.getD, h]
theorem putTo_succ {l : List Int} {i : Nat} (h : i < l.length) : putTo l (i + 1) = (putTo l i).set (i / 8) (byteOf l (i / 8) (i % 8) + 2 ^ (i % 8) * l.getD i 0) := by
  apply List.ext_getElem
  · simp [putTo_length]
  · intro j h1 h2
    rw [putTo_length] at h1
    rw [List.getElem_set]
    have e1 : ∀ k, (putTo l k)[j]'(by rw [putTo_length]; exact h1) = byteOf l j (min 8 (k - 8 * j)) := fun k => by simp [putTo]
    rw [e1, e1]
    by_cases hj : i / 8 = j
    · rw [if_pos hj]
      subst hj
      rw [show min 8 (i + 1 - 8 * (i / 8)) = i % 8 + 1 by omega, byteOf, show 8 * (i / 8) + i % 8 = i by omega]
    · rw [if_neg hj]
      rcases Nat.lt_or_ge (i / 8) j with h | h
      · rw [show i + 1 - 8 * j = 0 by omega, show i - 8 * j = 0 by omega]
      · rw [show min 8 (i + 1 - 8 * j) = 8 by omega, show min 8 (i - 8 * j) = 8 by omega]
theorem byte_back {x : Int} (hx : 0 ≤ x ∧ x < 256) {l : List Int} {j : Nat} (hl : ∀ m, m < 8 → l.getD (8 * j + m) 0 = bitK x m) : byteOf l j 8 = x := by
  have h : ((List.range 256).all fun a => decide (bitK (a : Int) 0 + 2 * bitK (a : Int) 1 + 4 * bitK (a : Int) 2 + 8 * bitK (a : Int) 3 + 16 * bitK (a : Int) 4 + 32 * bitK (a : Int) 5 + 64 * bitK (a : Int) 6 + 128 * bitK (a : Int) 7 = (a : Int))) = true := by kernel_rfl
  have h1 := of_decide_eq_true (List.all_eq_true.1 h x.toNat (List.mem_range.2 (by omega)))
  rw [show ((x.toNat : Nat) : Int) = x by omega] at h1
  simp only [byteOf]
  rw [hl 0 (by decide), hl 1 (by decide), hl 2 (by decide), hl 3 (by decide), hl 4 (by decide), hl 5 (by decide), hl 6 (by decide), hl 7 (by decide)]
  omega
theorem put_all {xs : List Int} (hx : IsBytes xs) : putI (allI xs) = xs := by
  apply List.ext_getElem
  · unfold putI; rw [putTo_length, allI_length]; omega
  · intro j h1 h2
    have e1 : (putI (allI xs))[j] = byteOf (allI xs) j 8 := by
      unfold putI
      have : (putTo (allI xs) (allI xs).length)[j]'h1 = byteOf (allI xs) j (min 8 ((allI xs).length - 8 * j)) := by simp [putTo]
      rw [this, allI_length]
      congr 1; omega
    rw [e1]
    refine byte_back (hx _ (List.getElem_mem h2)) (fun m hm => ?_)
    rw [allI_get (by omega)]
    unfold bitOf
    rw [show (8 * j + m) / 8 = j by omega, show (8 * j + m) % 8 = m by omega]
    simp [List.getD, h2]
theorem flip_bit {x : Int} (hx : 0 ≤ x ∧ x < 256) {k m : Nat} (hk : k < 8) (hm : m < 8) : bitK (flip8 x (k : Int)) m = if k = m then 1 - bitK x m else bitK x m := by
  have h : ((List.range 256).all fun a => (List.range 8).all fun k => (List.range 8).all fun m => decide (bitK (flip8 (a : Int) (k : Int)) m = if k = m then 1 - bitK (a : Int) m else bitK (a : Int) m)) = true := by kernel_rfl
  have h1 := List.all_eq_true.1 h x.toNat (List.mem_range.2 (by omega))
  have h2 := List.all_eq_true.1 h1 k (List.mem_range.2 hk)
  have h3 := of_decide_eq_true (List.all_eq_true.1 h2 m (List.mem_range.2 hm))
  rwa [show ((x.toNat : Nat) : Int) = x by omega] at h3
theorem all_turn1 {xs : List Int} (hx : IsBytes xs) {p : Nat} (hp : p < 8 * xs.length) : (allI xs).set p (1 - (allI xs).getD p 0) = allI (turn1 xs (p : Int)) := by
  apply List.ext_getElem
  · simp [allI_length, turn1_length]
  · intro i h1 h2
    rw [List.length_set, allI_length] at h1
    have e : ∀ (ys : List Int) (h : i < (allI ys).length), (allI ys)[i] = bitOf ys i := fun ys h => by simp [allI]
    rw [List.getElem_set, e, e, allI_get hp]
    unfold bitOf turn1
    have hg := hx.at_ (p / 8)
    rw [show ((p : Int) / 8).toNat = p / 8 by omega, show (p : Int) % 8 = ((p % 8 : Nat) : Int) by omega]
    have hs : ∀ v : Int, (xs.set (p / 8) v).getD (i / 8) 0 = if p / 8 = i / 8 then v else xs.getD (i / 8) 0 := fun v => by
      simp only [List.getD, List.getElem?_set]
      by_cases h : p / 8 = i / 8
      · rw [if_pos h, if_pos h, if_pos (by omega)]; rfl
      · rw [if_neg h, if_neg h]
    rw [hs]
    by_cases h8 : p / 8 = i / 8
    · rw [if_pos h8, flip_bit hg (by omega) (by omega)]
      by_cases hpi : p = i
      · subst hpi; rw [if_pos rfl, if_pos rfl]
      · rw [if_neg hpi, if_neg (by omega), h8]
    · rw [if_neg h8, if_neg (by intro h; subst h; exact h8 rfl)]

section
variable {K : World} {F : List Assn}
theorem ref01_At {A : Option Addr} {m cap : Nat} {xs : List Int} (hs : Seq K F A m 1 (ints .u8 xs)) (hx : IsBytes xs) {i : Nat} (hi : i < 8 * m) (hm : m ≤ 1000000) :
    Tells Try.prog 105 #[.slice A m cap, .int .i64 (i : Int)] K F (.int .i64 (bitOf xs i)) := by
  have hl : xs.length = m := by simpa [ints] using hs.len
  have hrd : Rd K F (A.map (·.add (((i : Int) / 8).toNat * 1))) (.int .u8 (xs.getD (i / 8) 0)) := by
    have := Seq.int_rd hs (j := (i : Int) / 8) (by omega)
    rwa [show ((i : Int) / 8).toNat = i / 8 by omega] at this ⊢
  have hb := hx.at_ (i / 8)
  obtain ⟨x, hxv⟩ : ∃ x, x = xs.getD (i / 8) 0 := ⟨_, rfl⟩
  rw [← hxv] at hrd hb
  have hres : bitOf xs i = bitK x (i % 8) := by unfold bitOf; rw [hxv]
  rw [hres]
  obtain ⟨r, hr⟩ : ∃ r, r = i % 8 := ⟨_, rfl⟩
  have hri : (i : Int).tmod 8 = (r : Int) := by rw [Int.tmod_eq_emod_of_nonneg (by omega)]; omega
  rw [← hr]
  refine Does.enter Try.func105 rfl Try.ntmps105 rfl ?_
  simp only [env0, Nat.reduceAdd]
  refine WC.seq ?_
  refine WC.region ?_
  refine WL.val (V.assign (OV.p rfl)) rfl ?_
  refine WL.nil ?_
  refine WC.seq ?_
  refine WC.region ?_
  refine WL.val (V.move (OV.p rfl)) rfl ?_
  refine WL.val (V.move (OV.p rfl)) rfl ?_
  refine WL.val (V.quoI (OV.p rfl) (OV.p rfl) (fun hc => by first | omega | (simp at hc; omega))) rfl ?_
  refine WL.val (V.idxS st29 (OV.p rfl) (OV.p rfl) (fun hc => by omega) (fun hc => hrd)) rfl ?_
  refine WL.val (V.load Try.isAgg5 (OV.p rfl) (fun hc => hrd)) rfl ?_
  refine WL.val (V.convW Try.runUnderlying5 Try.runUnderlying3 (OV.p rfl) (fun _ => wrap_i64 (by omega))) rfl ?_
  refine WL.val (V.assign (OV.p rfl)) rfl ?_
  refine WL.nil ?_
  refine WC.seq ?_
  refine WC.seq ?_
  refine WC.region ?_
  refine WL.val (V.assign (OV.p rfl)) rfl ?_
  refine WL.nil ?_
  refine WC.block ?_
  refine WC.loop (σ := Nat) (fun k => [(1, .int .i64 (i : Int)), (5, .int .i64 (x / 2 ^ k)), (6, .int .i64 (k : Int))]) (fun _ => F) (fun k => k ≤ r) (fun k => r - k) 0 (Nat.zero_le _) (.cons rfl (.cons (look_eq rfl (by simp)) (.cons rfl (.nil _)))) (fun w h => h) ?_
  rintro k hk
  have hxk : 0 ≤ x / 2 ^ k ∧ x / 2 ^ k ≤ 255 := ⟨Int.ediv_nonneg hb.1 (Int.le_of_lt (Int.pow_pos (by decide))), Int.le_trans (Int.ediv_le_self _ hb.1) (by omega)⟩
  refine WC.seq ?_
  refine WC.seq ?_
  refine WC.region ?_
  refine WL.val (V.move (OV.p rfl)) rfl ?_
  refine WL.val (V.move (OV.p rfl)) rfl ?_
  refine WL.val (V.val_eq (v' := .int .i64 (r : Int)) (V.remI (OV.p rfl) (OV.p rfl) (fun _ => by omega)) (fun _ => by rw [hr]; simp)) rfl ?_
  refine WL.val (V.lss (OV.p rfl) (OV.p rfl)) rfl ?_
  refine WL.nil ?_
  refine WC.cond rfl (fun hc0 => ?_) (fun hc0 => ?_)
  · simp only [decide_eq_true_eq, decide_eq_false_iff_not] at hc0
    refine WC.skip ?_
    refine WC.seq ?_
    refine WC.block ?_
    refine WC.region ?_
    refine WL.val (V.move (OV.p rfl)) rfl ?_
    refine WL.val (V.quoI (OV.p rfl) (OV.p rfl) (fun hc => by first | omega | (simp at hc; omega))) rfl ?_
    refine WL.val (V.assign (OV.p rfl)) rfl ?_
    refine WL.nil ?_
    refine WC.region ?_
    refine WL.val (V.move (OV.p rfl)) rfl ?_
    refine WL.val (V.addI (OV.p rfl) (OV.p rfl) (fun hc => by first | omega | (simp at hc; omega))) rfl ?_
    refine WL.val (V.assign (OV.p rfl)) rfl ?_
    refine WL.nil ?_
    refine ⟨rfl, ?_⟩
    exact ⟨k + 1, (by show k + 1 ≤ r; omega), (by show r - (k + 1) < r - k; omega), .cons rfl (.cons (look_eq rfl (by rw [Int.pow_succ, ← Int.ediv_ediv_of_nonneg (Int.le_of_lt (Int.pow_pos (by decide)))])) (.cons (look_eq rfl (by simp)) (.nil _))), fun w h => h⟩
  · simp only [decide_eq_true_eq, decide_eq_false_iff_not] at hc0
    refine WC.exit ?_
    refine WC.seq ?_
    refine WC.region ?_
    refine WL.val (V.move (OV.p rfl)) rfl ?_
    refine WL.val (V.remI (OV.p rfl) (OV.p rfl) (fun hc => by first | omega | (simp at hc; omega))) rfl ?_
    refine WL.val (V.assign (OV.p rfl)) rfl ?_
    refine WL.nil ?_
    refine WC.ret ?_
    obtain rfl : k = r := by omega
    exact BodyQ.ret (H' := F) (Res.tmp rfl rfl) (fun w h => h) ⟨rfl, rfl⟩
theorem ref01_All {A : Option Addr} {m cap : Nat} {xs : List Int} (hs : Seq K F A m 1 (ints .u8 xs)) (hx : IsBytes xs) (hm : m ≤ 1000000) :
    Does Try.prog 89 #[.slice A m cap] K F (fun v H' => ∃ A' c', v = .slice A' (8 * m) c' ∧ H' = SlA (.slice A' (8 * m) c') 3 1 (8 * m) (ints .i64 (allI xs)) :: F) := by
  have hl : xs.length = m := by simpa [ints] using hs.len
  have hal := allI_length xs
  rw [hl] at hal
  refine Does.enter Try.func89 rfl Try.ntmps89 rfl ?_
  simp only [env0, Nat.reduceAdd]
  refine WC.seq ?_
  refine WC.region ?_
  refine WL.val (V.assign (OV.p rfl)) rfl ?_
  refine WL.nil ?_
  refine WC.seq ?_
  refine WC.region ?_
  refine WL.val (V.assign (OV.p rfl)) rfl ?_
  refine WL.nil ?_
  refine WC.seq ?_
  refine WC.seq ?_
  refine WC.region ?_
  refine WL.val (V.assign (OV.p rfl)) rfl ?_
  refine WL.nil ?_
  refine WC.block ?_
  refine WC.loop (σ := Nat × Option Addr × Nat) (fun x => [(0, .slice A m cap), (3, .slice x.2.1 x.1 x.2.2), (4, .int .i64 (x.1 : Int))]) (fun x => SlA (.slice x.2.1 x.1 x.2.2) 3 1 x.1 (ints .i64 ((allI xs).take x.1)) :: F) (fun x => x.1 ≤ 8 * m) (fun x => 8 * m - x.1) (0, none, 0) (Nat.zero_le _) (.cons rfl (.cons rfl (.cons rfl (.nil _)))) (fun w h => Sat.slNil h 3 1) ?_
  rintro ⟨j, Ao, co⟩ hj
  dsimp only at hj ⊢
  refine WC.seq ?_
  refine WC.seq ?_
  refine WC.region ?_
  refine WL.val (V.move (OV.p rfl)) rfl ?_
  refine WL.val (V.move (OV.p rfl)) rfl ?_
  refine WL.val (V.len (t := 29) Try.runUnderlying29 (OV.p rfl)) rfl ?_
  refine WL.val (V.mulI (OV.p rfl) (OV.p rfl) (fun hc => by first | omega | (simp at hc; omega))) rfl ?_
  refine WL.val (V.lss (OV.p rfl) (OV.p rfl)) rfl ?_
  refine WL.nil ?_
  refine WC.cond rfl (fun hc0 => ?_) (fun hc0 => ?_)
  · simp only [decide_eq_true_eq, decide_eq_false_iff_not] at hc0
    refine WC.skip ?_
    refine WC.seq ?_
    refine WC.block ?_
    refine WC.region ?_
    refine WL.val (V.move (OV.p rfl)) rfl ?_
    refine WL.val (V.move (OV.p rfl)) rfl ?_
    refine WL.val (V.move (OV.p rfl)) rfl ?_
    refine WL.call (vs := [_, _]) Try.call105 ⟨OV.p rfl, OV.p rfl, trivial⟩ (ref01_At (hs.up) hx (i := j) (by omega) hm) rfl ?_
    rintro _ H0 ⟨rfl, h0⟩
    subst H0
    refine WL.buildSlice (E := 3) (cs := [_]) (vs := [(0, _)]) ⟨OV.p rfl, trivial⟩ rfl (bsl40_1_0 _) rfl (fun b16 => ?_)
    refine WL.sub (Sub.refl _) (fun w h => h.p1) ?_
    refine WL.append (m := j) (q := 1) Try.underlying40 el3 (OV.p rfl) (OV.p rfl) (Seq.all rfl) (by intro u hu; rw [List.mem_singleton.1 hu]; rfl) (by omega) rfl rfl (fun A' c' hA' hc' => ?_)
    refine WL.val (V.assign (OV.p rfl)) rfl ?_
    refine WL.nil ?_
    refine WC.region ?_
    refine WL.val (V.move (OV.p rfl)) rfl ?_
    refine WL.val (V.addI (OV.p rfl) (OV.p rfl) (fun hc => by first | omega | (simp at hc; omega))) rfl ?_
    refine WL.val (V.assign (OV.p rfl)) rfl ?_
    refine WL.nil ?_
    refine ⟨rfl, ?_⟩
    refine ⟨(j + 1, A', c'), (by show j + 1 ≤ 8 * m; omega), (by show 8 * m - (j + 1) < 8 * m - j; omega), .cons rfl (.cons rfl (.cons (look_eq rfl (by simp)) (.nil _))), fun w h => ?_⟩
    have h' := h.sel 2 [0] rfl
    have he : (allI xs).take (j + 1) = (allI xs).take j ++ [bitOf xs j] := by
      rw [List.take_add_one, ← allI_get (xs := xs) (i := j) (by omega), List.getElem?_eq_getElem (by omega)]
      simp [List.getD, show j < (allI xs).length by omega]
    dsimp only
    rw [he, ints_append]
    exact h'
  · simp only [decide_eq_true_eq, decide_eq_false_iff_not] at hc0
    refine WC.exit ?_
    refine WC.seq ?_
    refine WC.region ?_
    refine WL.val (V.move (OV.p rfl)) rfl ?_
    refine WL.val (V.assign (OV.p rfl)) rfl ?_
    refine WL.nil ?_
    refine WC.ret ?_
    obtain rfl : j = 8 * m := by omega
    refine BodyQ.ret (H' := SlA (.slice Ao (8 * m) co) 3 1 (8 * m) (ints .i64 (allI xs)) :: F) (Res.tmp rfl rfl) (fun w h => ?_) ⟨Ao, co, rfl, rfl⟩
    rw [List.take_of_length_le (by omega)] at h
    exact h
theorem ref01_Put {A : Option Addr} {m cap : Nat} {l : List Int} (hs : Seq K F A m 1 (ints .i64 l)) (hb : ∀ x ∈ l, 0 ≤ x ∧ x ≤ 1) (hm : m ≤ 8000000) :
    Does Try.prog 90 #[.slice A m cap] K F (fun v H' => ∃ g, v = .slice (some ⟨g, 0, none⟩) ((m + 7) / 8) ((m + 7) / 8) ∧ H' = Cells g 5 (ints .u8 (putI l)) :: F) := by
  have hl : l.length = m := by simpa [ints] using hs.len
  refine Does.enter Try.func90 rfl Try.ntmps90 rfl ?_
  simp only [env0, Nat.reduceAdd]
  refine WC.seq ?_
  refine WC.region ?_
  refine WL.val (V.assign (OV.p rfl)) rfl ?_
  refine WL.nil ?_
  refine WC.seq ?_
  refine WC.region ?_
  refine WL.val (V.move (OV.p rfl)) rfl ?_
  refine WL.val (V.len (t := 40) Try.runUnderlying40 (OV.p rfl)) rfl ?_
  refine WL.val (V.addI (OV.p rfl) (OV.p rfl) (fun hc => by first | omega | (simp at hc; omega))) rfl ?_
  refine WL.val (V.quoI (OV.p rfl) (OV.p rfl) (fun hc => by first | omega | (simp at hc; omega))) rfl ?_
  refine WL.make1 (m := (m + 7) / 8) Try.underlying29 el5 (OV.p rfl) (OV.p rfl) (by omega) (by omega) (by omega) rfl rfl rfl (fun b11 => ?_)
  refine WL.val (V.assign (OV.p rfl)) rfl ?_
  refine WL.nil ?_
  refine WC.seq ?_
  refine WC.seq ?_
  refine WC.region ?_
  refine WL.val (V.assign (OV.p rfl)) rfl ?_
  refine WL.nil ?_
  refine WC.block ?_
  refine WC.loop (σ := Nat) (fun i => [(0, .slice A m cap), (3, .slice (some ⟨b11, 0, none⟩) ((m + 7) / 8) ((m + 7) / 8)), (4, .int .i64 (i : Int))]) (fun i => Cells b11 5 (ints .u8 (putTo l i)) :: F) (fun i => i ≤ m) (fun i => m - i) 0 (Nat.zero_le _) (.cons rfl (.cons rfl (.cons rfl (.nil _)))) (fun w h => Sat.cells_eq h (by
    have : putTo l 0 = List.replicate ((m + 7) / 8) 0 := by
      apply List.ext_getElem
      · rw [putTo_length, List.length_replicate, hl]
      · intro j h1 h2; simp [putTo, byteOf]
    rw [this]; simp [ints])) ?_
  rintro i hi
  refine WC.seq ?_
  refine WC.seq ?_
  refine WC.region ?_
  refine WL.val (V.move (OV.p rfl)) rfl ?_
  refine WL.val (V.move (OV.p rfl)) rfl ?_
  refine WL.val (V.len (t := 40) Try.runUnderlying40 (OV.p rfl)) rfl ?_
  refine WL.val (V.lss (OV.p rfl) (OV.p rfl)) rfl ?_
  refine WL.nil ?_
  refine WC.cond rfl (fun hc0 => ?_) (fun hc0 => ?_)
  · simp only [decide_eq_true_eq, decide_eq_false_iff_not] at hc0
    refine WC.skip ?_
    refine WC.seq ?_
    refine WC.block ?_
    refine WC.seq ?_
    have him : i < m := by omega
    have hri : (i : Int).tmod 8 = ((i % 8 : Nat) : Int) := by rw [Int.tmod_eq_emod_of_nonneg (by omega)]; omega
    refine WC.region ?_
    refine WL.val (V.assign (OV.p rfl)) rfl ?_
    refine WL.nil ?_
    refine WC.seq ?_
    refine WC.seq ?_
    refine WC.region ?_
    refine WL.val (V.assign (OV.p rfl)) rfl ?_
    refine WL.nil ?_
    refine WC.block ?_
    refine WC.loop (σ := Nat) (fun k => [(0, .slice A m cap), (3, .slice (some ⟨b11, 0, none⟩) ((m + 7) / 8) ((m + 7) / 8)), (4, .int .i64 (i : Int)), (5, .int .i64 (2 ^ k)), (6, .int .i64 (k : Int))]) (fun _ => Cells b11 5 (ints .u8 (putTo l i)) :: F) (fun k => k ≤ i % 8) (fun k => i % 8 - k) 0 (Nat.zero_le _) (.cons rfl (.cons rfl (.cons rfl (.cons rfl (.cons rfl (.nil _)))))) (fun w h => h) ?_
    rintro k hk
    have hpk : (0 : Int) < 2 ^ k ∧ (2 : Int) ^ k ≤ 128 := by
      have : ∀ k, k ≤ 7 → (0 : Int) < 2 ^ k ∧ (2 : Int) ^ k ≤ 128 := by decide
      exact this k (by omega)
    refine WC.seq ?_
    refine WC.seq ?_
    refine WC.region ?_
    refine WL.val (V.move (OV.p rfl)) rfl ?_
    refine WL.val (V.move (OV.p rfl)) rfl ?_
    refine WL.val (V.val_eq (v' := .int .i64 ((i % 8 : Nat) : Int)) (V.remI (OV.p rfl) (OV.p rfl) (fun _ => by omega)) (fun _ => by simp)) rfl ?_
    refine WL.val (V.lss (OV.p rfl) (OV.p rfl)) rfl ?_
    refine WL.nil ?_
    refine WC.cond rfl (fun hc1 => ?_) (fun hc1 => ?_)
    · simp only [decide_eq_true_eq, decide_eq_false_iff_not] at hc1
      refine WC.skip ?_
      refine WC.seq ?_
      refine WC.block ?_
      refine WC.region ?_
      refine WL.val (V.move (OV.p rfl)) rfl ?_
      refine WL.val (V.mulI (OV.p rfl) (OV.p rfl) (fun _ => by omega)) rfl ?_
      refine WL.val (V.assign (OV.p rfl)) rfl ?_
      refine WL.nil ?_
      refine WC.region ?_
      refine WL.val (V.move (OV.p rfl)) rfl ?_
      refine WL.val (V.addI (OV.p rfl) (OV.p rfl) (fun hc => by first | omega | (simp at hc; omega))) rfl ?_
      refine WL.val (V.assign (OV.p rfl)) rfl ?_
      refine WL.nil ?_
      refine ⟨rfl, ?_⟩
      exact ⟨k + 1, (by show k + 1 ≤ i % 8; omega), (by show i % 8 - (k + 1) < i % 8 - k; omega), .cons rfl (.cons rfl (.cons rfl (.cons (look_eq rfl (by rw [Int.pow_succ, Int.mul_comm])) (.cons (look_eq rfl (by simp)) (.nil _))))), fun w h => h⟩
    · simp only [decide_eq_true_eq, decide_eq_false_iff_not] at hc1
      refine WC.exit ?_
      obtain rfl : k = i % 8 := by omega
      have hbi := bits_getD hb i
      have hrd : Rd K F (A.map (·.add ((i : Int).toNat * 1))) (.int .i64 (l.getD i 0)) := by
        have := Seq.int_rd hs (j := (i : Int)) (by omega)
        rwa [show (i : Int).toNat = i by omega] at this ⊢
      obtain ⟨o, ho⟩ : ∃ o, o = putTo l i := ⟨_, rfl⟩
      have hol : o.length = (m + 7) / 8 := by rw [ho, putTo_length, hl]
      have hob : o.getD (i / 8) 0 = byteOf l (i / 8) (i % 8) := by rw [ho, putTo_get (by omega)]; congr 1; omega
      have hbb := byteOf_bd hb (i / 8) (i % 8)
      have hb2 := byteOf_bd hb (i / 8) (i % 8 + 1)
      rw [byteOf, show 8 * (i / 8) + i % 8 = i by omega] at hb2
      have hp8 : (2 : Int) ^ (i % 8 + 1) ≤ 256 := by
        have : ∀ k, k ≤ 7 → (2 : Int) ^ (k + 1) ≤ 256 := by decide
        exact this _ (by omega)
      have hw0 : 0 ≤ 2 ^ (i % 8) * l.getD i 0 := Int.mul_nonneg (by omega) hbi.1
      rw [← ho]
      have hgo : (ints .u8 o)[0 + ((i : Int) / 8).toNat * 1]? = some (.int .u8 (byteOf l (i / 8) (i % 8))) := by
        rw [show 0 + ((i : Int) / 8).toNat * 1 = i / 8 by omega, ← hob]
        exact ints_getD _ _ (by omega)
      refine WC.regionA F (by kernel_rfl) ?_
      refine WA.take 0 (fun w h => by repeat (first | exact h | replace h := h.tail)) rfl (by kernel_rfl) (by kernel_rfl) (by kernel_rfl) (fun _ _ _ h => h) (V.move (OV.p rfl)) rfl ?_
      refine WA.take 1 (fun w h => by repeat (first | exact h | replace h := h.tail)) rfl (by kernel_rfl) (by kernel_rfl) (by kernel_rfl) (fun _ _ _ h => h) (V.move (OV.p rfl)) rfl ?_
      refine WA.take 2 (fun w h => by repeat (first | exact h | replace h := h.tail)) rfl (by kernel_rfl) (by kernel_rfl) (by kernel_rfl) (fun _ _ _ h => h) (V.quoI (OV.p rfl) (OV.p rfl) (fun hc => by first | omega | (simp at hc; omega))) rfl ?_
      refine WA.take 3 (fun w h => by repeat (first | exact h | replace h := h.tail)) rfl (by kernel_rfl) (by kernel_rfl) (by kernel_rfl) (fun _ _ _ h => h) (V.move (OV.p rfl)) rfl ?_
      refine WA.take 4 (fun w h => by repeat (first | exact h | replace h := h.tail)) rfl (by kernel_rfl) (by kernel_rfl) (by kernel_rfl) (fun _ _ _ h => h) (V.move (OV.p rfl)) rfl ?_
      refine WA.take 5 (fun w h => by repeat (first | exact h | replace h := h.tail)) rfl (by kernel_rfl) (by kernel_rfl) (by kernel_rfl) (fun _ _ _ h => h) (V.quoI (OV.p rfl) (OV.p rfl) (fun hc => by first | omega | (simp at hc; omega))) rfl ?_
      refine WA.take 6 (fun w h => by repeat (first | exact h | replace h := h.tail)) rfl (by kernel_rfl) (by kernel_rfl) (by kernel_rfl) (fun _ _ _ h => h) (V.idxB st29 (OV.p rfl) (OV.p rfl) (fun hc => by omega)) rfl ?_
      refine WA.take 8 (fun w h => by repeat (first | exact h | replace h := h.tail)) rfl (by kernel_rfl) (by kernel_rfl) (by kernel_rfl) (fun _ _ _ h => h) (V.move (OV.p rfl)) rfl ?_
      refine WA.take 9 (fun w h => by repeat (first | exact h | replace h := h.tail)) rfl (by kernel_rfl) (by kernel_rfl) (by kernel_rfl) (fun _ _ _ h => h) (V.move (OV.p rfl)) rfl ?_
      refine WA.take 10 (fun w h => by repeat (first | exact h | replace h := h.tail)) rfl (by kernel_rfl) (by kernel_rfl) (by kernel_rfl) (fun _ _ _ h => h) (V.move (OV.p rfl)) rfl ?_
      refine WA.take 11 (fun w h => by repeat (first | exact h | replace h := h.tail)) rfl (by kernel_rfl) (by kernel_rfl) (by kernel_rfl) (fun _ _ _ h => h) (V.idxS st40 (OV.p rfl) (OV.p rfl) (fun hc => by omega) (fun hc => hrd)) rfl ?_
      refine WA.take 12 (fun w h => by repeat (first | exact h | replace h := h.tail)) rfl (by kernel_rfl) (by kernel_rfl) (by kernel_rfl) (fun _ _ _ h => h) (V.load Try.isAgg3 (OV.p rfl) (fun hc => hrd)) rfl ?_
      refine WA.take 13 (fun w h => by repeat (first | exact h | replace h := h.tail)) rfl (by kernel_rfl) (by kernel_rfl) (by kernel_rfl) (fun _ _ _ h => h) (V.mulI (OV.p rfl) (OV.p rfl) (fun _ => by omega)) rfl ?_
      refine WA.take 14 (fun w h => by repeat (first | exact h | replace h := h.tail)) rfl (by kernel_rfl) (by kernel_rfl) (by kernel_rfl) (fun _ _ _ h => h) (V.convW Try.runUnderlying3 Try.runUnderlying5 (OV.p rfl) (fun _ => wrapB (by omega))) rfl ?_
      refine WA.one (i := 7) (fun w h => by repeat (first | exact h | replace h := h.tail)) (by kernel_rfl) rfl ?_
      refine WL.val (V.load Try.isAgg5 (OV.p rfl) (fun hc => Rd.here hgo)) rfl ?_
      refine WL.nil ?_
      refine WA.take 15 (fun w h => by repeat (first | exact h | replace h := h.tail)) rfl (by kernel_rfl) (by kernel_rfl) (by kernel_rfl) (fun _ _ _ h => h) (V.val_eq (v' := .int .u8 (byteOf l (i / 8) (i % 8) + 2 ^ (i % 8) * l.getD i 0)) (V.add (OV.p rfl) (OV.p rfl)) (fun _ => by rw [wrapB (by omega)])) rfl ?_
      refine WA.take 16 (fun w h => by repeat (first | exact h | replace h := h.tail)) rfl (by kernel_rfl) (by kernel_rfl) (by kernel_rfl) (fun _ _ _ h => h) (V.idxB st29 (OV.p rfl) (OV.p rfl) (fun hc => by omega)) rfl ?_
      refine WA.one (i := 17) (fun w h => by repeat (first | exact h | replace h := h.tail)) (by kernel_rfl) rfl ?_
      refine WL.store (cs := [_]) Try.sizeOf5 (OV.p rfl) (OV.p rfl) rfl rfl rfl (Upd.at_ (by simp [ints]; omega)) ?_
      refine WL.nil ?_
      refine WA.done (by kernel_rfl) (fun w h => by repeat (first | exact h | replace h := h.tail)) ?_
      refine WC.region ?_
      refine WL.val (V.move (OV.p rfl)) rfl ?_
      refine WL.val (V.addI (OV.p rfl) (OV.p rfl) (fun hc => by first | omega | (simp at hc; omega))) rfl ?_
      refine WL.val (V.assign (OV.p rfl)) rfl ?_
      refine WL.nil ?_
      refine ⟨rfl, ?_⟩
      refine ⟨i + 1, (by show i + 1 ≤ m; omega), (by show m - (i + 1) < m - i; omega), .cons rfl (.cons rfl (.cons (look_eq rfl (by simp)) (.nil _))), fun w h => Sat.cells_eq h ?_⟩
      rw [putTo_succ (by omega), ← ho, show 0 + ((i : Int) / 8).toNat * 1 = i / 8 by omega]
      simp [ints, List.map_set]
  · simp only [decide_eq_true_eq, decide_eq_false_iff_not] at hc0
    refine WC.exit ?_
    refine WC.seq ?_
    refine WC.region ?_
    refine WL.val (V.move (OV.p rfl)) rfl ?_
    refine WL.val (V.assign (OV.p rfl)) rfl ?_
    refine WL.nil ?_
    refine WC.ret ?_
    obtain rfl : i = m := by omega
    exact BodyQ.ret (H' := Cells b11 _ _ :: F) (Res.tmp rfl rfl) (fun w h => Sat.cells_eq h (by unfold putI; rw [hl])) ⟨b11, rfl, rfl⟩
theorem slA_row1 {A : Option Addr} {m cap E : Nat} {cs : List Value} (hm : 0 < m) : ∀ w, Sat K w (SlA (.slice A m cap) E 1 m cs :: F) → ∃ x : Nat × List Value, (A = some ⟨x.1, 0, none⟩ ∧ (cs ++ x.2).length = cap ∧ cap ≤ maxLen) ∧ Sat K w (Cells x.1 E (cs ++ x.2) :: F) := fun w hw => by
  cases A with
  | none => have := (SlA.nilCs hw).1; omega
  | some a =>
    obtain ⟨g, rfl⟩ := SlA.addr hw
    obtain ⟨r, ⟨h1, h2, h3, h4⟩, h5⟩ := Sat.slCells hw
    exact ⟨(g, r), ⟨rfl, by show (cs ++ r).length = cap; omega, h4⟩, h5⟩
theorem ref01_Turn {A B : Option Addr} {m q cap cap' : Nat} {xs l : List Int} (hs : Seq K F A m 1 (ints .u8 xs)) (hx : IsBytes xs) (hq : Seq K F B q 1 (ints .i64 l)) (hi : ∀ i ∈ l, 0 ≤ i ∧ i < 8 * (xs.length : Int)) (hm : m ≤ 1000000) (hqm : q ≤ maxLen) :
    Does Try.prog 76 #[.slice A m cap, .slice B q cap'] K F (fun v H' => ∃ g, v = .slice (some ⟨g, 0, none⟩) m m ∧ H' = Cells g 5 (ints .u8 (turn xs l)) :: F) := by
  have hl : xs.length = m := by simpa [ints] using hs.len
  have hql : l.length = q := by simpa [ints] using hq.len
  have hq' : q ≤ 9223372036854775807 := by simpa [maxLen] using hqm
  refine Does.enter Try.func76 rfl Try.ntmps76 rfl ?_
  simp only [env0, Nat.reduceAdd]
  refine WC.seq ?_
  refine WC.region ?_
  refine WL.val (V.assign (OV.p rfl)) rfl ?_
  refine WL.nil ?_
  refine WC.seq ?_
  refine WC.region ?_
  refine WL.val (V.move (OV.p rfl)) rfl ?_
  refine WL.call (vs := [_]) Try.call89 ⟨OV.p rfl, trivial⟩ (ref01_All hs hx hm) rfl ?_
  rintro _ _ ⟨A1, c1, rfl, rfl⟩
  refine WL.val (V.assign (OV.p rfl)) rfl ?_
  refine WL.nil ?_
  refine WC.seq ?_
  refine WC.seq ?_
  refine WC.region ?_
  refine WL.val (V.assign (OV.p rfl)) rfl ?_
  refine WL.nil ?_
  refine WC.block ?_
  refine WC.loop (σ := Nat) (fun k => [(1, .slice B q cap'), (5, .slice A1 (8 * m) c1), (6, .int .i64 (k : Int))]) (fun k => SlA (.slice A1 (8 * m) c1) 3 1 (8 * m) (ints .i64 (allI (turn xs (l.take k)))) :: F) (fun k => k ≤ q) (fun k => q - k) 0 (Nat.zero_le _) (.cons rfl (.cons rfl (.cons rfl (.nil _)))) (fun w h => h) ?_
  rintro k hk
  refine WC.seq ?_
  refine WC.seq ?_
  refine WC.region ?_
  refine WL.val (V.move (OV.p rfl)) rfl ?_
  refine WL.val (V.move (OV.p rfl)) rfl ?_
  refine WL.val (V.len (t := 40) Try.runUnderlying40 (OV.p rfl)) rfl ?_
  refine WL.val (V.lss (OV.p rfl) (OV.p rfl)) rfl ?_
  refine WL.nil ?_
  refine WC.cond rfl (fun hc0 => ?_) (fun hc0 => ?_)
  · simp only [decide_eq_true_eq, decide_eq_false_iff_not] at hc0
    have hkq : k < q := by omega
    have hik := hi (l.getD k 0) (by rw [List.getD, List.getElem?_eq_getElem (by omega)]; exact List.getElem_mem _)
    obtain ⟨p, hp⟩ : ∃ p : Nat, l.getD k 0 = (p : Int) := ⟨(l.getD k 0).toNat, by omega⟩
    obtain ⟨ys, hys⟩ : ∃ ys, ys = turn xs (l.take k) := ⟨_, rfl⟩
    have hyl : ys.length = m := by rw [hys, turn_length]; exact hl
    have hyb : IsBytes ys := by rw [hys]; exact turn_isb hx (fun i hi' => hi i (List.mem_of_mem_take hi'))
    rw [← hys]
    refine WC.ex (slA_row1 (by omega)) (fun ⟨g, rest⟩ ⟨e1, hc1⟩ => ?_)
    dsimp only at e1 hc1 ⊢
    subst e1
    have hcl : 8 * m + rest.length = c1 := by
      have h1 := hc1.1
      rw [List.length_append, show (ints .i64 (allI ys)).length = 8 * m by simp [ints, allI_length]; omega] at h1
      exact h1
    have hpl : p < 8 * m := by omega
    have hgp : (ints .i64 (allI ys) ++ rest)[0 + ((p : Int)).toNat * 1]? = some (.int .i64 ((allI ys).getD p 0)) := by
      rw [show 0 + ((p : Int)).toNat * 1 = p by omega, List.getElem?_append_left (by simp [ints, allI_length]; omega)]
      exact ints_getD _ _ (by rw [allI_length]; omega)
    have hbp : 0 ≤ (allI ys).getD p 0 ∧ (allI ys).getD p 0 ≤ 1 := bits_getD (allI_bits ys) p
    have hrl : Rd K F (B.map (·.add ((k : Int).toNat * 1))) (.int .i64 (p : Int)) := by
      have := Seq.int_rd hq (j := (k : Int)) (by omega)
      rw [show (k : Int).toNat = k by omega, hp] at this
      rwa [show (k : Int).toNat = k by omega]
    refine WC.skip ?_
    refine WC.seq ?_
    refine WC.block ?_
    refine WC.regionA F (by kernel_rfl) ?_
    refine WA.take 0 (fun w h => by repeat (first | exact h | replace h := h.tail)) rfl (by kernel_rfl) (by kernel_rfl) (by kernel_rfl) (fun _ _ _ h => h) (V.move (OV.p rfl)) rfl ?_
    refine WA.take 1 (fun w h => by repeat (first | exact h | replace h := h.tail)) rfl (by kernel_rfl) (by kernel_rfl) (by kernel_rfl) (fun _ _ _ h => h) (V.move (OV.p rfl)) rfl ?_
    refine WA.take 2 (fun w h => by repeat (first | exact h | replace h := h.tail)) rfl (by kernel_rfl) (by kernel_rfl) (by kernel_rfl) (fun _ _ _ h => h) (V.move (OV.p rfl)) rfl ?_
    refine WA.take 3 (fun w h => by repeat (first | exact h | replace h := h.tail)) rfl (by kernel_rfl) (by kernel_rfl) (by kernel_rfl) (fun _ _ _ h => h) (V.idxS st40 (OV.p rfl) (OV.p rfl) (fun hc => by omega) (fun hc => hrl)) rfl ?_
    refine WA.take 4 (fun w h => by repeat (first | exact h | replace h := h.tail)) rfl (by kernel_rfl) (by kernel_rfl) (by kernel_rfl) (fun _ _ _ h => h) (V.load Try.isAgg3 (OV.p rfl) (fun hc => hrl)) rfl ?_
    refine WA.take 5 (fun w h => by repeat (first | exact h | replace h := h.tail)) rfl (by kernel_rfl) (by kernel_rfl) (by kernel_rfl) (fun _ _ _ h => h) (V.move (OV.p rfl)) rfl ?_
    refine WA.take 6 (fun w h => by repeat (first | exact h | replace h := h.tail)) rfl (by kernel_rfl) (by kernel_rfl) (by kernel_rfl) (fun _ _ _ h => h) (V.move (OV.p rfl)) rfl ?_
    refine WA.take 7 (fun w h => by repeat (first | exact h | replace h := h.tail)) rfl (by kernel_rfl) (by kernel_rfl) (by kernel_rfl) (fun _ _ _ h => h) (V.move (OV.p rfl)) rfl ?_
    refine WA.take 8 (fun w h => by repeat (first | exact h | replace h := h.tail)) rfl (by kernel_rfl) (by kernel_rfl) (by kernel_rfl) (fun _ _ _ h => h) (V.idxS st40 (OV.p rfl) (OV.p rfl) (fun hc => by omega) (fun hc => hrl)) rfl ?_
    refine WA.take 9 (fun w h => by repeat (first | exact h | replace h := h.tail)) rfl (by kernel_rfl) (by kernel_rfl) (by kernel_rfl) (fun _ _ _ h => h) (V.load Try.isAgg3 (OV.p rfl) (fun hc => hrl)) rfl ?_
    refine WA.take 10 (fun w h => by repeat (first | exact h | replace h := h.tail)) rfl (by kernel_rfl) (by kernel_rfl) (by kernel_rfl) (fun _ _ _ h => h) (V.idxB st40 (OV.p rfl) (OV.p rfl) (fun hc => by omega)) rfl ?_
    refine WA.one (i := 11) (fun w h => by repeat (first | exact h | replace h := h.tail)) (by kernel_rfl) rfl ?_
    refine WL.val (V.load Try.isAgg3 (OV.p rfl) (fun hc => Rd.here hgp)) rfl ?_
    refine WL.nil ?_
    refine WA.take 12 (fun w h => by repeat (first | exact h | replace h := h.tail)) rfl (by kernel_rfl) (by kernel_rfl) (by kernel_rfl) (fun _ _ _ h => h) (V.subI (OV.p rfl) (OV.p rfl) (fun hc => by first | omega | (simp at hc; omega))) rfl ?_
    refine WA.take 13 (fun w h => by repeat (first | exact h | replace h := h.tail)) rfl (by kernel_rfl) (by kernel_rfl) (by kernel_rfl) (fun _ _ _ h => h) (V.idxB st40 (OV.p rfl) (OV.p rfl) (fun hc => by omega)) rfl ?_
    refine WA.one (i := 14) (fun w h => by repeat (first | exact h | replace h := h.tail)) (by kernel_rfl) rfl ?_
    refine WL.store (cs := [_]) Try.sizeOf3 (OV.p rfl) (OV.p rfl) rfl rfl rfl (Upd.at_ (by simp [ints, allI_length]; omega)) ?_
    refine WL.nil ?_
    refine WA.done (by kernel_rfl) (fun w h => by repeat (first | exact h | replace h := h.tail)) ?_
    refine WC.region ?_
    refine WL.val (V.move (OV.p rfl)) rfl ?_
    refine WL.val (V.addI (OV.p rfl) (OV.p rfl) (fun hc => by first | omega | (simp at hc; omega))) rfl ?_
    refine WL.val (V.assign (OV.p rfl)) rfl ?_
    refine WL.nil ?_
    refine ⟨rfl, ?_⟩
    refine ⟨k + 1, (by show k + 1 ≤ q; omega), (by show q - (k + 1) < q - k; omega), .cons rfl (.cons rfl (.cons (look_eq rfl (by simp)) (.nil _))), fun w h => ?_⟩
    have he : turn xs (l.take (k + 1)) = turn1 ys (p : Int) := by rw [turn_take (by omega), ← hys, hp]
    have hse : (ints .i64 (allI ys) ++ rest).set (0 + ((p : Int)).toNat * 1) (.int .i64 (1 - (allI ys).getD p 0)) = ints .i64 (allI (turn1 ys (p : Int))) ++ rest := by
      rw [show 0 + ((p : Int)).toNat * 1 = p by omega, List.set_append, if_pos (by simp [ints, allI_length]; omega), ← all_turn1 hyb (by omega)]
      simp [ints, List.map_set]
    rw [hse] at h
    dsimp only
    rw [he]
    have hal : (ints .i64 (allI (turn1 ys (p : Int)))).length = 8 * m := by simp [ints, allI_length, turn1_length]; omega
    have h' := Sat.toSl (m := 8 * m) (cap := c1) (s := 1) h (by rw [List.length_append, hal, Nat.mul_one]; exact hcl) (by omega) hc1.2
    rw [Nat.mul_one, List.take_left' hal] at h'
    exact h'
  · simp only [decide_eq_true_eq, decide_eq_false_iff_not] at hc0
    refine WC.exit ?_
    refine WC.seq ?_
    obtain rfl : k = q := by omega
    rw [List.take_of_length_le (by omega)]
    refine WC.region ?_
    refine WL.val (V.move (OV.p rfl)) rfl ?_
    refine WL.call (vs := [_]) Try.call90 ⟨OV.p rfl, trivial⟩ (ref01_Put (l := allI (turn xs l)) (SlA.seq (cs := ints .i64 (allI (turn xs l))) (by simp [ints, allI_length, turn_length, hl])) (allI_bits _) (by omega)) rfl ?_
    rintro _ _ ⟨g, rfl, rfl⟩
    refine WL.val (V.assign (OV.p rfl)) rfl ?_
    refine WL.nil ?_
    refine WC.ret ?_
    have hxt : IsBytes (turn xs l) := turn_isb hx hi
    rw [put_all hxt]
    have e : (8 * m + 7) / 8 = m := by omega
    rw [e]
    exact BodyQ.ret (H' := Cells g 5 (ints .u8 (turn xs l)) :: F) (Res.tmp rfl rfl) (fun w h => h.sel 2 [0] rfl) ⟨g, rfl, rfl⟩
end
end Go.Proofs.Ytgmdagjnigkaaaa
