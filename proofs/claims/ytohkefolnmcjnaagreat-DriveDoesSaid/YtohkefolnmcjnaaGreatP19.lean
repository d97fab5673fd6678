import Derived.Test.YtohkefolnmcjnaaGreatP12
import Derived.Test.YtohkefolnmcjnaaGreatP5
import Derived.Test.YtohkefolnmcjnaaGreatP9
import Derived.Test.YtohkefolnmcjnaaGreatP16
import Derived.Test.YtohkefolnmcjnaaGreatP18
/- casemateref01: At, All, Put, Turn. -/
namespace Go.Proofs.YtohkefolnmcjnaaGreat
open Go.Sl Go.RowKit
set_option linter.unusedVariables false
set_option linter.unusedSimpArgs false
set_option maxRecDepth 20000

theorem wrapB {x : Int} (h : 0 ≤ x ∧ x < 256) : IntKind.u8.wrap x = x := by
  simp only [IntKind.wrap, IntKind.bits, IntKind.signed]; simp; omega
/-- Bit number k of a byte. -/
def bitK (x : Int) (k : Nat) : Int := x / 2 ^ k % 2
def bitOf (xs : List Int) (i : Nat) : Int := bitK (xs.getD (i / 8) 0) (i % 8)
def allI (xs : List Int) : List Int := (List.range (8 * xs.length)).map (bitOf xs)
def byteOf (l : List Int) (j : Nat) : Nat → Int
  | 0 => 0
  | m + 1 => byteOf l j m + 2 ^ m * l.getD (8 * j + m) 0
def putTo (l : List Int) (i : Nat) : List Int := (List.range ((l.length + 7) / 8)).map fun j => byteOf l j (min 8 (i - 8 * j))
def putI (l : List Int) : List Int := putTo l l.length
theorem bitK_bd {x : Int} {k : Nat} : 0 ≤ bitK x k ∧ bitK x k ≤ 1 := by unfold bitK; omega
theorem allI_length (xs : List Int) : (allI xs).length = 8 * xs.length := by simp [allI]
theorem allI_get {xs : List Int} {i : Nat} (h : i < 8 * xs.length) : (allI xs).getD i 0 = bitOf xs i := by
  simp [allI, List.getD, h]
theorem allI_bits (xs : List Int) : ∀ x ∈ allI xs, 0 ≤ x ∧ x ≤ 1 := fun x hx => by
  obtain ⟨i, _, rfl⟩ := List.mem_map.1 hx
  exact bitK_bd
theorem bits_getD {l : List Int} (hl : ∀ x ∈ l, 0 ≤ x ∧ x ≤ 1) (i : Nat) : 0 ≤ l.getD i 0 ∧ l.getD i 0 ≤ 1 := by
  by_cases h : i < l.length
  · have := hl l[i] (List.getElem_mem h)
    simpa [List.getD, h] using this
  · simp [List.getD, List.getElem?_eq_none (Nat.le_of_not_lt h)]
theorem byteOf_bd {l : List Int} (hl : ∀ x ∈ l, 0 ≤ x ∧ x ≤ 1) (j : Nat) : ∀ m, 0 ≤ byteOf l j m ∧ byteOf l j m + 1 ≤ 2 ^ m
  | 0 => by simp [byteOf]
  | m + 1 => by
    have ih := byteOf_bd hl j m
    have h1 := bits_getD hl (8 * j + m)
    have hp : (0 : Int) < 2 ^ m := Int.pow_pos (by decide)
    have h2 : 0 ≤ 2 ^ m * l.getD (8 * j + m) 0 := Int.mul_nonneg (by omega) h1.1
    have h3 : 2 ^ m * l.getD (8 * j + m) 0 ≤ 2 ^ m * 1 := Int.mul_le_mul_of_nonneg_left h1.2 (by omega)
    rw [byteOf, Int.pow_succ]
    omega
theorem putTo_length (l : List Int) (i : Nat) : (putTo l i).length = (l.length + 7) / 8 := by simp [putTo]
theorem putTo_get {l : List Int} {i j : Nat} (h : j < (l.length + 7) / 8) : (putTo l i).getD j 0 = byteOf l j (min 8 (i - 8 * j)) := by
  simp [putTo, List.getD, h]
theorem putTo_succ {l : List Int} {i : Nat} (h : i < l.length) : putTo l (i + 1) = (putTo l i).set (i / 8) (byteOf l (i / 8) (i % 8) + 2 ^ (i % 8) * l.getD i 0) := by
  apply List.ext_getElem
  · simp [putTo_length]
  · intro j h1 h2
    rw [putTo_length] at h1
    rw [List.getElem_set]
    have e1 : ∀ k, (putTo l k)[j]'(by rw [putTo_length]; exact h1) = byteOf l j (min 8 (k - 8 * j)) := fun k => by simp [putTo]
    rw [e1, e1]
    by_cases hj : i / 8 = j
    · rw [if_pos hj]
      subst hj
      rw [show min 8 (i + 1 - 8 * (i / 8)) = i % 8 + 1 by omega, byteOf, show 8 * (i / 8) + i % 8 = i by omega]
    · rw [if_neg hj]
      rcases Nat.lt_or_ge (i / 8) j with h | h
      · rw [show i + 1 - 8 * j = 0 by omega, show i - 8 * j = 0 by omega]
      · rw [show min 8 (i + 1 - 8 * j) = 8 by omega, show min 8 (i - 8 * j) = 8 by omega]
theorem byte_back {x : Int} (hx : 0 ≤ x ∧ x < 256) {l : List Int} {j : Nat} (hl : ∀ m, m < 8 → l.getD (8 * j + m) 0 = bitK x m) : byteOf l j 8 = x := by
  have h : ((List.range 256).all fun a => decide (bitK (a : Int) 0 + 2 * bitK (a : Int) 1 + 4 * bitK (a : Int) 2 + 8 * bitK (a : Int) 3 + 16 * bitK (a : Int) 4 + 32 * bitK (a : Int) 5 + 64 * bitK (a : Int) 6 + 128 * bitK (a : Int) 7 = (a : Int))) = true := by kernel_rfl
  have h1 := of_decide_eq_true (List.all_eq_true.1 h x.toNat (List.mem_range.2 (by omega)))
  rw [show ((x.toNat : Nat) : Int) = x by omega] at h1
  simp only [byteOf]
  rw [hl 0 (by decide), hl 1 (by decide), hl 2 (by decide), hl 3 (by decide), hl 4 (by decide), hl 5 (by decide), hl 6 (by decide), hl 7 (by decide)]
  omega
theorem put_all {xs : List Int} (hx : IsBytes xs) : putI (allI xs) = xs := by
  apply List.ext_getElem
  · unfold putI; rw [putTo_length, allI_length]; omega
  · intro j h1 h2
    have e1 : (putI (allI xs))[j] = byteOf (allI xs) j 8 := by
      unfold putI
      have : (putTo (allI xs) (allI xs).length)[j]'h1 = byteOf (allI xs) j (min 8 ((allI xs).length - 8 * j)) := by simp [putTo]
      rw [this, allI_length]
      congr 1; omega
    rw [e1]
    refine byte_back (hx _ (List.getElem_mem h2)) (fun m hm => ?_)
    rw [allI_get (by omega)]
    unfold bitOf
    rw [show (8 * j + m) / 8 = j by omega, show (8 * j + m) % 8 = m by omega]
    simp [List.getD, h2]
theorem flip_bit {x : Int} (hx : 0 ≤ x ∧ x < 256) {k m : Nat} (hk : k < 8) (hm : m < 8) : bitK (flip8 x (k : Int)) m = if k = m then 1 - bitK x m else bitK x m := by
  have h : ((List.range 256).all fun a => (List.range 8).all fun k => (List.range 8).all fun m => decide (bitK (flip8 (a : Int) (k : Int)) m = if k = m then 1 - bitK (a : Int) m else bitK (a : Int) m)) = true := by kernel_rfl
  have h1 := List.all_eq_true.1 h x.toNat (List.mem_range.2 (by omega))
  have h2 := List.all_eq_true.1 h1 k (List.mem_range.2 hk)
  have h3 := of_decide_eq_true (List.all_eq_true.1 h2 m (List.mem_range.2 hm))
  rwa [show ((x.toNat : Nat) : Int) = x by omega] at h3
theorem all_turn1 {xs : List Int} (hx : IsBytes xs) {p : Nat} (hp : p < 8 * xs.length) : (allI xs).set p (1 - (allI xs).getD p 0) = allI (turn1 xs (p : Int)) := by
  apply List.ext_getElem
  · simp [allI_length, turn1_length]
  · intro i h1 h2
    rw [List.length_set, allI_length] at h1
    have e : ∀ (ys : List Int) (h : i < (allI ys).length), (allI ys)[i] = bitOf ys i := fun ys h => by simp [allI]
    rw [List.getElem_set, e, e, allI_get hp]
    unfold bitOf turn1
    have hg := hx.at_ (p / 8)
    rw [show ((p : Int) / 8).toNat = p / 8 by omega, show (p : Int) % 8 = ((p % 8 : Nat) : Int) by omega]
    have hs : ∀ v : Int, (xs.set (p / 8) v).getD (i / 8) 0 = if p / 8 = i / 8 then v else xs.getD (i / 8) 0 := fun v => by
      simp only [List.getD, List.getElem?_set]
      by_cases h : p / 8 = i / 8
      · rw [if_pos h, if_pos h, if_pos (by omega)]; rfl
      · rw [if_neg h, if_neg h]
    rw [hs]
    by_cases h8 : p / 8 = i / 8
    · rw [if_pos h8, flip_bit hg (by omega) (by omega)]
      by_cases hpi : p = i
      · subst hpi; rw [if_pos rfl, if_pos rfl]
      · rw [if_neg hpi, if_neg (by omega), h8]
    · rw [if_neg h8, if_neg (by intro h; subst h; exact h8 rfl)]

section
variable {K : World} {F : List Assn}
theorem ref01_At {A : Option Addr} {m cap : Nat} {xs : List Int} (hs : Seq K F A m 1 (ints .u8 xs)) (hx : IsBytes xs) {i : Nat} (hi : i < 8 * m) (hm : m ≤ 1000000) :
    Tells Tryz.prog 181 #[.slice A m cap, .int .i64 (i : Int)] K F (.int .i64 (bitOf xs i)) := by
  have hl : xs.length = m := by simpa [ints] using hs.len
  have hrd : Rd K F (A.map (·.add (((i : Int) / 8).toNat * 1))) (.int .u8 (xs.getD (i / 8) 0)) := by
    have := Seq.int_rd hs (j := (i : Int) / 8) (by omega)
    rwa [show ((i : Int) / 8).toNat = i / 8 by omega] at this ⊢
  have hb := hx.at_ (i / 8)
  obtain ⟨x, hxv⟩ : ∃ x, x = xs.getD (i / 8) 0 := ⟨_, rfl⟩
  rw [← hxv] at hrd hb
  have hres : bitOf xs i = bitK x (i % 8) := by unfold bitOf; rw [hxv]
  rw [hres]
  obtain ⟨r, hr⟩ : ∃ r, r = i % 8 := ⟨_, rfl⟩
  have hri : (i : Int).tmod 8 = (r : Int) := by rw [Int.tmod_eq_emod_of_nonneg (by omega)]; omega
  rw [← hr]
  refine Does.enter Tryz.func181 rfl Tryz.ntmps181 rfl ?_
  simp only [env0, Nat.reduceAdd]
  refine WC.sr ?_
  refine WL.val (V.assign (OV.p rfl)) rfl ?_
  refine WL.nil ?_
  refine WC.sr ?_
  refine WL.val (V.move (OV.p rfl)) rfl ?_
  refine WL.val (V.move (OV.p rfl)) rfl ?_
  refine WL.val (V.quoI (OV.p rfl) (OV.p rfl) (fun hc => by first | omega | (simp at hc; omega))) rfl ?_
  refine WL.val (V.idxS st38 (OV.p rfl) (OV.p rfl) (fun hc => by omega) (fun hc => hrd)) rfl ?_
  refine WL.val (V.load Tryz.isAgg5 (OV.p rfl) (fun hc => hrd)) rfl ?_
  refine WL.val (V.convW Tryz.runUnderlying5 Tryz.runUnderlying3 (OV.p rfl) (fun _ => wrap_i64 (by omega))) rfl ?_
  refine WL.val (V.assign (OV.p rfl)) rfl ?_
  refine WL.nil ?_
  refine WC.seq ?_
  refine WC.sr ?_
  refine WL.val (V.assign (OV.p rfl)) rfl ?_
  refine WL.nil ?_
  refine WC.block ?_
  refine WC.loop (σ := Nat) (fun k => [(1, .int .i64 (i : Int)), (5, .int .i64 (x / 2 ^ k)), (6, .int .i64 (k : Int))]) (fun _ => F) (fun k => k ≤ r) (fun k => r - k) 0 (Nat.zero_le _) (.cons rfl (.cons (look_eq rfl (by simp)) (.cons rfl (.nil _)))) (fun w h => h) ?_
  rintro k hk
  have hxk : 0 ≤ x / 2 ^ k ∧ x / 2 ^ k ≤ 255 := ⟨Int.ediv_nonneg hb.1 (Int.le_of_lt (Int.pow_pos (by decide))), Int.le_trans (Int.ediv_le_self _ hb.1) (by omega)⟩
  refine WC.seq ?_
  refine WC.sr ?_
  refine WL.val (V.move (OV.p rfl)) rfl ?_
  refine WL.val (V.move (OV.p rfl)) rfl ?_
  refine WL.val (V.val_eq (v' := .int .i64 (r : Int)) (V.remI (OV.p rfl) (OV.p rfl) (fun _ => by omega)) (fun _ => by rw [hr]; simp)) rfl ?_
  refine WL.val (V.lss (OV.p rfl) (OV.p rfl)) rfl ?_
  refine WL.nil ?_
  refine WC.cond rfl (fun hc0 => ?_) (fun hc0 => ?_)
  ·simp only [decide_eq_true_eq, decide_eq_false_iff_not] at hc0
   refine WC.skip ?_
   refine WC.seq ?_
   refine WC.block ?_
   refine WC.region ?_
   refine WL.val (V.move (OV.p rfl)) rfl ?_
   refine WL.val (V.quoI (OV.p rfl) (OV.p rfl) (fun hc => by first | omega | (simp at hc; omega))) rfl ?_
   refine WL.val (V.assign (OV.p rfl)) rfl ?_
   refine WL.nil ?_
   refine WC.region ?_
   refine WL.val (V.move (OV.p rfl)) rfl ?_
   refine WL.val (V.addI (OV.p rfl) (OV.p rfl) (fun hc => by first | omega | (simp at hc; omega))) rfl ?_
   refine WL.val (V.assign (OV.p rfl)) rfl ?_
   refine WL.nil ?_
   refine ⟨rfl, ?_⟩
   exact ⟨k + 1, (by show k + 1 ≤ r; omega), (by show r - (k + 1) < r - k; omega), .cons rfl (.cons (look_eq rfl (by rw [Int.pow_succ, ← Int.ediv_ediv_of_nonneg (Int.le_of_lt (Int.pow_pos (by decide)))])) (.cons (look_eq rfl (by simp)) (.nil _))), fun w h => h⟩
  ·simp only [decide_eq_true_eq, decide_eq_false_iff_not] at hc0
   refine WC.exit ?_
   refine WC.sr ?_
   refine WL.val (V.move (OV.p rfl)) rfl ?_
   refine WL.val (V.remI (OV.p rfl) (OV.p rfl) (fun hc => by first | omega | (simp at hc; omega))) rfl ?_
   refine WL.val (V.assign (OV.p rfl)) rfl ?_
   refine WL.nil ?_
   refine WC.ret ?_
   obtain rfl : k = r := by omega
   exact BodyQ.ret (H' := F) (Res.tmp rfl rfl) (fun w h => h) ⟨rfl, rfl⟩
theorem ref01_All {A : Option Addr} {m cap : Nat} {xs : List Int} (hs : Seq K F A m 1 (ints .u8 xs)) (hx : IsBytes xs) (hm : m ≤ 1000000) :
    Does Tryz.prog 145 #[.slice A m cap] K F (fun v H' => ∃ A' c', v = .slice A' (8 * m) c' ∧ H' = SlA (.slice A' (8 * m) c') 3 1 (8 * m) (ints .i64 (allI xs)) :: F) := by
  have hl : xs.length = m := by simpa [ints] using hs.len
  have hal := allI_length xs
  rw [hl] at hal
  refine Does.enter Tryz.func145 rfl Tryz.ntmps145 rfl ?_
  simp only [env0, Nat.reduceAdd]
  refine WC.sr ?_
  refine WL.val (V.assign (OV.p rfl)) rfl ?_
  refine WL.nil ?_
  refine WC.sr ?_
  refine WL.val (V.assign (OV.p rfl)) rfl ?_
  refine WL.nil ?_
  refine WC.seq ?_
  refine WC.sr ?_
  refine WL.val (V.assign (OV.p rfl)) rfl ?_
  refine WL.nil ?_
  refine WC.block ?_
  refine WC.loop (σ := Nat × Option Addr × Nat) (fun x => [(0, .slice A m cap), (3, .slice x.2.1 x.1 x.2.2), (4, .int .i64 (x.1 : Int))]) (fun x => SlA (.slice x.2.1 x.1 x.2.2) 3 1 x.1 (ints .i64 ((allI xs).take x.1)) :: F) (fun x => x.1 ≤ 8 * m) (fun x => 8 * m - x.1) (0, none, 0) (Nat.zero_le _) (.cons rfl (.cons rfl (.cons rfl (.nil _)))) (fun w h => Sat.slNil h 3 1) ?_
  rintro ⟨j, Ao, co⟩ hj
  dsimp only at hj ⊢
  refine WC.seq ?_
  refine WC.sr ?_
  refine WL.val (V.move (OV.p rfl)) rfl ?_
  refine WL.val (V.move (OV.p rfl)) rfl ?_
  refine WL.val (V.len (t := 38) Tryz.runUnderlying38 (OV.p rfl)) rfl ?_
  refine WL.val (V.mulI (OV.p rfl) (OV.p rfl) (fun hc => by first | omega | (simp at hc; omega))) rfl ?_
  refine WL.val (V.lss (OV.p rfl) (OV.p rfl)) rfl ?_
  refine WL.nil ?_
  refine WC.cond rfl (fun hc0 => ?_) (fun hc0 => ?_)
  ·simp only [decide_eq_true_eq, decide_eq_false_iff_not] at hc0
   refine WC.skip ?_
   refine WC.seq ?_
   refine WC.block ?_
   refine WC.region ?_
   refine WL.val (V.move (OV.p rfl)) rfl ?_
   refine WL.val (V.move (OV.p rfl)) rfl ?_
   refine WL.val (V.move (OV.p rfl)) rfl ?_
   refine WL.call (vs := [_, _]) Tryz.call181 ⟨OV.p rfl, OV.p rfl, trivial⟩ (ref01_At (hs.up) hx (i := j) (by omega) hm) rfl ?_
   rintro _ H0 ⟨rfl, h0⟩
   subst H0
   refine WL.buildSlice (E := 3) (cs := [_]) (vs := [(0, _)]) ⟨OV.p rfl, trivial⟩ rfl (bsl42_1_0 _) rfl (fun b16 => ?_)
   refine WL.sub (Sub.refl _) (fun w h => h.p1) ?_
   refine WL.append (m := j) (q := 1) Tryz.underlying42 el3 (OV.p rfl) (OV.p rfl) (Seq.all rfl) (by intro u hu; rw [List.mem_singleton.1 hu]; rfl) (by omega) rfl rfl (fun A' c' hA' hc' => ?_)
   refine WL.val (V.assign (OV.p rfl)) rfl ?_
   refine WL.nil ?_
   refine WC.region ?_
   refine WL.val (V.move (OV.p rfl)) rfl ?_
   refine WL.val (V.addI (OV.p rfl) (OV.p rfl) (fun hc => by first | omega | (simp at hc; omega))) rfl ?_
   refine WL.val (V.assign (OV.p rfl)) rfl ?_
   refine WL.nil ?_
   refine ⟨rfl, ?_⟩
   refine ⟨(j + 1, A', c'), (by show j + 1 ≤ 8 * m; omega), (by show 8 * m - (j + 1) < 8 * m - j; omega), .cons rfl (.cons rfl (.cons (look_eq rfl (by simp)) (.nil _))), fun w h => ?_⟩
   have h' := h.sel 2 [0] rfl
   have he : (allI xs).take (j + 1) = (allI xs).take j ++ [bitOf xs j] := by
     rw [List.take_add_one, ← allI_get (xs := xs) (i := j) (by omega), List.getElem?_eq_getElem (by omega)]
     simp [List.getD, show j < (allI xs).length by omega]
   dsimp only
   rw [he, ints_append]
   exact h'
  ·simp only [decide_eq_true_eq, decide_eq_false_iff_not] at hc0
   refine WC.exit ?_
   refine WC.sr ?_
   refine WL.val (V.move (OV.p rfl)) rfl ?_
   refine WL.val (V.assign (OV.p rfl)) rfl ?_
   refine WL.nil ?_
   refine WC.ret ?_
   obtain rfl : j = 8 * m := by omega
   refine BodyQ.ret (H' := SlA (.slice Ao (8 * m) co) 3 1 (8 * m) (ints .i64 (allI xs)) :: F) (Res.tmp rfl rfl) (fun w h => ?_) ⟨Ao, co, rfl, rfl⟩
   rw [List.take_of_length_le (by omega)] at h
   exact h
theorem ref01_Put {A : Option Addr} {m cap : Nat} {l : List Int} (hs : Seq K F A m 1 (ints .i64 l)) (hb : ∀ x ∈ l, 0 ≤ x ∧ x ≤ 1) (hm : m ≤ 8000000) :
    Does Tryz.prog 147 #[.slice A m cap] K F (fun v H' => ∃ g, v = .slice (some ⟨g, 0, none⟩) ((m + 7) / 8) ((m + 7) / 8) ∧ H' = Cells g 5 (ints .u8 (putI l)) :: F) := by
  have hl : l.length = m := by simpa [ints] using hs.len
  refine Does.enter Tryz.func147 rfl Tryz.ntmps147 rfl ?_
  simp only [env0, Nat.reduceAdd]
  refine WC.sr ?_
  refine WL.val (V.assign (OV.p rfl)) rfl ?_
  refine WL.nil ?_
  refine WC.sr ?_
  refine WL.val (V.move (OV.p rfl)) rfl ?_
  refine WL.val (V.len (t := 42) Tryz.runUnderlying42 (OV.p rfl)) rfl ?_
  refine WL.val (V.addI (OV.p rfl) (OV.p rfl) (fun hc => by first | omega | (simp at hc; omega))) rfl ?_
  refine WL.val (V.quoI (OV.p rfl) (OV.p rfl) (fun hc => by first | omega | (simp at hc; omega))) rfl ?_
  refine WL.make1 (m := (m + 7) / 8) Tryz.underlying38 el5 (OV.p rfl) (OV.p rfl) (by omega) (by omega) (by omega) rfl rfl rfl (fun b11 => ?_)
  refine WL.val (V.assign (OV.p rfl)) rfl ?_
  refine WL.nil ?_
  refine WC.seq ?_
  refine WC.sr ?_
  refine WL.val (V.assign (OV.p rfl)) rfl ?_
  refine WL.nil ?_
  refine WC.block ?_
  refine WC.loop (σ := Nat) (fun i => [(0, .slice A m cap), (3, .slice (some ⟨b11, 0, none⟩) ((m + 7) / 8) ((m + 7) / 8)), (4, .int .i64 (i : Int))]) (fun i => Cells b11 5 (ints .u8 (putTo l i)) :: F) (fun i => i ≤ m) (fun i => m - i) 0 (Nat.zero_le _) (.cons rfl (.cons rfl (.cons rfl (.nil _)))) (fun w h => Sat.cells_eq h (by
    have : putTo l 0 = List.replicate ((m + 7) / 8) 0 := by
      apply List.ext_getElem
      · rw [putTo_length, List.length_replicate, hl]
      · intro j h1 h2; simp [putTo, byteOf]
    rw [this]; simp [ints])) ?_
  rintro i hi
  refine WC.seq ?_
  refine WC.sr ?_
  refine WL.val (V.move (OV.p rfl)) rfl ?_
  refine WL.val (V.move (OV.p rfl)) rfl ?_
  refine WL.val (V.len (t := 42) Tryz.runUnderlying42 (OV.p rfl)) rfl ?_
  refine WL.val (V.lss (OV.p rfl) (OV.p rfl)) rfl ?_
  refine WL.nil ?_
  refine WC.cond rfl (fun hc0 => ?_) (fun hc0 => ?_)
  ·simp only [decide_eq_true_eq, decide_eq_false_iff_not] at hc0
   refine WC.skip ?_
   refine WC.seq ?_
   refine WC.block ?_
   refine WC.seq ?_
   have him : i < m := by omega
   have hri : (i : Int).tmod 8 = ((i % 8 : Nat) : Int) := by rw [Int.tmod_eq_emod_of_nonneg (by omega)]; omega
   refine WC.region ?_
   refine WL.val (V.assign (OV.p rfl)) rfl ?_
   refine WL.nil ?_
   refine WC.seq ?_
   refine WC.sr ?_
   refine WL.val (V.assign (OV.p rfl)) rfl ?_
   refine WL.nil ?_
   refine WC.block ?_
   refine WC.loop (σ := Nat) (fun k => [(0, .slice A m cap), (3, .slice (some ⟨b11, 0, none⟩) ((m + 7) / 8) ((m + 7) / 8)), (4, .int .i64 (i : Int)), (5, .int .i64 (2 ^ k)), (6, .int .i64 (k : Int))]) (fun _ => Cells b11 5 (ints .u8 (putTo l i)) :: F) (fun k => k ≤ i % 8) (fun k => i % 8 - k) 0 (Nat.zero_le _) (.cons rfl (.cons rfl (.cons rfl (.cons rfl (.cons rfl (.nil _)))))) (fun w h => h) ?_
   rintro k hk
   have hpk : (0 : Int) < 2 ^ k ∧ (2 : Int) ^ k ≤ 128 := by
     have : ∀ k, k ≤ 7 → (0 : Int) < 2 ^ k ∧ (2 : Int) ^ k ≤ 128 := by decide
     exact this k (by omega)
   refine WC.seq ?_
   refine WC.sr ?_
   refine WL.val (V.move (OV.p rfl)) rfl ?_
   refine WL.val (V.move (OV.p rfl)) rfl ?_
   refine WL.val (V.val_eq (v' := .int .i64 ((i % 8 : Nat) : Int)) (V.remI (OV.p rfl) (OV.p rfl) (fun _ => by omega)) (fun _ => by simp)) rfl ?_
   refine WL.val (V.lss (OV.p rfl) (OV.p rfl)) rfl ?_
   refine WL.nil ?_
   refine WC.cond rfl (fun hc1 => ?_) (fun hc1 => ?_)
   ·simp only [decide_eq_true_eq, decide_eq_false_iff_not] at hc1
    refine WC.skip ?_
    refine WC.seq ?_
    refine WC.block ?_
    refine WC.region ?_
    refine WL.val (V.move (OV.p rfl)) rfl ?_
    refine WL.val (V.mulI (OV.p rfl) (OV.p rfl) (fun _ => by omega)) rfl ?_
    refine WL.val (V.assign (OV.p rfl)) rfl ?_
    refine WL.nil ?_
    refine WC.region ?_
    refine WL.val (V.move (OV.p rfl)) rfl ?_
    refine WL.val (V.addI (OV.p rfl) (OV.p rfl) (fun hc => by first | omega | (simp at hc; omega))) rfl ?_
    refine WL.val (V.assign (OV.p rfl)) rfl ?_
    refine WL.nil ?_
    refine ⟨rfl, ?_⟩
    exact ⟨k + 1, (by show k + 1 ≤ i % 8; omega), (by show i % 8 - (k + 1) < i % 8 - k; omega), .cons rfl (.cons rfl (.cons rfl (.cons (look_eq rfl (by rw [Int.pow_succ, Int.mul_comm])) (.cons (look_eq rfl (by simp)) (.nil _))))), fun w h => h⟩
   ·simp only [decide_eq_true_eq, decide_eq_false_iff_not] at hc1
    refine WC.exit ?_
    obtain rfl : k = i % 8 := by omega
    have hbi := bits_getD hb i
    have hrd : Rd K F (A.map (·.add ((i : Int).toNat * 1))) (.int .i64 (l.getD i 0)) := by
      have := Seq.int_rd hs (j := (i : Int)) (by omega)
      rwa [show (i : Int).toNat = i by omega] at this ⊢
    obtain ⟨o, ho⟩ : ∃ o, o = putTo l i := ⟨_, rfl⟩
    have hol : o.length = (m + 7) / 8 := by rw [ho, putTo_length, hl]
    have hob : o.getD (i / 8) 0 = byteOf l (i / 8) (i % 8) := by rw [ho, putTo_get (by omega)]; congr 1; omega
    have hbb := byteOf_bd hb (i / 8) (i % 8)
    have hb2 := byteOf_bd hb (i / 8) (i % 8 + 1)
    rw [byteOf, show 8 * (i / 8) + i % 8 = i by omega] at hb2
    have hp8 : (2 : Int) ^ (i % 8 + 1) ≤ 256 := by
      have : ∀ k, k ≤ 7 → (2 : Int) ^ (k + 1) ≤ 256 := by decide
      exact this _ (by omega)
    have hw0 : 0 ≤ 2 ^ (i % 8) * l.getD i 0 := Int.mul_nonneg (by omega) hbi.1
    rw [← ho]
    have hgo : (ints .u8 o)[0 + ((i : Int) / 8).toNat * 1]? = some (.int .u8 (byteOf l (i / 8) (i % 8))) := by
      rw [show 0 + ((i : Int) / 8).toNat * 1 = i / 8 by omega, ← hob]
      exact ints_getD _ _ (by omega)
    refine WC.regionA F (by kernel_rfl) ?_
    refine WA.t 0 rfl (V.move (OV.p rfl)) ?_
    refine WA.t 1 rfl (V.move (OV.p rfl)) ?_
    refine WA.t 2 rfl (V.quoI (OV.p rfl) (OV.p rfl) (fun hc => by first | omega | (simp at hc; omega))) ?_
    refine WA.t 3 rfl (V.move (OV.p rfl)) ?_
    refine WA.t 4 rfl (V.move (OV.p rfl)) ?_
    refine WA.t 5 rfl (V.quoI (OV.p rfl) (OV.p rfl) (fun hc => by first | omega | (simp at hc; omega))) ?_
    refine WA.t 6 rfl (V.idxB st38 (OV.p rfl) (OV.p rfl) (fun hc => by omega)) ?_
    refine WA.t 8 rfl (V.move (OV.p rfl)) ?_
    refine WA.t 9 rfl (V.move (OV.p rfl)) ?_
    refine WA.t 10 rfl (V.move (OV.p rfl)) ?_
    refine WA.t 11 rfl (V.idxS st42 (OV.p rfl) (OV.p rfl) (fun hc => by omega) (fun hc => hrd)) ?_
    refine WA.t 12 rfl (V.load Tryz.isAgg3 (OV.p rfl) (fun hc => hrd)) ?_
    refine WA.t 13 rfl (V.mulI (OV.p rfl) (OV.p rfl) (fun _ => by omega)) ?_
    refine WA.t 14 rfl (V.convW Tryz.runUnderlying3 Tryz.runUnderlying5 (OV.p rfl) (fun _ => wrapB (by omega))) ?_
    refine WA.o 7 rfl ?_
    refine WL.val (V.load Tryz.isAgg5 (OV.p rfl) (fun hc => Rd.here hgo)) rfl ?_
    refine WL.nil ?_
    refine WA.t 15 rfl (V.val_eq (v' := .int .u8 (byteOf l (i / 8) (i % 8) + 2 ^ (i % 8) * l.getD i 0)) (V.add (OV.p rfl) (OV.p rfl)) (fun _ => by rw [wrapB (by omega)])) ?_
    refine WA.t 16 rfl (V.idxB st38 (OV.p rfl) (OV.p rfl) (fun hc => by omega)) ?_
    refine WA.o 17 rfl ?_
    refine WL.store (cs := [_]) Tryz.sizeOf5 (OV.p rfl) (OV.p rfl) rfl rfl rfl (Upd.at_ (by simp [ints]; omega)) ?_
    refine WL.nil ?_
    refine WA.fin ?_
    refine WC.region ?_
    refine WL.val (V.move (OV.p rfl)) rfl ?_
    refine WL.val (V.addI (OV.p rfl) (OV.p rfl) (fun hc => by first | omega | (simp at hc; omega))) rfl ?_
    refine WL.val (V.assign (OV.p rfl)) rfl ?_
    refine WL.nil ?_
    refine ⟨rfl, ?_⟩
    refine ⟨i + 1, (by show i + 1 ≤ m; omega), (by show m - (i + 1) < m - i; omega), .cons rfl (.cons rfl (.cons (look_eq rfl (by simp)) (.nil _))), fun w h => Sat.cells_eq h ?_⟩
    rw [putTo_succ (by omega), ← ho, show 0 + ((i : Int) / 8).toNat * 1 = i / 8 by omega]
    simp [ints, List.map_set]
  ·simp only [decide_eq_true_eq, decide_eq_false_iff_not] at hc0
   refine WC.exit ?_
   refine WC.sr ?_
   refine WL.val (V.move (OV.p rfl)) rfl ?_
   refine WL.val (V.assign (OV.p rfl)) rfl ?_
   refine WL.nil ?_
   refine WC.ret ?_
   obtain rfl : i = m := by omega
   exact BodyQ.ret (H' := Cells b11 _ _ :: F) (Res.tmp rfl rfl) (fun w h => Sat.cells_eq h (by unfold putI; rw [hl])) ⟨b11, rfl, rfl⟩
theorem slA_row1 {A : Option Addr} {m cap E : Nat} {cs : List Value} (hm : 0 < m) : ∀ w, Sat K w (SlA (.slice A m cap) E 1 m cs :: F) → ∃ x : Nat × List Value, (A = some ⟨x.1, 0, none⟩ ∧ (cs ++ x.2).length = cap ∧ cap ≤ maxLen) ∧ Sat K w (Cells x.1 E (cs ++ x.2) :: F) := fun w hw => by
  cases A with
  | none => have := (SlA.nilCs hw).1; omega
  | some a =>
    obtain ⟨g, rfl⟩ := SlA.addr hw
    obtain ⟨r, ⟨h1, h2, h3, h4⟩, h5⟩ := Sat.slCells hw
    exact ⟨(g, r), ⟨rfl, by show (cs ++ r).length = cap; omega, h4⟩, h5⟩
theorem ref01_Turn {A B : Option Addr} {m q cap cap' : Nat} {xs l : List Int} (hs : Seq K F A m 1 (ints .u8 xs)) (hx : IsBytes xs) (hq : Seq K F B q 1 (ints .i64 l)) (hi : ∀ i ∈ l, 0 ≤ i ∧ i < 8 * (xs.length : Int)) (hm : m ≤ 1000000) (hqm : q ≤ maxLen) :
    Does Tryz.prog 112 #[.slice A m cap, .slice B q cap'] K F (fun v H' => ∃ g, v = .slice (some ⟨g, 0, none⟩) m m ∧ H' = Cells g 5 (ints .u8 (turn xs l)) :: F) := by
  have hl : xs.length = m := by simpa [ints] using hs.len
  have hql : l.length = q := by simpa [ints] using hq.len
  have hq' : q ≤ 9223372036854775807 := by simpa [maxLen] using hqm
  refine Does.enter Tryz.func112 rfl Tryz.ntmps112 rfl ?_
  simp only [env0, Nat.reduceAdd]
  refine WC.sr ?_
  refine WL.val (V.assign (OV.p rfl)) rfl ?_
  refine WL.nil ?_
  refine WC.sr ?_
  refine WL.val (V.move (OV.p rfl)) rfl ?_
  refine WL.call (vs := [_]) Tryz.call145 ⟨OV.p rfl, trivial⟩ (ref01_All hs hx hm) rfl ?_
  rintro _ _ ⟨A1, c1, rfl, rfl⟩
  refine WL.val (V.assign (OV.p rfl)) rfl ?_
  refine WL.nil ?_
  refine WC.seq ?_
  refine WC.sr ?_
  refine WL.val (V.assign (OV.p rfl)) rfl ?_
  refine WL.nil ?_
  refine WC.block ?_
  refine WC.loop (σ := Nat) (fun k => [(1, .slice B q cap'), (5, .slice A1 (8 * m) c1), (6, .int .i64 (k : Int))]) (fun k => SlA (.slice A1 (8 * m) c1) 3 1 (8 * m) (ints .i64 (allI (turn xs (l.take k)))) :: F) (fun k => k ≤ q) (fun k => q - k) 0 (Nat.zero_le _) (.cons rfl (.cons rfl (.cons rfl (.nil _)))) (fun w h => h) ?_
  rintro k hk
  refine WC.seq ?_
  refine WC.sr ?_
  refine WL.val (V.move (OV.p rfl)) rfl ?_
  refine WL.val (V.move (OV.p rfl)) rfl ?_
  refine WL.val (V.len (t := 42) Tryz.runUnderlying42 (OV.p rfl)) rfl ?_
  refine WL.val (V.lss (OV.p rfl) (OV.p rfl)) rfl ?_
  refine WL.nil ?_
  refine WC.cond rfl (fun hc0 => ?_) (fun hc0 => ?_)
  ·simp only [decide_eq_true_eq, decide_eq_false_iff_not] at hc0
   have hkq : k < q := by omega
   have hik := hi (l.getD k 0) (by rw [List.getD, List.getElem?_eq_getElem (by omega)]; exact List.getElem_mem _)
   obtain ⟨p, hp⟩ : ∃ p : Nat, l.getD k 0 = (p : Int) := ⟨(l.getD k 0).toNat, by omega⟩
   obtain ⟨ys, hys⟩ : ∃ ys, ys = turn xs (l.take k) := ⟨_, rfl⟩
   have hyl : ys.length = m := by rw [hys, turn_length]; exact hl
   have hyb : IsBytes ys := by rw [hys]; exact turn_isb hx (fun i hi' => hi i (List.mem_of_mem_take hi'))
   rw [← hys]
   refine WC.ex (slA_row1 (by omega)) (fun ⟨g, rest⟩ ⟨e1, hc1⟩ => ?_)
   dsimp only at e1 hc1 ⊢
   subst e1
   have hcl : 8 * m + rest.length = c1 := by
     have h1 := hc1.1
     rw [List.length_append, show (ints .i64 (allI ys)).length = 8 * m by simp [ints, allI_length]; omega] at h1
     exact h1
   have hpl : p < 8 * m := by omega
   have hgp : (ints .i64 (allI ys) ++ rest)[0 + ((p : Int)).toNat * 1]? = some (.int .i64 ((allI ys).getD p 0)) := by
     rw [show 0 + ((p : Int)).toNat * 1 = p by omega, List.getElem?_append_left (by simp [ints, allI_length]; omega)]
     exact ints_getD _ _ (by rw [allI_length]; omega)
   have hbp : 0 ≤ (allI ys).getD p 0 ∧ (allI ys).getD p 0 ≤ 1 := bits_getD (allI_bits ys) p
   have hrl : Rd K F (B.map (·.add ((k : Int).toNat * 1))) (.int .i64 (p : Int)) := by
     have := Seq.int_rd hq (j := (k : Int)) (by omega)
     rw [show (k : Int).toNat = k by omega, hp] at this
     rwa [show (k : Int).toNat = k by omega]
   refine WC.skip ?_
   refine WC.seq ?_
   refine WC.block ?_
   refine WC.regionA F (by kernel_rfl) ?_
   refine WA.t 0 rfl (V.move (OV.p rfl)) ?_
   refine WA.t 1 rfl (V.move (OV.p rfl)) ?_
   refine WA.t 2 rfl (V.move (OV.p rfl)) ?_
   refine WA.t 3 rfl (V.idxS st42 (OV.p rfl) (OV.p rfl) (fun hc => by omega) (fun hc => hrl)) ?_
   refine WA.t 4 rfl (V.load Tryz.isAgg3 (OV.p rfl) (fun hc => hrl)) ?_
   refine WA.t 5 rfl (V.move (OV.p rfl)) ?_
   refine WA.t 6 rfl (V.move (OV.p rfl)) ?_
   refine WA.t 7 rfl (V.move (OV.p rfl)) ?_
   refine WA.t 8 rfl (V.idxS st42 (OV.p rfl) (OV.p rfl) (fun hc => by omega) (fun hc => hrl)) ?_
   refine WA.t 9 rfl (V.load Tryz.isAgg3 (OV.p rfl) (fun hc => hrl)) ?_
   refine WA.t 10 rfl (V.idxB st42 (OV.p rfl) (OV.p rfl) (fun hc => by omega)) ?_
   refine WA.o 11 rfl ?_
   refine WL.val (V.load Tryz.isAgg3 (OV.p rfl) (fun hc => Rd.here hgp)) rfl ?_
   refine WL.nil ?_
   refine WA.t 12 rfl (V.subI (OV.p rfl) (OV.p rfl) (fun hc => by first | omega | (simp at hc; omega))) ?_
   refine WA.t 13 rfl (V.idxB st42 (OV.p rfl) (OV.p rfl) (fun hc => by omega)) ?_
   refine WA.o 14 rfl ?_
   refine WL.store (cs := [_]) Tryz.sizeOf3 (OV.p rfl) (OV.p rfl) rfl rfl rfl (Upd.at_ (by simp [ints, allI_length]; omega)) ?_
   refine WL.nil ?_
   refine WA.fin ?_
   refine WC.region ?_
   refine WL.val (V.move (OV.p rfl)) rfl ?_
   refine WL.val (V.addI (OV.p rfl) (OV.p rfl) (fun hc => by first | omega | (simp at hc; omega))) rfl ?_
   refine WL.val (V.assign (OV.p rfl)) rfl ?_
   refine WL.nil ?_
   refine ⟨rfl, ?_⟩
   refine ⟨k + 1, (by show k + 1 ≤ q; omega), (by show q - (k + 1) < q - k; omega), .cons rfl (.cons rfl (.cons (look_eq rfl (by simp)) (.nil _))), fun w h => ?_⟩
   have he : turn xs (l.take (k + 1)) = turn1 ys (p : Int) := by rw [turn_take (by omega), ← hys, hp]
   have hse : (ints .i64 (allI ys) ++ rest).set (0 + ((p : Int)).toNat * 1) (.int .i64 (1 - (allI ys).getD p 0)) = ints .i64 (allI (turn1 ys (p : Int))) ++ rest := by
     rw [show 0 + ((p : Int)).toNat * 1 = p by omega, List.set_append, if_pos (by simp [ints, allI_length]; omega), ← all_turn1 hyb (by omega)]
     simp [ints, List.map_set]
   rw [hse] at h
   dsimp only
   rw [he]
   have hal : (ints .i64 (allI (turn1 ys (p : Int)))).length = 8 * m := by simp [ints, allI_length, turn1_length]; omega
   have h' := Sat.toSl (m := 8 * m) (cap := c1) (s := 1) h (by rw [List.length_append, hal, Nat.mul_one]; exact hcl) (by omega) hc1.2
   rw [Nat.mul_one, List.take_left' hal] at h'
   exact h'
  ·simp only [decide_eq_true_eq, decide_eq_false_iff_not] at hc0
   refine WC.exit ?_
   refine WC.seq ?_
   obtain rfl : k = q := by omega
   rw [List.take_of_length_le (by omega)]
   refine WC.region ?_
   refine WL.val (V.move (OV.p rfl)) rfl ?_
   refine WL.call (vs := [_]) Tryz.call147 ⟨OV.p rfl, trivial⟩ (ref01_Put (l := allI (turn xs l)) (SlA.seq (cs := ints .i64 (allI (turn xs l))) (by simp [ints, allI_length, turn_length, hl])) (allI_bits _) (by omega)) rfl ?_
   rintro _ _ ⟨g, rfl, rfl⟩
   refine WL.val (V.assign (OV.p rfl)) rfl ?_
   refine WL.nil ?_
   refine WC.ret ?_
   have hxt : IsBytes (turn xs l) := turn_isb hx hi
   rw [put_all hxt]
   have e : (8 * m + 7) / 8 = m := by omega
   rw [e]
   exact BodyQ.ret (H' := Cells g 5 (ints .u8 (turn xs l)) :: F) (Res.tmp rfl rfl) (fun w h => h.sel 2 [0] rfl) ⟨g, rfl, rfl⟩
end
end Go.Proofs.YtohkefolnmcjnaaGreat
/- casemateref04.Mod; casemateref05: Word, padded. -/
namespace Go.Proofs.YtohkefolnmcjnaaGreat
open Go.Sl Go.RowKit
set_option linter.unusedVariables false
set_option linter.unusedSimpArgs false
set_option maxRecDepth 20000

theorem normLen_topE {xs : List Nat} : ∀ n, 0 < normLen xs n → xs.getD (normLen xs n - 1) 0 ≠ 0
  | 0, h => absurd h (Nat.lt_irrefl 0)
  | n + 1, h => by
    rw [normLen] at h ⊢
    split at h
    · rename_i h1; rw [if_pos h1]; exact normLen_topE n h
    · rename_i h1; rw [if_neg h1]; exact h1
theorem bitL_high {xs : List Nat} {m j : Nat} (hm : xs.length = m) (h : normLen xs m ≤ j) : bitL xs j = false := by
  rcases Nat.lt_or_ge j m with h1 | h1
  · unfold bitL; rw [normLen_zero m j h h1]; rfl
  · exact bitL_none (by omega)
theorem bitL_top {xs : List Nat} {m : Nat} (hs : Small 2 xs) (h : 0 < normLen xs m) : bitL xs (normLen xs m - 1) = true := by
  unfold bitL
  have h1 := normLen_topE m h
  have h2 := hs.at_ (by decide) (normLen xs m - 1)
  exact decide_eq_true (by omega)
theorem normLen_below {xs : List Nat} {m n : Nat} (hs : Small 2 xs) (h : ∀ j, n ≤ j → bitL xs j = false) : normLen xs m ≤ n := by
  rcases Nat.lt_or_ge n (normLen xs m) with h1 | h1
  · have h2 := bitL_top (m := m) hs (by omega)
    rw [h _ (by omega)] at h2
    cases h2
  · exact h1
theorem redTo_next {f g : Nat → Bool} {d N n k : Nat} (hf : ∀ i, N ≤ i → f i = false) (hgd : g d = true) (hgh : ∀ i, d < i → g i = false) (hk : k ≤ N - d) (hdn : d ≤ n) (hnN : n < N)
    (htop : redTo f g d N k n = true) (hhigh : ∀ j, n < j → redTo f g d N k j = false) :
    N - 1 - n + 1 ≤ N - d ∧ ∀ j, redTo f g d N (N - 1 - n + 1) j = (redTo f g d N k j ^^ (decide (n - d ≤ j) && decide (j - (n - d) < d + 1) && g (j - (n - d)))) := by
  have h1 : n < N - k := by
    rcases Nat.lt_or_ge n (N - k) with h | h
    · exact h
    · have := redTo_high hf hgd hgh k hk n h
      rw [htop] at this; cases this
  have h2 : ∀ j, redTo f g d N (N - 1 - n) j = redTo f g d N k j := by
    have := redTo_skip (f := f) (g := g) (d := d) (N := N) (k := k) (N - 1 - n - k) (fun i k1 k2 => hhigh i (by omega)) (by omega)
    rwa [show k + (N - 1 - n - k) = N - 1 - n by omega] at this
  refine ⟨by omega, fun j => ?_⟩
  rw [redTo, h2, h2, show N - 1 - (N - 1 - n) = n by omega, htop, if_pos rfl]
  congr 1
  by_cases h : j - (n - d) < d + 1
  · rw [decide_eq_true h, Bool.and_true]
  · rw [decide_eq_false h, Bool.and_false, Bool.false_and, hgh _ (by omega), Bool.and_false]
theorem redTo_end {f g : Nat → Bool} {d N k : Nat} (hk : k ≤ N - d) (hhigh : ∀ j, d ≤ j → redTo f g d N k j = false) : ∀ j, redTo f g d N (N - d) j = redTo f g d N k j := by
  have := redTo_skip (f := f) (g := g) (d := d) (N := N) (k := k) (N - d - k) (fun i k1 k2 => hhigh i (by omega)) (by omega)
  rwa [show k + (N - d - k) = N - d by omega] at this
section
variable {K : World} {F : List Assn}
theorem ref04_Mod {A B : Option Addr} {m q cap cap' d : Nat} {xs ys : List Nat} (hs : Seq K F A m 1 (nats .i64 xs)) (hq : Seq K F B q 1 (nats .i64 ys)) (hx : Small 2 xs) (hy : Small 2 ys) (hm : 0 < m ∧ m ≤ 100000) (hqm : q ≤ 100000) (hd : normLen ys q = d + 1) :
    Does Tryz.prog 177 #[.slice A m cap, .slice B q cap'] K F (fun v H' => ∃ g c R r, v = .slice (some ⟨g, 0, none⟩) m c ∧ H' = Cells g 3 (nats .i64 R ++ r) :: F ∧ (nats .i64 R ++ r).length = c ∧ Small 2 R ∧ R.length = m ∧ ∀ j, bitL R j = redTo (bitL xs) (bitL ys) d m (m - d) j) := by
  have hl : xs.length = m := by simpa [nats] using hs.len
  have hql : ys.length = q := by simpa [nats] using hq.len
  have hdq := normLen_le ys q
  have hgd : bitL ys d = true := by have := bitL_top (m := q) hy (by omega); rwa [hd, Nat.add_sub_cancel] at this
  have hgh : ∀ i, d < i → bitL ys i = false := fun i hi => bitL_high hql (by omega)
  have hf : ∀ i, m ≤ i → bitL xs i = false := fun i hi => bitL_none (by omega)
  refine Does.enter Tryz.func177 rfl Tryz.ntmps177 rfl ?_
  simp only [env0, Nat.reduceAdd]
  refine WC.sr ?_
  refine WL.val (V.assign (OV.p rfl)) rfl ?_
  refine WL.nil ?_
  refine WC.sr ?_
  refine WL.val (V.assign (OV.p rfl)) rfl ?_
  refine WL.nil ?_
  refine WC.sr ?_
  refine WL.val (V.move (OV.p rfl)) rfl ?_
  refine WL.val (V.move (OV.p rfl)) rfl ?_
  refine WL.sub (H' := SlA (.slice none 0 0) 3 1 0 [] :: F) (Sub.refl _) (fun w h => Sat.slNil h _ _) ?_
  refine WL.append (m := 0) (cs := []) Tryz.underlying42 el3 (OV.p rfl) (OV.p rfl) (by repeat (first | exact hs | apply Seq.up)) (nats_one _ _) (by omega) rfl rfl (fun A' c' hn' hc' => ?_)
  rw [Nat.zero_add, List.nil_append]
  refine WL.val (V.assign (OV.p rfl)) rfl ?_
  refine WL.nil ?_
  refine WC.seq ?_
  refine WC.ex (slA_row1 hm.1) (fun ⟨g, rest⟩ ⟨e1, hc1⟩ => ?_)
  dsimp only at e1 hc1 ⊢
  subst e1
  refine WC.region ?_
  refine WL.val (V.move (OV.p rfl)) rfl ?_
  refine WL.call (vs := [_]) Tryz.call199 ⟨OV.p rfl, trivial⟩ (Tells.eq (v' := .int .i64 (d : Int)) (ref04_Degree (hq.up) (by omega)) (by rw [hd]; congr 1; omega)) rfl ?_
  rintro _ H0 ⟨rfl, h0⟩
  subst H0
  refine WL.val (V.assign (OV.p rfl)) rfl ?_
  refine WL.nil ?_
  refine WC.seq ?_
  refine WC.sr ?_
  refine WL.val (V.move (OV.p rfl)) rfl ?_
  refine WL.call (vs := [_]) Tryz.call199 ⟨OV.p rfl, trivial⟩ (ref04_Degree (Seq.pre (by rw [nats_length, hl])) (by omega)) rfl ?_
  rintro _ H0 ⟨rfl, h0⟩
  subst H0
  refine WL.val (V.assign (OV.p rfl)) rfl ?_
  refine WL.nil ?_
  refine WC.block ?_
  refine WC.loop (σ := List Nat × Nat) (fun s => [(1, .slice B q cap'), (5, .slice (some ⟨g, 0, none⟩) m c'), (6, .int .i64 (d : Int)), (7, .int .i64 ((normLen s.1 m : Int) - 1))]) (fun s => Cells g 3 (nats .i64 s.1 ++ rest) :: F) (fun s => s.1.length = m ∧ Small 2 s.1 ∧ s.2 ≤ m - d ∧ ∀ j, bitL s.1 j = redTo (bitL xs) (bitL ys) d m s.2 j) (fun s => normLen s.1 m) (xs, 0) ⟨hl, hx, Nat.zero_le _, fun j => rfl⟩ (.cons rfl (.cons rfl (.cons rfl (.cons rfl (.nil _))))) (fun w h => h) ?_
  rintro ⟨o, k⟩ ⟨hol, hos, hkm, hob⟩
  dsimp only at hol hos hkm hob ⊢
  have hnl := normLen_le o m
  refine WC.seq ?_
  refine WC.sr ?_
  refine WL.val (V.move (OV.p rfl)) rfl ?_
  refine WL.val (V.move (OV.p rfl)) rfl ?_
  refine WL.val (V.geq (OV.p rfl) (OV.p rfl)) rfl ?_
  refine WL.nil ?_
  refine WC.cond rfl (fun hc0 => ?_) (fun hc0 => ?_)
  ·simp only [decide_eq_true_eq, decide_eq_false_iff_not] at hc0
   obtain ⟨n, hn⟩ : ∃ n, n = normLen o m - 1 := ⟨_, rfl⟩
   have hn1 : normLen o m = n + 1 := by omega
   have hdn : d ≤ n := by omega
   obtain ⟨s, hse⟩ : ∃ s, s = n - d := ⟨_, rfl⟩
   rw [hn1]
   refine WC.skip ?_
   refine WC.seq ?_
   refine WC.block ?_
   refine WC.sr ?_
   refine WL.val (V.assign (OV.p rfl)) rfl ?_
   refine WL.nil ?_
   refine WC.block ?_
   refine WC.loop (σ := Nat) (fun j => [(1, .slice B q cap'), (5, .slice (some ⟨g, 0, none⟩) m c'), (6, .int .i64 (d : Int)), (7, .int .i64 (((n + 1 : Nat) : Int) - 1)), (8, .int .i64 (j : Int))]) (fun j => Cells g 3 (nats .i64 (lay2 o ys s j) ++ rest) :: F) (fun j => j ≤ d + 1) (fun j => d + 1 - j) 0 (Nat.zero_le _) (.cons rfl (.cons rfl (.cons rfl (.cons rfl (.cons rfl (.nil _)))))) (fun w h => h) ?_
   rintro j hj
   refine WC.seq ?_
   refine WC.sr ?_
   refine WL.val (V.move (OV.p rfl)) rfl ?_
   refine WL.val (V.move (OV.p rfl)) rfl ?_
   refine WL.val (V.leq (OV.p rfl) (OV.p rfl)) rfl ?_
   refine WL.nil ?_
   refine WC.cond rfl (fun hc1 => ?_) (fun hc1 => ?_)
   ·simp only [decide_eq_true_eq, decide_eq_false_iff_not] at hc1
    have hjd : j ≤ d := by omega
    obtain ⟨p, hp⟩ : ∃ p, p = lay2 o ys s j := ⟨_, rfl⟩
    have hpl : p.length = m := by rw [hp, lay2_length, hol]
    have hps : Small 2 p := by rw [hp]; exact lay2_small hos j
    rw [← hp]
    obtain ⟨bj, hbj⟩ : ∃ bj, bj = ys.getD j 0 := ⟨_, rfl⟩
    have hbj2 : bj < 2 := by rw [hbj]; exact hy.at_ (by decide) j
    obtain ⟨c, hc⟩ : ∃ c, c = p.getD (s + j) 0 := ⟨_, rfl⟩
    have hc2 : c < 2 := by rw [hc]; exact hps.at_ (by decide) _
    have hry : Rd K F (B.map (·.add ((j : Int).toNat * 1))) (.int .i64 (bj : Int)) := by
      rw [show (j : Int).toNat = j by omega, hbj]; exact hq.nat_rd (by omega)
    have hgp : (nats .i64 p ++ rest)[0 + ((s + j : Nat) : Int).toNat * 1]? = some (.int .i64 (c : Int)) := by
      rw [show 0 + ((s + j : Nat) : Int).toNat * 1 = s + j by omega, hc]; exact nats_getA _ _ _ (by omega)
    refine WC.skip ?_
    refine WC.seq ?_
    refine WC.block ?_
    refine WC.regionA F (by kernel_rfl) ?_
    refine WA.t 0 rfl (V.move (OV.p rfl)) ?_
    refine WA.t 1 rfl (V.move (OV.p rfl)) ?_
    refine WA.t 2 rfl (V.move (OV.p rfl)) ?_
    refine WA.t 3 rfl (V.val_eq (v' := .int .i64 (s : Int)) (V.subI (OV.p rfl) (OV.p rfl) (fun _ => by omega)) (fun _ => by congr 1; omega)) ?_
    refine WA.t 4 rfl (V.move (OV.p rfl)) ?_
    refine WA.t 5 rfl (V.val_eq (v' := .int .i64 ((s + j : Nat) : Int)) (V.addI (OV.p rfl) (OV.p rfl) (fun _ => by omega)) (fun _ => by congr 1)) ?_
    refine WA.t 6 rfl (V.move (OV.p rfl)) ?_
    refine WA.t 7 rfl (V.move (OV.p rfl)) ?_
    refine WA.t 8 rfl (V.move (OV.p rfl)) ?_
    refine WA.t 9 rfl (V.val_eq (v' := .int .i64 (s : Int)) (V.subI (OV.p rfl) (OV.p rfl) (fun _ => by omega)) (fun _ => by congr 1; omega)) ?_
    refine WA.t 10 rfl (V.move (OV.p rfl)) ?_
    refine WA.t 11 rfl (V.val_eq (v' := .int .i64 ((s + j : Nat) : Int)) (V.addI (OV.p rfl) (OV.p rfl) (fun _ => by omega)) (fun _ => by congr 1)) ?_
    refine WA.t 12 rfl (V.idxB st42 (OV.p rfl) (OV.p rfl) (fun hc => by omega)) ?_
    refine WA.t 14 rfl (V.move (OV.p rfl)) ?_
    refine WA.t 15 rfl (V.move (OV.p rfl)) ?_
    refine WA.t 16 rfl (V.idxS st42 (OV.p rfl) (OV.p rfl) (fun hc => by omega) (fun hc => hry)) ?_
    refine WA.t 17 rfl (V.load Tryz.isAgg3 (OV.p rfl) (fun hc => hry)) ?_
    refine WA.o 13 rfl ?_
    refine WL.val (V.load Tryz.isAgg3 (OV.p rfl) (fun hc => Rd.here hgp)) rfl ?_
    refine WL.nil ?_
    refine WA.t 18 rfl (V.addI (OV.p rfl) (OV.p rfl) (fun hc => by first | omega | (simp at hc; omega))) ?_
    refine WA.t 19 rfl (V.val_eq (v' := .int .i64 (((c + bj) % 2 : Nat) : Int)) (V.remI (OV.p rfl) (OV.p rfl) (fun _ => by omega)) (fun _ => by congr 1)) ?_
    refine WA.t 20 rfl (V.idxB st42 (OV.p rfl) (OV.p rfl) (fun hc => by omega)) ?_
    refine WA.o 21 rfl ?_
    refine WL.store (cs := [_]) Tryz.sizeOf3 (OV.p rfl) (OV.p rfl) rfl rfl rfl (Upd.at_ (by rw [List.length_append, nats_length]; omega)) ?_
    refine WL.nil ?_
    refine WA.fin ?_
    refine WC.region ?_
    refine WL.val (V.move (OV.p rfl)) rfl ?_
    refine WL.val (V.addI (OV.p rfl) (OV.p rfl) (fun hc => by first | omega | (simp at hc; omega))) rfl ?_
    refine WL.val (V.assign (OV.p rfl)) rfl ?_
    refine WL.nil ?_
    refine ⟨rfl, ?_⟩
    refine ⟨j + 1, (by show j + 1 ≤ d + 1; omega), (by show d + 1 - (j + 1) < d + 1 - j; omega), .cons rfl (.cons rfl (.cons rfl (.cons rfl (.cons (look_eq rfl (by simp)) (.nil _))))), fun w h => Sat.cells_eq h ?_⟩
    rw [show 0 + ((s + j : Nat) : Int).toNat * 1 = s + j by omega, nats_setA _ _ _ (by omega), lay2, ← hp, ← hc, ← hbj]
   ·simp only [decide_eq_true_eq, decide_eq_false_iff_not] at hc1
    refine WC.exit ?_
    obtain rfl : j = d + 1 := by omega
    obtain ⟨p, hp⟩ : ∃ p, p = lay2 o ys s (d + 1) := ⟨_, rfl⟩
    have hpl : p.length = m := by rw [hp, lay2_length, hol]
    have hps : Small 2 p := by rw [hp]; exact lay2_small hos _
    have htop : redTo (bitL xs) (bitL ys) d m k n = true := by rw [← hob]; have := bitL_top (m := m) hos (by omega); rwa [hn1, Nat.add_sub_cancel] at this
    obtain ⟨hk2, hnx⟩ := redTo_next hf hgd hgh hkm hdn (by omega) htop (fun j hj => by rw [← hob]; exact bitL_high hol (by omega))
    have hpb : ∀ j, bitL p j = redTo (bitL xs) (bitL ys) d m (m - 1 - n + 1) j := fun j => by rw [hnx, ← hob, hp, bitL_lay hos hy _ (by omega), hse]
    have hpn : normLen p m ≤ n := normLen_below hps (fun j hj => by rw [hpb]; exact redTo_high hf hgd hgh _ hk2 j (by omega))
    rw [← hp]
    refine WC.region ?_
    refine WL.val (V.move (OV.p rfl)) rfl ?_
    refine WL.call (vs := [_]) Tryz.call199 ⟨OV.p rfl, trivial⟩ (ref04_Degree (Seq.pre (by rw [nats_length, hpl])) (by omega)) rfl ?_
    rintro _ H0 ⟨rfl, h0⟩
    subst H0
    refine WL.val (V.assign (OV.p rfl)) rfl ?_
    refine WL.nil ?_
    refine ⟨rfl, ?_⟩
    exact ⟨(p, m - 1 - n + 1), ⟨hpl, hps, hk2, hpb⟩, (by show normLen p m < normLen o m; omega), .cons rfl (.cons rfl (.cons rfl (.cons rfl (.nil _)))), fun w h => h⟩
  ·simp only [decide_eq_true_eq, decide_eq_false_iff_not] at hc0
   refine WC.exit ?_
   refine WC.sr ?_
   refine WL.val (V.move (OV.p rfl)) rfl ?_
   refine WL.val (V.assign (OV.p rfl)) rfl ?_
   refine WL.nil ?_
   refine WC.ret ?_
   refine BodyQ.ret (H' := Cells g 3 (nats .i64 o ++ rest) :: F) (Res.tmp rfl rfl) (fun w h => h) ⟨g, c', o, rest, rfl, rfl, ?_, hos, hol, fun j => ?_⟩
   · have h1 := hc1.1
     rw [List.length_append, nats_length] at h1 ⊢
     omega
   · rw [hob, redTo_end hkm (fun j hj => by rw [← hob]; exact bitL_high hol (by omega))]
end
/-! ### Words -/
def wordN (t : Nat) (d m : List Nat) : List Nat := (List.range (13 * t)).map (fun i => bit1 (bitAt m i)) ++ (List.range (8 * d.length)).map (fun i => bit1 (bitAt d i))
theorem wordN_length (t : Nat) (d m : List Nat) : (wordN t d m).length = 13 * t + 8 * d.length := by simp [wordN]
theorem bit1_le (b : Bool) : bit1 b < 2 := by cases b <;> decide
theorem wordN_small (t : Nat) (d m : List Nat) : Small 2 (wordN t d m) := fun x hx => by
  rcases List.mem_append.1 hx with h | h
  all_goals obtain ⟨i, _, rfl⟩ := List.mem_map.1 h; exact bit1_le _
theorem bit1_one (b : Bool) : decide (bit1 b = 1) = b := by cases b <;> rfl
theorem bitL_word (t : Nat) (d m : List Nat) (i : Nat) : bitL (wordN t d m) i = wAt t d m i := by
  unfold bitL wordN wAt
  by_cases h : 13 * t ≤ i
  · rw [if_pos h, List.getD, List.getElem?_append_right (by simp; omega)]
    simp only [List.length_map, List.length_range]
    by_cases h2 : i - 13 * t < 8 * d.length
    · rw [List.getElem?_map, List.getElem?_range h2]
      exact bit1_one _
    · rw [List.getElem?_map, List.getElem?_eq_none (by simp; omega), bitAt_none (by omega)]; rfl
  · rw [if_neg h, List.getD, List.getElem?_append_left (by simp; omega), List.getElem?_map, List.getElem?_range (by omega)]
    exact bit1_one _
theorem intsOf_getD (xs : List Nat) (i : Nat) : (intsOf xs).getD i 0 = ((xs.getD i 0 : Nat) : Int) := by
  unfold intsOf
  simp only [List.getD, List.getElem?_map]
  cases xs[i]? <;> rfl
theorem bitOf_nat (xs : List Nat) (i : Nat) : bitOf (intsOf xs) i = ((bit1 (bitAt xs i) : Nat) : Int) := by
  unfold bitOf bitK bitAt
  rw [intsOf_getD, Nat.testBit_eq_decide_div_mod_eq]
  obtain ⟨p, hp⟩ : ∃ p, p = 2 ^ (i % 8) := ⟨_, rfl⟩
  obtain ⟨x, hx⟩ : ∃ x, x = xs.getD (i / 8) 0 := ⟨_, rfl⟩
  have hpc : (2 : Int) ^ (i % 8) = (p : Int) := by rw [hp]; simp
  rw [hpc, ← hp, ← hx, ← Int.natCast_ediv]
  unfold bit1
  by_cases h : x / p % 2 = 1
  · rw [decide_eq_true h, if_pos rfl]; omega
  · rw [decide_eq_false h, if_neg Bool.false_ne_true]; omega
theorem allI_nat (xs : List Nat) : allI (intsOf xs) = intsOf ((List.range (8 * xs.length)).map (fun i => bit1 (bitAt xs i))) := by
  unfold allI
  rw [show (intsOf xs).length = xs.length by simp [intsOf]]
  conv => rhs; unfold intsOf
  rw [List.map_map]
  apply List.map_congr_left
  intro i _
  exact bitOf_nat xs i
section
variable {K : World} {F : List Assn}
theorem ref05_Word {t : Nat} {A B : Option Addr} {m q cap cap' : Nat} {d mo : List Nat} (ht : 1 ≤ t ∧ t ≤ 8) (hd : Seq K F A m 1 (nats .u8 d)) (hm : Seq K F B q 1 (nats .u8 mo)) (hd8 : Small 256 d) (hm8 : Small 256 mo) (hml : q = moreLen t) (hm5 : m ≤ 512) :
    Does Tryz.prog 178 #[.int .i64 (t : Int), .slice A m cap, .slice B q cap'] K F (fun v H' => ∃ A' c', v = .slice A' (13 * t + 8 * m) c' ∧ H' = SlA (.slice A' (13 * t + 8 * m) c') 3 1 (13 * t + 8 * m) (nats .i64 (wordN t d mo)) :: F) := by
  have hl : d.length = m := by simpa [nats] using hd.len
  have hql : mo.length = q := by simpa [nats] using hm.len
  have hm7 : 13 * t ≤ 8 * q := by rw [hml]; unfold moreLen; omega
  have hm9 : q ≤ 13 := by rw [hml]; unfold moreLen; omega
  have hwl := wordN_length t d mo
  obtain ⟨W, hW⟩ : ∃ W, W = wordN t d mo := ⟨_, rfl⟩
  have hdi : Seq K F A m 1 (ints .u8 (intsOf d)) := by rw [← nats_intsOf]; exact hd
  have hmi : Seq K F B q 1 (ints .u8 (intsOf mo)) := by rw [← nats_intsOf]; exact hm
  rw [← hW] at hwl ⊢
  refine Does.enter Tryz.func178 rfl Tryz.ntmps178 rfl ?_
  simp only [env0, Nat.reduceAdd]
  refine WC.sr ?_
  refine WL.val (V.assign (OV.p rfl)) rfl ?_
  refine WL.nil ?_
  refine WC.sr ?_
  refine WL.val (V.assign (OV.p rfl)) rfl ?_
  refine WL.nil ?_
  refine WC.seq ?_
  refine WC.sr ?_
  refine WL.val (V.assign (OV.p rfl)) rfl ?_
  refine WL.nil ?_
  refine WC.block ?_
  refine WC.loop (σ := Nat × Option Addr × Nat) (fun x => [(0, .int .i64 (t : Int)), (1, .slice A m cap), (2, .slice B q cap'), (7, .slice x.2.1 x.1 x.2.2), (8, .int .i64 (x.1 : Int))]) (fun x => SlA (.slice x.2.1 x.1 x.2.2) 3 1 x.1 (nats .i64 (W.take x.1)) :: F) (fun x => x.1 ≤ 13 * t) (fun x => 13 * t - x.1) (0, none, 0) (Nat.zero_le _) (.cons rfl (.cons rfl (.cons rfl (.cons rfl (.cons rfl (.nil _)))))) (fun w h => Sat.slNil h _ _) ?_
  rintro ⟨j, Ao, co⟩ hj
  dsimp only at hj ⊢
  refine WC.seq ?_
  refine WC.sr ?_
  refine WL.val (V.move (OV.p rfl)) rfl ?_
  refine WL.val (V.move (OV.p rfl)) rfl ?_
  refine WL.val (V.mulI (OV.p rfl) (OV.p rfl) (fun hc => by first | omega | (simp at hc; omega))) rfl ?_
  refine WL.val (V.lss (OV.p rfl) (OV.p rfl)) rfl ?_
  refine WL.nil ?_
  refine WC.cond rfl (fun hc0 => ?_) (fun hc0 => ?_)
  ·simp only [decide_eq_true_eq, decide_eq_false_iff_not] at hc0
   refine WC.skip ?_
   refine WC.seq ?_
   refine WC.block ?_
   refine WC.region ?_
   refine WL.val (V.move (OV.p rfl)) rfl ?_
   refine WL.val (V.move (OV.p rfl)) rfl ?_
   refine WL.val (V.move (OV.p rfl)) rfl ?_
   refine WL.call (vs := [_, _]) Tryz.call181 ⟨OV.p rfl, OV.p rfl, trivial⟩ (ref01_At (hmi.up) (intsOf_bytes hm8) (i := j) (by omega) (by omega)) rfl ?_
   rintro _ H0 ⟨rfl, h0⟩
   subst H0
   refine WL.buildSlice (E := 3) (cs := [_]) (vs := [(0, _)]) ⟨OV.p rfl, trivial⟩ rfl (bsl42_1_0 _) rfl (fun b19 => ?_)
   refine WL.sub (Sub.refl _) (fun w h => h.p1) ?_
   refine WL.append (m := j) (q := 1) Tryz.underlying42 el3 (OV.p rfl) (OV.p rfl) (Seq.all rfl) (by intro u hu; rw [List.mem_singleton.1 hu]; rfl) (by omega) rfl rfl (fun A' c' hA' hc' => ?_)
   refine WL.val (V.assign (OV.p rfl)) rfl ?_
   refine WL.nil ?_
   refine WC.region ?_
   refine WL.val (V.move (OV.p rfl)) rfl ?_
   refine WL.val (V.addI (OV.p rfl) (OV.p rfl) (fun hc => by first | omega | (simp at hc; omega))) rfl ?_
   refine WL.val (V.assign (OV.p rfl)) rfl ?_
   refine WL.nil ?_
   refine ⟨rfl, ?_⟩
   refine ⟨(j + 1, A', c'), (by show j + 1 ≤ 13 * t; omega), (by show 13 * t - (j + 1) < 13 * t - j; omega), .cons rfl (.cons rfl (.cons rfl (.cons rfl (.cons (look_eq rfl (by simp)) (.nil _))))), fun w h => ?_⟩
   have h' := h.sel 2 [0] rfl
   have he : W.take (j + 1) = W.take j ++ [bit1 (bitAt mo j)] := by
     rw [List.take_add_one, List.getElem?_eq_getElem (by omega)]
     have : W[j]? = some (bit1 (bitAt mo j)) := by rw [hW]; unfold wordN; rw [List.getElem?_append_left (by simp; omega), List.getElem?_map, List.getElem?_range (by omega)]; rfl
     rw [List.getElem?_eq_getElem (by omega)] at this
     injection this with this
     rw [this]; rfl
   dsimp only
   rw [he, nats_append]
   rw [bitOf_nat] at h'
   exact h'
  ·simp only [decide_eq_true_eq, decide_eq_false_iff_not] at hc0
   refine WC.exit ?_
   refine WC.seq ?_
   obtain rfl : j = 13 * t := by omega
   refine WC.region ?_
   refine WL.val (V.move (OV.p rfl)) rfl ?_
   refine WL.val (V.move (OV.p rfl)) rfl ?_
   refine WL.call (vs := [_]) Tryz.call145 ⟨OV.p rfl, trivial⟩ (ref01_All (hdi.up) (intsOf_bytes hd8) (by omega)) rfl ?_
   rintro _ _ ⟨A1, c1, rfl, rfl⟩
   refine WL.sub (Sub.refl _) (fun w h => h.p1) ?_
   refine WL.append (m := 13 * t) (q := 8 * m) (news := ints .i64 (allI (intsOf d))) Tryz.underlying42 el3 (OV.p rfl) (OV.p rfl) (SlA.seq (by rw [ints_length, allI_length]; simp [intsOf, hl])) (ints_one _ _) (by omega) rfl rfl (fun A' c' hA' hc' => ?_)
   refine WL.val (V.assign (OV.p rfl)) rfl ?_
   refine WL.nil ?_
   refine WC.sr ?_
   refine WL.val (V.move (OV.p rfl)) rfl ?_
   refine WL.val (V.assign (OV.p rfl)) rfl ?_
   refine WL.nil ?_
   refine WC.ret ?_
   refine BodyQ.ret (H' := SlA (.slice A' (13 * t + 8 * m) c') 3 1 (13 * t + 8 * m) (nats .i64 W) :: F) (Res.tmp rfl rfl) (fun w h => ?_) ⟨A', c', rfl, rfl⟩
   have h' := h.sel 2 [0] rfl
   have he : nats .i64 W = nats .i64 (W.take (13 * t)) ++ ints .i64 (allI (intsOf d)) := by
     rw [allI_nat, ← nats_intsOf, ← nats_append]
     congr 1
     rw [hW]
     unfold wordN
     rw [List.take_left' (by simp)]
   rw [he]
   exact h'
theorem ref05_padded {A : Option Addr} {m cap : Nat} {n : Int} (h : n = (m : Int)) : Tells Tryz.prog 180 #[.slice A m cap, .int .i64 n] K F (.slice A m cap) := by
  refine Does.enter Tryz.func180 rfl Tryz.ntmps180 rfl ?_
  simp only [env0, Nat.reduceAdd]
  refine WC.sr ?_
  refine WL.val (V.assign (OV.p rfl)) rfl ?_
  refine WL.nil ?_
  refine WC.seq ?_
  refine WC.block ?_
  refine WC.loop (σ := Unit) (fun _ => [(0, .slice A m cap), (1, .int .i64 n)]) (fun _ => F) (fun _ => True) (fun _ => 0) () trivial (.cons rfl (.cons rfl (.nil _))) (fun w h => h) ?_
  rintro _ _
  refine WC.seq ?_
  refine WC.sr ?_
  refine WL.val (V.move (OV.p rfl)) rfl ?_
  refine WL.val (V.len (t := 38) Tryz.runUnderlying38 (OV.p rfl)) rfl ?_
  refine WL.val (V.move (OV.p rfl)) rfl ?_
  refine WL.val (V.lss (OV.p rfl) (OV.p rfl)) rfl ?_
  refine WL.nil ?_
  refine WC.condF' rfl ((decide_eq_false (by omega))) ?_
  refine WC.exit ?_
  refine WC.sr ?_
  refine WL.val (V.move (OV.p rfl)) rfl ?_
  refine WL.val (V.assign (OV.p rfl)) rfl ?_
  refine WL.nil ?_
  refine WC.ret ?_
  exact BodyQ.ret (H' := F) (Res.tmp rfl rfl) (fun w h => h) ⟨rfl, rfl⟩
end
end Go.Proofs.YtohkefolnmcjnaaGreat
