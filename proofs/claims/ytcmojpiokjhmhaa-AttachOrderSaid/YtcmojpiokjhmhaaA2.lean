/- slices: swapRange, rotate, symMerge, walked at []api.Found. -/
import Derived.Test.YtcmojpiokjhmhaaA1
namespace Go.Proofs.Ytcmojpiokjhmhaa
open Go.Sl Go.RowKit
set_option linter.unusedVariables false
set_option linter.unusedSimpArgs false
set_option maxRecDepth 20000

theorem found_rds {K : World} {F : List Assn} {g j o : Nat} {ys : List Fd} {r : List Value} (hj : j < ys.length) (ho : o = j * 5) : Rds K (Cells g 26 (flatF ys ++ r) :: F) g o (el ys j).cells := by
  rw [ho]; exact flatF_rds hj
theorem half_u {x y : Nat} : ((x : Int) + (y : Int)).fdiv (2 ^ (min (1 : Int).toNat IntKind.u64.bits)) = (((x + y) / 2 : Nat) : Int) := by
  rw [show min (1 : Int).toNat IntKind.u64.bits = 1 from rfl, Int.fdiv_eq_ediv_of_nonneg _ (by decide)]
  omega
theorem wrap_u64 {i : Int} (h : 0 ≤ i ∧ i < 18446744073709551616) : IntKind.u64.wrap i = i := by
  simp [IntKind.wrap, IntKind.signed, IntKind.bits]
  omega
section
variable {K : World} {F : List Assn} {f g L cap : Nat} {c : Fd → Fd → Int} {r : List Value}
theorem swapRange_found {ys : List Fd} {a b n : Nat} {ai bi ni : Int} (ea : ai = (a : Int)) (eb : bi = (b : Int)) (en : ni = (n : Int)) (hl : ys.length = L) (hL : L ≤ 1000000) (hab : a + n ≤ b) (hb : b + n ≤ L) :
    Does Try.prog 22 #[.slice (some ⟨g, 0, none⟩) L cap, .int .i64 ai, .int .i64 bi, .int .i64 ni, .func (.func f) #[] #[]] K (Cells g 26 (flatF ys ++ r) :: F) (fun v H' => ∃ zs, Swd a b n ys zs ∧ H' = Cells g 26 (flatF zs ++ r) :: F) := by
  subst ea eb en
  refine Does.enter Try.func22 rfl Try.ntmps22 rfl ?_
  simp only [env0, Nat.reduceAdd]
  refine WC.sr ?_
  refine WL.sg rfl rfl ?_
  refine WL.nil ?_
  refine WC.block ?_
  refine WC.loop (σ := Nat × List Fd) (fun s => [(0, .slice (some ⟨g, 0, none⟩) L cap), (1, .int .i64 (a : Int)), (2, .int .i64 (b : Int)), (3, .int .i64 (n : Int)), (4, .func (.func f) #[] #[]), (10, .int .i64 (s.1 : Int))]) (fun s => Cells g 26 (flatF s.2 ++ r) :: F) (fun s => s.1 ≤ n ∧ Swd a b s.1 ys s.2) (fun s => n - s.1) (0, ys) ⟨Nat.zero_le _, Swd.zero a b ys⟩ (.cons rfl (.cons rfl (.cons rfl (.cons rfl (.cons rfl (.cons rfl (.nil _))))))) (fun w h => h) ?_
  rintro ⟨k, zs⟩ ⟨hk, hS⟩
  dsimp only at hk hS ⊢
  have hzl : zs.length = L := hS.len.trans hl
  refine WC.seq ?_
  refine WC.sr ?_
  refine WL.mv rfl rfl ?_
  refine WL.mv rfl rfl ?_
  refine WL.val (V.lss (OV.p rfl) (OV.p rfl)) rfl ?_
  refine WL.nil ?_
  refine WC.cond rfl (fun hc0 => ?_) (fun hc0 => ?_)
  ·simp only [decide_eq_true_eq, decide_eq_false_iff_not] at hc0
   have hkn : k < n := by omega
   have hja : Rds K (Cells g 26 (flatF zs ++ r) :: F) g (0 + ((a : Int) + (k : Int)).toNat * 5) (el zs (a + k)).cells := found_rds (by omega) (by omega)
   have hjb : Rds K (Cells g 26 (flatF zs ++ r) :: F) g (0 + ((b : Int) + (k : Int)).toNat * 5) (el zs (b + k)).cells := found_rds (by omega) (by omega)
   have hnx := hS.step hkn hab (by rw [hl]; exact hb)
   refine WC.skip ?_
   refine WC.seq ?_
   refine WC.block ?_
   refine WC.regionA F (by kernel_rfl) ?_
   refine WA.t 0 rfl (V.move (OV.p rfl)) ?_
   refine WA.t 1 rfl (V.move (OV.p rfl)) ?_
   refine WA.t 2 rfl (V.move (OV.p rfl)) ?_
   refine WA.t 3 rfl (V.addI (OV.p rfl) (OV.p rfl) (fun hc => by first | omega | (simp at hc; omega))) ?_
   refine WA.t 4 rfl (V.move (OV.p rfl)) ?_
   refine WA.t 5 rfl (V.move (OV.p rfl)) ?_
   refine WA.t 6 rfl (V.move (OV.p rfl)) ?_
   refine WA.t 7 rfl (V.addI (OV.p rfl) (OV.p rfl) (fun hc => by first | omega | (simp at hc; omega))) ?_
   refine WA.t 8 rfl (V.move (OV.p rfl)) ?_
   refine WA.t 9 rfl (V.move (OV.p rfl)) ?_
   refine WA.t 10 rfl (V.move (OV.p rfl)) ?_
   refine WA.t 11 rfl (V.addI (OV.p rfl) (OV.p rfl) (fun hc => by first | omega | (simp at hc; omega))) ?_
   refine WA.t 12 rfl (V.idxB st22 (OV.p rfl) (OV.p rfl) (fun hc => by omega)) ?_
   refine WA.t 14 rfl (V.move (OV.p rfl)) ?_
   refine WA.t 15 rfl (V.move (OV.p rfl)) ?_
   refine WA.t 16 rfl (V.move (OV.p rfl)) ?_
   refine WA.t 17 rfl (V.addI (OV.p rfl) (OV.p rfl) (fun hc => by first | omega | (simp at hc; omega))) ?_
   refine WA.t 18 rfl (V.idxB st22 (OV.p rfl) (OV.p rfl) (fun hc => by omega)) ?_
   refine WA.two (i := 13) (j := 19) (fun w h => by repeat (first | exact h | replace h := h.tail)) (by kernel_rfl) rfl rfl ?_ ?_
   ·refine WL.val (V.loadA (vs := (el zs (b + k)).cells) ⟨Try.isAgg26, Try.sizeOf26⟩ (OV.p rfl) rfl (fun _ => hjb)) rfl ?_
    refine WL.nil ?_
    refine WA.o 19 rfl ?_
    refine WL.val (V.loadA (vs := (el zs (a + k)).cells) ⟨Try.isAgg26, Try.sizeOf26⟩ (OV.p rfl) rfl (fun _ => hja)) rfl ?_
    refine WL.nil ?_
    refine WA.t 20 rfl (V.idxB st22 (OV.p rfl) (OV.p rfl) (fun hc => by omega)) ?_
    refine WA.o 21 rfl ?_
    refine WL.store (cs := (el zs (b + k)).cells) Try.sizeOf26 (OV.p rfl) (OV.p rfl) rfl rfl rfl (flatF_upd (j := a + k) (y := el zs (b + k)) (by omega) (by omega)) ?_
    refine WL.nil ?_
    refine WA.t 22 rfl (V.idxB st22 (OV.p rfl) (OV.p rfl) (fun hc => by omega)) ?_
    refine WA.o 23 rfl ?_
    refine WL.store (cs := (el zs (a + k)).cells) Try.sizeOf26 (OV.p rfl) (OV.p rfl) rfl rfl rfl (flatF_upd (j := b + k) (y := el zs (a + k)) (by rw [List.length_set]; omega) (by omega)) ?_
    refine WL.nil ?_
    refine WA.fin ?_
    refine WC.region ?_
    refine WL.mv rfl rfl ?_
    refine WL.ad rfl rfl rfl ?_
    refine WL.sg rfl rfl ?_
    refine WL.nil ?_
    refine ⟨rfl, ?_⟩
    exact ⟨(k + 1, swp zs (a + k) (b + k)), ⟨hkn, hnx⟩, (by show n - (k + 1) < n - k; omega), .cons rfl (.cons rfl (.cons rfl (.cons rfl (.cons rfl (.cons (look_eq rfl (by simp)) (.nil _)))))), fun w h => h⟩
   ·refine WL.val (V.loadA (vs := (el zs (a + k)).cells) ⟨Try.isAgg26, Try.sizeOf26⟩ (OV.p rfl) rfl (fun _ => hja)) rfl ?_
    refine WL.nil ?_
    refine WA.o 13 rfl ?_
    refine WL.val (V.loadA (vs := (el zs (b + k)).cells) ⟨Try.isAgg26, Try.sizeOf26⟩ (OV.p rfl) rfl (fun _ => hjb)) rfl ?_
    refine WL.nil ?_
    refine WA.t 20 rfl (V.idxB st22 (OV.p rfl) (OV.p rfl) (fun hc => by omega)) ?_
    refine WA.o 21 rfl ?_
    refine WL.store (cs := (el zs (b + k)).cells) Try.sizeOf26 (OV.p rfl) (OV.p rfl) rfl rfl rfl (flatF_upd (j := a + k) (y := el zs (b + k)) (by omega) (by omega)) ?_
    refine WL.nil ?_
    refine WA.t 22 rfl (V.idxB st22 (OV.p rfl) (OV.p rfl) (fun hc => by omega)) ?_
    refine WA.o 23 rfl ?_
    refine WL.store (cs := (el zs (a + k)).cells) Try.sizeOf26 (OV.p rfl) (OV.p rfl) rfl rfl rfl (flatF_upd (j := b + k) (y := el zs (a + k)) (by rw [List.length_set]; omega) (by omega)) ?_
    refine WL.nil ?_
    refine WA.fin ?_
    refine WC.region ?_
    refine WL.mv rfl rfl ?_
    refine WL.ad rfl rfl rfl ?_
    refine WL.sg rfl rfl ?_
    refine WL.nil ?_
    refine ⟨rfl, ?_⟩
    exact ⟨(k + 1, swp zs (a + k) (b + k)), ⟨hkn, hnx⟩, (by show n - (k + 1) < n - k; omega), .cons rfl (.cons rfl (.cons rfl (.cons rfl (.cons rfl (.cons (look_eq rfl (by simp)) (.nil _)))))), fun w h => h⟩
  ·simp only [decide_eq_true_eq, decide_eq_false_iff_not] at hc0
   refine WC.exit ?_
   obtain rfl : k = n := by omega
   exact BodyQ.normal (H' := Cells g 26 (flatF zs ++ r) :: F) (Res.none rfl) (fun w h => h) ⟨zs, hS, rfl⟩
theorem rotate_found {ys : List Fd} {a m b : Nat} {ai mi bi : Int} (ea : ai = (a : Int)) (em : mi = (m : Int)) (eb : bi = (b : Int)) (hl : ys.length = L) (hL : L ≤ 1000000) (ham : a < m) (hmb : m < b) (hb : b ≤ L) :
    Does Try.prog 21 #[.slice (some ⟨g, 0, none⟩) L cap, .int .i64 ai, .int .i64 mi, .int .i64 bi, .func (.func f) #[] #[]] K (Cells g 26 (flatF ys ++ r) :: F) (fun v H' => ∃ zs, Rot a m b ys zs ∧ H' = Cells g 26 (flatF zs ++ r) :: F) := by
  subst ea em eb
  refine Does.enter Try.func21 rfl Try.ntmps21 rfl ?_
  simp only [env0, Nat.reduceAdd]
  refine WC.sr ?_
  refine WL.mv rfl rfl ?_
  refine WL.mv rfl rfl ?_
  refine WL.sb rfl rfl rfl ?_
  refine WL.sg rfl rfl ?_
  refine WL.nil ?_
  refine WC.sr ?_
  refine WL.mv rfl rfl ?_
  refine WL.mv rfl rfl ?_
  refine WL.sb rfl rfl rfl ?_
  refine WL.sg rfl rfl ?_
  refine WL.nil ?_
  refine WC.seq ?_
  refine WC.block ?_
  refine WC.loop (σ := Nat × Nat × List Fd) (fun s => [(0, .slice (some ⟨g, 0, none⟩) L cap), (2, .int .i64 (m : Int)), (4, .func (.func f) #[] #[]), (10, .int .i64 (s.1 : Int)), (11, .int .i64 (s.2.1 : Int))]) (fun s => Cells g 26 (flatF s.2.2 ++ r) :: F) (fun s => 0 < s.1 ∧ s.1 ≤ m ∧ 0 < s.2.1 ∧ m + s.2.1 ≤ L ∧ s.2.2.length = L ∧ ∀ ws, Rot (m - s.1) m (m + s.2.1) s.2.2 ws → Rot a m b ys ws) (fun s => s.1 + s.2.1) (m - a, b - m, ys) ⟨by show 0 < m - a; omega, by show m - a ≤ m; omega, by show 0 < b - m; omega, by show m + (b - m) ≤ L; omega, hl, fun ws h => by
    dsimp only at h
    rw [show m - (m - a) = a by omega, show m + (b - m) = b by omega] at h
    exact h⟩ (.cons rfl (.cons rfl (.cons rfl (.cons (look_eq rfl (by show Value.int .i64 ((m : Int) - (a : Int)) = Value.int .i64 ((m - a : Nat) : Int); congr 1; omega)) (.cons (look_eq rfl (by show Value.int .i64 ((b : Int) - (m : Int)) = Value.int .i64 ((b - m : Nat) : Int); congr 1; omega)) (.nil _)))))) (fun w h => h) ?_
  rintro ⟨i, j, zs⟩ ⟨hi0, him, hj0, hjL, hzl, hrot⟩
  dsimp only at hi0 him hj0 hjL hzl hrot ⊢
  refine WC.seq ?_
  refine WC.sr ?_
  refine WL.mv rfl rfl ?_
  refine WL.mv rfl rfl ?_
  refine WL.val (V.neq (OV.p rfl) (OV.p rfl)) rfl ?_
  refine WL.nil ?_
  refine WC.cond rfl (fun hc0 => ?_) (fun hc0 => ?_)
  ·simp at hc0
   have h0 := hc0
   refine WC.skip ?_
   refine WC.block ?_
   refine WC.sr ?_
   refine WL.mv rfl rfl ?_
   refine WL.mv rfl rfl ?_
   refine WL.val (V.gtr (OV.p rfl) (OV.p rfl)) rfl ?_
   refine WL.nil ?_
   refine WC.cond rfl (fun hc1 => ?_) (fun hc1 => ?_)
   ·simp only [decide_eq_true_eq, decide_eq_false_iff_not] at hc1
    have h1 := hc1
    refine WC.sr ?_
    refine WL.mv rfl rfl ?_
    refine WL.mv rfl rfl ?_
    refine WL.mv rfl rfl ?_
    refine WL.sb rfl rfl rfl ?_
    refine WL.mv rfl rfl ?_
    refine WL.mv rfl rfl ?_
    refine WL.mv rfl rfl ?_
    refine WL.call (vs := [_, _, _, _, _]) Try.call22 ⟨OV.p rfl, OV.p rfl, OV.p rfl, OV.p rfl, OV.p rfl, trivial⟩ (swapRange_found (a := m - i) (b := m) (n := j) (by omega) rfl rfl hzl hL (by omega) (by omega)) rfl ?_
    rintro _ _ ⟨xs, hS, rfl⟩
    have hxl : xs.length = L := hS.len.trans hzl
    refine WL.nil ?_
    refine WC.region ?_
    refine WL.mv rfl rfl ?_
    refine WL.mv rfl rfl ?_
    refine WL.sb rfl rfl rfl ?_
    refine WL.sg rfl rfl ?_
    refine WL.nil ?_
    refine ⟨rfl, ?_⟩
    first
    | exact ⟨(i - j, j, xs), ⟨by show 0 < i - j; omega, by show i - j ≤ m; omega, hj0, hjL, hxl, fun ws h => hrot ws (Rot.big hS (by dsimp only at h; rw [show m - (i - j) = m - i + j by omega] at h; exact h) (by omega) him)⟩, (by show i - j + j < i + j; omega), .cons rfl (.cons rfl (.cons rfl (.cons (look_eq rfl (by show Value.int .i64 ((i : Int) - (j : Int)) = Value.int .i64 ((i - j : Nat) : Int); congr 1; omega)) (.cons rfl (.nil _))))), fun w h => h⟩
    | exact ⟨(i, j - i, xs), ⟨hi0, him, by show 0 < j - i; omega, by show m + (j - i) ≤ L; omega, hxl, fun ws h => hrot ws (Rot.small hS h (by omega) him)⟩, (by show i + (j - i) < i + j; omega), .cons rfl (.cons rfl (.cons rfl (.cons rfl (.cons (look_eq rfl (by show Value.int .i64 ((j : Int) - (i : Int)) = Value.int .i64 ((j - i : Nat) : Int); congr 1; omega)) (.nil _))))), fun w h => h⟩
   ·simp only [decide_eq_true_eq, decide_eq_false_iff_not] at hc1
    have h1 := hc1
    refine WC.sr ?_
    refine WL.mv rfl rfl ?_
    refine WL.mv rfl rfl ?_
    refine WL.mv rfl rfl ?_
    refine WL.sb rfl rfl rfl ?_
    refine WL.mv rfl rfl ?_
    refine WL.mv rfl rfl ?_
    refine WL.ad rfl rfl rfl ?_
    refine WL.mv rfl rfl ?_
    refine WL.sb rfl rfl rfl ?_
    refine WL.mv rfl rfl ?_
    refine WL.mv rfl rfl ?_
    refine WL.call (vs := [_, _, _, _, _]) Try.call22 ⟨OV.p rfl, OV.p rfl, OV.p rfl, OV.p rfl, OV.p rfl, trivial⟩ (swapRange_found (a := m - i) (b := m + j - i) (n := i) (by omega) (by omega) rfl hzl hL (by omega) (by omega)) rfl ?_
    rintro _ _ ⟨xs, hS, rfl⟩
    have hxl : xs.length = L := hS.len.trans hzl
    refine WL.nil ?_
    refine WC.region ?_
    refine WL.mv rfl rfl ?_
    refine WL.mv rfl rfl ?_
    refine WL.sb rfl rfl rfl ?_
    refine WL.sg rfl rfl ?_
    refine WL.nil ?_
    refine ⟨rfl, ?_⟩
    first
    | exact ⟨(i - j, j, xs), ⟨by show 0 < i - j; omega, by show i - j ≤ m; omega, hj0, hjL, hxl, fun ws h => hrot ws (Rot.big hS (by dsimp only at h; rw [show m - (i - j) = m - i + j by omega] at h; exact h) (by omega) him)⟩, (by show i - j + j < i + j; omega), .cons rfl (.cons rfl (.cons rfl (.cons (look_eq rfl (by show Value.int .i64 ((i : Int) - (j : Int)) = Value.int .i64 ((i - j : Nat) : Int); congr 1; omega)) (.cons rfl (.nil _))))), fun w h => h⟩
    | exact ⟨(i, j - i, xs), ⟨hi0, him, by show 0 < j - i; omega, by show m + (j - i) ≤ L; omega, hxl, fun ws h => hrot ws (Rot.small hS h (by omega) him)⟩, (by show i + (j - i) < i + j; omega), .cons rfl (.cons rfl (.cons rfl (.cons rfl (.cons (look_eq rfl (by show Value.int .i64 ((j : Int) - (i : Int)) = Value.int .i64 ((j - i : Nat) : Int); congr 1; omega)) (.nil _))))), fun w h => h⟩
  ·simp at hc0
   have h0 := hc0
   obtain rfl : i = j := by omega
   refine WC.exit ?_
   refine WC.region ?_
   refine WL.mv rfl rfl ?_
   refine WL.mv rfl rfl ?_
   refine WL.mv rfl rfl ?_
   refine WL.sb rfl rfl rfl ?_
   refine WL.mv rfl rfl ?_
   refine WL.mv rfl rfl ?_
   refine WL.mv rfl rfl ?_
   refine WL.call (vs := [_, _, _, _, _]) Try.call22 ⟨OV.p rfl, OV.p rfl, OV.p rfl, OV.p rfl, OV.p rfl, trivial⟩ (swapRange_found (a := m - i) (b := m) (n := i) (by omega) rfl rfl hzl hL (by omega) (by omega)) rfl ?_
   rintro _ _ ⟨xs, hS, rfl⟩
   refine WL.nil ?_
   exact BodyQ.normal (H' := Cells g 26 (flatF xs ++ r) :: F) (Res.none rfl) (fun w h => h) ⟨xs, hrot xs (Rot.same hS him), rfl⟩
/-! The places where two rows cross -/
theorem cross_up {ys : List Fd} {a m b n lo c0 hi : Nat} (hc : Ord3 c) (h1 : Srt c ys a m) (h2 : Srt c ys m b) (halo : a ≤ lo) (hch : c0 < hi) (hhm : hi ≤ m) (hn1 : m + hi ≤ n) (hn2 : n ≤ b + lo) (h : Le c (el ys c0) (el ys (n - 1 - c0))) : ∀ x, lo ≤ x → x ≤ c0 → Le c (el ys x) (el ys (n - 1 - x)) := fun x k1 k2 => by
  by_cases e : x = c0
  · rw [e]; exact h
  · exact hc.tr _ _ _ (h1 x c0 (by omega) (by omega) (by omega)) (hc.tr _ _ _ h (h2 _ _ (by omega) (by omega) (by omega)))
theorem cross_dn {ys : List Fd} {a m b n lo c0 hi : Nat} (hc : Ord3 c) (h1 : Srt c ys a m) (h2 : Srt c ys m b) (halo : a ≤ lo) (hlc : lo ≤ c0) (hhm : hi ≤ m) (hn1 : m + hi ≤ n) (hn2 : n ≤ b + lo) (h : c (el ys (n - 1 - c0)) (el ys c0) < 0) : ∀ x, c0 ≤ x → x < hi → c (el ys (n - 1 - x)) (el ys x) < 0 := fun x k1 k2 => by
  by_cases e : x = c0
  · rw [e]; exact h
  · exact hc.lt_le (h2 _ _ (by omega) (by omega) (by omega)) (hc.le_lt h (h1 c0 x (by omega) (by omega) (by omega)))
set_option maxHeartbeats 2000000 in
theorem symMerge_found (hf : CmpIs f c) (hc : Ord3 c) (hL : L ≤ 1000000) : ∀ (d : Nat) {K : World} {F : List Assn} {a m b : Nat} {ys : List Fd} {r : List Value}, b - a ≤ d → a < m → m < b → b ≤ L → ys.length = L → Srt c ys a m → Srt c ys m b →
    Does Try.prog 20 #[.slice (some ⟨g, 0, none⟩) L cap, .int .i64 (a : Int), .int .i64 (m : Int), .int .i64 (b : Int), .func (.func f) #[] #[]] K (Cells g 26 (flatF ys ++ r) :: F) (fun v H' => ∃ zs, Rg a b ys zs ∧ Srt c zs a b ∧ H' = Cells g 26 (flatF zs ++ r) :: F)
  | 0, K, F, a, m, b, ys, r, hd, ham, hmb, hb, hl, hs1, hs2 => by omega
  | d + 1, K, F, a, m, b, ys, r, hd, ham, hmb, hb, hl, hs1, hs2 => by
    obtain ⟨mid, hmid⟩ : ∃ mid, mid = (a + b) / 2 := ⟨_, rfl⟩
    obtain ⟨n, hn⟩ : ∃ n, n = mid + m := ⟨_, rfl⟩
    refine Does.enter Try.func20 rfl Try.ntmps20 rfl ?_
    simp only [env0, Nat.reduceAdd]
    refine WC.seq ?_
    refine WC.sr ?_
    refine WL.mv rfl rfl ?_
    refine WL.mv rfl rfl ?_
    refine WL.sb rfl rfl rfl ?_
    refine WL.val (V.eql (OV.p rfl) (OV.p rfl)) rfl ?_
    refine WL.nil ?_
    refine WC.cond rfl (fun hc0 => ?_) (fun hc0 => ?_)
    ·simp only [decide_eq_true_eq, decide_eq_false_iff_not] at hc0
     have hma : m = a + 1 := by omega
     subst hma
     refine WC.sr ?_
     refine WL.mv rfl rfl ?_
     refine WL.sg rfl rfl ?_
     refine WL.nil ?_
     refine WC.sr ?_
     refine WL.mv rfl rfl ?_
     refine WL.sg rfl rfl ?_
     refine WL.nil ?_
     refine WC.seq ?_
     refine WC.block ?_
     refine WC.loop (σ := Nat × Nat) (fun s => [(0, .slice (some ⟨g, 0, none⟩) L cap), (1, .int .i64 (a : Int)), (4, .func (.func f) #[] #[]), (10, .int .i64 (s.1 : Int)), (11, .int .i64 (s.2 : Int))]) (fun s => Cells g 26 (flatF ys ++ r) :: F) (fun s => a + 1 ≤ s.1 ∧ s.1 ≤ s.2 ∧ s.2 ≤ b ∧ (∀ x, a + 1 ≤ x → x < s.1 → c (el ys x) (el ys a) < 0) ∧ ∀ x, s.2 ≤ x → x < b → Le c (el ys a) (el ys x)) (fun s => s.2 - s.1) (a + 1, b) ⟨Nat.le_refl _, by show a + 1 ≤ b; omega, Nat.le_refl _, fun x h1 h2 => absurd h2 (by show ¬ x < a + 1; omega), fun x h1 h2 => absurd h2 (by have : b ≤ x := h1; omega)⟩ (.cons rfl (.cons rfl (.cons rfl (.cons rfl (.cons rfl (.nil _)))))) (fun w h => h) ?_
     rintro ⟨i, j⟩ ⟨hi, hij, hj, hlo, hhi⟩
     dsimp only at hi hij hj hlo hhi ⊢
     refine WC.seq ?_
     refine WC.sr ?_
     refine WL.mv rfl rfl ?_
     refine WL.mv rfl rfl ?_
     refine WL.val (V.lss (OV.p rfl) (OV.p rfl)) rfl ?_
     refine WL.nil ?_
     refine WC.cond rfl (fun hc1 => ?_) (fun hc1 => ?_)
     ·simp only [decide_eq_true_eq, decide_eq_false_iff_not] at hc1
      obtain ⟨k, hk⟩ : ∃ k, k = (i + j) / 2 := ⟨_, rfl⟩
      have hki : i ≤ k ∧ k < j := by omega
      refine WC.skip ?_
      refine WC.block ?_
      refine WC.sr ?_
      refine WL.mv rfl rfl ?_
      refine WL.mv rfl rfl ?_
      refine WL.ad rfl rfl rfl ?_
      refine WL.val (V.convW Try.runUnderlying3 Try.runUnderlying50 (OV.p rfl) (fun _ => wrap_u64 (by omega))) rfl ?_
      refine WL.val (V.val_eq (v' := .int .u64 (k : Int)) (V.shr (OV.p rfl) (OV.p rfl) (by decide)) (fun _ => by rw [half_u, ← hk])) rfl ?_
      refine WL.val (V.convW Try.runUnderlying50 Try.runUnderlying3 (OV.p rfl) (fun _ => wrap_i64 (by omega))) rfl ?_
      refine WL.sg rfl rfl ?_
      refine WL.nil ?_
      refine WC.seq ?_
      refine WC.regionQ (by kernel_rfl) (by kernel_rfl) ?_
      refine WQ.val (V.move (OV.p rfl)) rfl ?_
      refine WQ.val (V.move (OV.p rfl)) rfl ?_
      refine WQ.val (V.move (OV.p rfl)) rfl ?_
      refine WQ.val (V.idxB st22 (OV.p rfl) (OV.p rfl) (fun hc => by omega)) rfl ?_
      refine WQ.val (V.loadA (vs := (el ys k).cells) ⟨Try.isAgg26, Try.sizeOf26⟩ (OV.p rfl) rfl (fun _ => found_rds (by omega) (by omega))) rfl ?_
      refine WQ.val (V.move (OV.p rfl)) rfl ?_
      refine WQ.val (V.move (OV.p rfl)) rfl ?_
      refine WQ.val (V.idxB st22 (OV.p rfl) (OV.p rfl) (fun hc => by omega)) rfl ?_
      refine WQ.val (V.loadA (vs := (el ys a).cells) ⟨Try.isAgg26, Try.sizeOf26⟩ (OV.p rfl) rfl (fun _ => found_rds (by omega) (by omega))) rfl ?_
      refine WQ.callV (first := []) (vs := [_, _]) (captured := []) hf.1 (OV.p rfl) ⟨OV.p rfl, OV.p rfl, trivial⟩ (hf.2 _ _ (el ys k) (el ys a)) rfl ?_
      refine WQ.val (V.lss (OV.p rfl) (OV.p rfl)) rfl ?_
      refine WQ.nil ?_
      refine WC.cond rfl (fun hc2 => ?_) (fun hc2 => ?_)
      ·simp only [decide_eq_true_eq, decide_eq_false_iff_not] at hc2
       have h2 := hc2
       have hnx : ∀ x, a + 1 ≤ x → x < k + 1 → c (el ys x) (el ys a) < 0 := fun x h3 h4 => by
         by_cases e : x = k
         · rw [e]; exact h2
         · exact hc.lt_le (hs2 x k h3 (by omega) (by omega)) h2
       refine WC.region ?_
       refine WL.mv rfl rfl ?_
       refine WL.ad rfl rfl rfl ?_
       refine WL.sg rfl rfl ?_
       refine WL.nil ?_
       refine ⟨rfl, ?_⟩
       first
       | exact ⟨(k + 1, j), ⟨by show a + 1 ≤ k + 1; omega, by show k + 1 ≤ j; omega, hj, hnx, hhi⟩, (by show j - (k + 1) < j - i; omega), .cons rfl (.cons rfl (.cons rfl (.cons (look_eq rfl (by simp)) (.cons rfl (.nil _))))), fun w h => h⟩
       | exact ⟨(i, k), ⟨hi, hki.1, by show k ≤ b; omega, hlo, hnx⟩, (by show k - i < j - i; omega), .cons rfl (.cons rfl (.cons rfl (.cons rfl (.cons rfl (.nil _))))), fun w h => h⟩
      ·simp only [decide_eq_true_eq, decide_eq_false_iff_not] at hc2
       have h2 := hc2
       have hnx : ∀ x, k ≤ x → x < b → Le c (el ys a) (el ys x) := fun x h3 h4 => by
         by_cases e : x = k
         · rw [e]; exact h2
         · exact hc.tr _ _ _ h2 (hs2 k x (by omega) (by omega) h4)
       refine WC.region ?_
       refine WL.mv rfl rfl ?_
       refine WL.sg rfl rfl ?_
       refine WL.nil ?_
       refine ⟨rfl, ?_⟩
       first
       | exact ⟨(k + 1, j), ⟨by show a + 1 ≤ k + 1; omega, by show k + 1 ≤ j; omega, hj, hnx, hhi⟩, (by show j - (k + 1) < j - i; omega), .cons rfl (.cons rfl (.cons rfl (.cons (look_eq rfl (by simp)) (.cons rfl (.nil _))))), fun w h => h⟩
       | exact ⟨(i, k), ⟨hi, hki.1, by show k ≤ b; omega, hlo, hnx⟩, (by show k - i < j - i; omega), .cons rfl (.cons rfl (.cons rfl (.cons rfl (.cons rfl (.nil _))))), fun w h => h⟩
     ·simp only [decide_eq_true_eq, decide_eq_false_iff_not] at hc1
      obtain rfl : i = j := by omega
      refine WC.exit ?_
      refine WC.seq ?_
      refine WC.sr ?_
      refine WL.mv rfl rfl ?_
      refine WL.sg rfl rfl ?_
      refine WL.nil ?_
      refine WC.block ?_
      refine WC.loop (σ := Nat × List Fd) (fun s => [(0, .slice (some ⟨g, 0, none⟩) L cap), (10, .int .i64 (i : Int)), (13, .int .i64 (s.1 : Int))]) (fun s => Cells g 26 (flatF s.2 ++ r) :: F) (fun s => a ≤ s.1 ∧ s.1 ≤ i - 1 ∧ Frt a s.1 ys s.2) (fun s => i - 1 - s.1) (a, ys) ⟨Nat.le_refl _, by show a ≤ i - 1; omega, Frt.zero a ys⟩ (.cons rfl (.cons rfl (.cons rfl (.nil _)))) (fun w h => h) ?_
      rintro ⟨k, zs⟩ ⟨hak, hki, hS⟩
      dsimp only at hak hki hS ⊢
      have hzl : zs.length = L := hS.len.trans hl
      refine WC.seq ?_
      refine WC.sr ?_
      refine WL.mv rfl rfl ?_
      refine WL.mv rfl rfl ?_
      refine WL.sb rfl rfl rfl ?_
      refine WL.val (V.lss (OV.p rfl) (OV.p rfl)) rfl ?_
      refine WL.nil ?_
      refine WC.cond rfl (fun hc3 => ?_) (fun hc3 => ?_)
      ·simp only [decide_eq_true_eq, decide_eq_false_iff_not] at hc3
       have hkn : k < i - 1 := by omega
       have hja : Rds K (Cells g 26 (flatF zs ++ r) :: F) g (0 + (k : Int).toNat * 5) (el zs k).cells := found_rds (by omega) (by omega)
       have hjb : Rds K (Cells g 26 (flatF zs ++ r) :: F) g (0 + ((k : Int) + 1).toNat * 5) (el zs (k + 1)).cells := found_rds (by omega) (by omega)
       have hnx := hS.step hak (by omega)
       refine WC.skip ?_
       refine WC.seq ?_
       refine WC.block ?_
       refine WC.regionA F (by kernel_rfl) ?_
       refine WA.t 0 rfl (V.move (OV.p rfl)) ?_
       refine WA.t 1 rfl (V.move (OV.p rfl)) ?_
       refine WA.t 2 rfl (V.move (OV.p rfl)) ?_
       refine WA.t 3 rfl (V.move (OV.p rfl)) ?_
       refine WA.t 4 rfl (V.addI (OV.p rfl) (OV.p rfl) (fun hc => by first | omega | (simp at hc; omega))) ?_
       refine WA.t 5 rfl (V.move (OV.p rfl)) ?_
       refine WA.t 6 rfl (V.move (OV.p rfl)) ?_
       refine WA.t 7 rfl (V.addI (OV.p rfl) (OV.p rfl) (fun hc => by first | omega | (simp at hc; omega))) ?_
       refine WA.t 8 rfl (V.idxB st22 (OV.p rfl) (OV.p rfl) (fun hc => by omega)) ?_
       refine WA.t 10 rfl (V.move (OV.p rfl)) ?_
       refine WA.t 11 rfl (V.move (OV.p rfl)) ?_
       refine WA.t 12 rfl (V.idxB st22 (OV.p rfl) (OV.p rfl) (fun hc => by omega)) ?_
       refine WA.two (i := 9) (j := 13) (fun w h => by repeat (first | exact h | replace h := h.tail)) (by kernel_rfl) rfl rfl ?_ ?_
       ·refine WL.val (V.loadA (vs := (el zs (k + 1)).cells) ⟨Try.isAgg26, Try.sizeOf26⟩ (OV.p rfl) rfl (fun _ => hjb)) rfl ?_
        refine WL.nil ?_
        refine WA.o 13 rfl ?_
        refine WL.val (V.loadA (vs := (el zs k).cells) ⟨Try.isAgg26, Try.sizeOf26⟩ (OV.p rfl) rfl (fun _ => hja)) rfl ?_
        refine WL.nil ?_
        refine WA.t 14 rfl (V.idxB st22 (OV.p rfl) (OV.p rfl) (fun hc => by omega)) ?_
        refine WA.o 15 rfl ?_
        refine WL.store (cs := (el zs (k + 1)).cells) Try.sizeOf26 (OV.p rfl) (OV.p rfl) rfl rfl rfl (flatF_upd (j := k) (y := el zs (k + 1)) (by omega) (by omega)) ?_
        refine WL.nil ?_
        refine WA.t 16 rfl (V.idxB st22 (OV.p rfl) (OV.p rfl) (fun hc => by omega)) ?_
        refine WA.o 17 rfl ?_
        refine WL.store (cs := (el zs k).cells) Try.sizeOf26 (OV.p rfl) (OV.p rfl) rfl rfl rfl (flatF_upd (j := k + 1) (y := el zs k) (by rw [List.length_set]; omega) (by omega)) ?_
        refine WL.nil ?_
        refine WA.fin ?_
        refine WC.region ?_
        refine WL.mv rfl rfl ?_
        refine WL.ad rfl rfl rfl ?_
        refine WL.sg rfl rfl ?_
        refine WL.nil ?_
        refine ⟨rfl, ?_⟩
        exact ⟨(k + 1, swp zs k (k + 1)), ⟨by show a ≤ k + 1; omega, by show k + 1 ≤ i - 1; omega, hnx⟩, (by show i - 1 - (k + 1) < i - 1 - k; omega), .cons rfl (.cons rfl (.cons (look_eq rfl (by simp)) (.nil _))), fun w h => h⟩
       ·refine WL.val (V.loadA (vs := (el zs k).cells) ⟨Try.isAgg26, Try.sizeOf26⟩ (OV.p rfl) rfl (fun _ => hja)) rfl ?_
        refine WL.nil ?_
        refine WA.o 9 rfl ?_
        refine WL.val (V.loadA (vs := (el zs (k + 1)).cells) ⟨Try.isAgg26, Try.sizeOf26⟩ (OV.p rfl) rfl (fun _ => hjb)) rfl ?_
        refine WL.nil ?_
        refine WA.t 14 rfl (V.idxB st22 (OV.p rfl) (OV.p rfl) (fun hc => by omega)) ?_
        refine WA.o 15 rfl ?_
        refine WL.store (cs := (el zs (k + 1)).cells) Try.sizeOf26 (OV.p rfl) (OV.p rfl) rfl rfl rfl (flatF_upd (j := k) (y := el zs (k + 1)) (by omega) (by omega)) ?_
        refine WL.nil ?_
        refine WA.t 16 rfl (V.idxB st22 (OV.p rfl) (OV.p rfl) (fun hc => by omega)) ?_
        refine WA.o 17 rfl ?_
        refine WL.store (cs := (el zs k).cells) Try.sizeOf26 (OV.p rfl) (OV.p rfl) rfl rfl rfl (flatF_upd (j := k + 1) (y := el zs k) (by rw [List.length_set]; omega) (by omega)) ?_
        refine WL.nil ?_
        refine WA.fin ?_
        refine WC.region ?_
        refine WL.mv rfl rfl ?_
        refine WL.ad rfl rfl rfl ?_
        refine WL.sg rfl rfl ?_
        refine WL.nil ?_
        refine ⟨rfl, ?_⟩
        exact ⟨(k + 1, swp zs k (k + 1)), ⟨by show a ≤ k + 1; omega, by show k + 1 ≤ i - 1; omega, hnx⟩, (by show i - 1 - (k + 1) < i - 1 - k; omega), .cons rfl (.cons rfl (.cons (look_eq rfl (by simp)) (.nil _))), fun w h => h⟩
      ·simp only [decide_eq_true_eq, decide_eq_false_iff_not] at hc3
       refine WC.exit ?_
       refine WC.ret ?_
       obtain rfl : k = i - 1 := by omega
       obtain ⟨e1, e2⟩ := Frt.done hc hS (by omega) hj hs2 hlo hhi
       exact BodyQ.ret (H' := Cells g 26 (flatF zs ++ r) :: F) (Res.none rfl) (fun w h => h) ⟨zs, e1, e2, rfl⟩
    ·simp only [decide_eq_true_eq, decide_eq_false_iff_not] at hc0
     refine WC.skip ?_
     refine WC.seq ?_
     refine WC.sr ?_
     refine WL.mv rfl rfl ?_
     refine WL.mv rfl rfl ?_
     refine WL.sb rfl rfl rfl ?_
     refine WL.val (V.eql (OV.p rfl) (OV.p rfl)) rfl ?_
     refine WL.nil ?_
     refine WC.cond rfl (fun hc4 => ?_) (fun hc4 => ?_)
     ·simp only [decide_eq_true_eq, decide_eq_false_iff_not] at hc4
      have hbm : b = m + 1 := by omega
      subst hbm
      refine WC.sr ?_
      refine WL.mv rfl rfl ?_
      refine WL.sg rfl rfl ?_
      refine WL.nil ?_
      refine WC.sr ?_
      refine WL.mv rfl rfl ?_
      refine WL.sg rfl rfl ?_
      refine WL.nil ?_
      refine WC.seq ?_
      refine WC.block ?_
      refine WC.loop (σ := Nat × Nat) (fun s => [(0, .slice (some ⟨g, 0, none⟩) L cap), (2, .int .i64 (m : Int)), (4, .func (.func f) #[] #[]), (14, .int .i64 (s.1 : Int)), (15, .int .i64 (s.2 : Int))]) (fun s => Cells g 26 (flatF ys ++ r) :: F) (fun s => a ≤ s.1 ∧ s.1 ≤ s.2 ∧ s.2 ≤ m ∧ (∀ x, a ≤ x → x < s.1 → Le c (el ys x) (el ys m)) ∧ ∀ x, s.2 ≤ x → x < m → c (el ys m) (el ys x) < 0) (fun s => s.2 - s.1) (a, m) ⟨Nat.le_refl _, by show a ≤ m; omega, Nat.le_refl _, fun x h1 h2 => absurd h2 (by show ¬ x < a; omega), fun x h1 h2 => absurd h2 (by have : m ≤ x := h1; omega)⟩ (.cons rfl (.cons rfl (.cons rfl (.cons rfl (.cons rfl (.nil _)))))) (fun w h => h) ?_
      rintro ⟨i, j⟩ ⟨hi, hij, hj, hlo, hhi⟩
      dsimp only at hi hij hj hlo hhi ⊢
      refine WC.seq ?_
      refine WC.sr ?_
      refine WL.mv rfl rfl ?_
      refine WL.mv rfl rfl ?_
      refine WL.val (V.lss (OV.p rfl) (OV.p rfl)) rfl ?_
      refine WL.nil ?_
      refine WC.cond rfl (fun hc5 => ?_) (fun hc5 => ?_)
      ·simp only [decide_eq_true_eq, decide_eq_false_iff_not] at hc5
       obtain ⟨k, hk⟩ : ∃ k, k = (i + j) / 2 := ⟨_, rfl⟩
       have hki : i ≤ k ∧ k < j := by omega
       refine WC.skip ?_
       refine WC.block ?_
       refine WC.sr ?_
       refine WL.mv rfl rfl ?_
       refine WL.mv rfl rfl ?_
       refine WL.ad rfl rfl rfl ?_
       refine WL.val (V.convW Try.runUnderlying3 Try.runUnderlying50 (OV.p rfl) (fun _ => wrap_u64 (by omega))) rfl ?_
       refine WL.val (V.val_eq (v' := .int .u64 (k : Int)) (V.shr (OV.p rfl) (OV.p rfl) (by decide)) (fun _ => by rw [half_u, ← hk])) rfl ?_
       refine WL.val (V.convW Try.runUnderlying50 Try.runUnderlying3 (OV.p rfl) (fun _ => wrap_i64 (by omega))) rfl ?_
       refine WL.sg rfl rfl ?_
       refine WL.nil ?_
       refine WC.seq ?_
       refine WC.regionQ (by kernel_rfl) (by kernel_rfl) ?_
       refine WQ.val (V.move (OV.p rfl)) rfl ?_
       refine WQ.val (V.move (OV.p rfl)) rfl ?_
       refine WQ.val (V.move (OV.p rfl)) rfl ?_
       refine WQ.val (V.idxB st22 (OV.p rfl) (OV.p rfl) (fun hc => by omega)) rfl ?_
       refine WQ.val (V.loadA (vs := (el ys m).cells) ⟨Try.isAgg26, Try.sizeOf26⟩ (OV.p rfl) rfl (fun _ => found_rds (by omega) (by omega))) rfl ?_
       refine WQ.val (V.move (OV.p rfl)) rfl ?_
       refine WQ.val (V.move (OV.p rfl)) rfl ?_
       refine WQ.val (V.idxB st22 (OV.p rfl) (OV.p rfl) (fun hc => by omega)) rfl ?_
       refine WQ.val (V.loadA (vs := (el ys k).cells) ⟨Try.isAgg26, Try.sizeOf26⟩ (OV.p rfl) rfl (fun _ => found_rds (by omega) (by omega))) rfl ?_
       refine WQ.callV (first := []) (vs := [_, _]) (captured := []) hf.1 (OV.p rfl) ⟨OV.p rfl, OV.p rfl, trivial⟩ (hf.2 _ _ (el ys m) (el ys k)) rfl ?_
       refine WQ.val (V.lss (OV.p rfl) (OV.p rfl)) rfl ?_
       refine WQ.val (V.not (OV.p rfl)) rfl ?_
       refine WQ.nil ?_
       refine WC.cond rfl (fun hc6 => ?_) (fun hc6 => ?_)
       ·simp only [Bool.not_eq_true', Bool.not_eq_false', decide_eq_true_eq, decide_eq_false_iff_not] at hc6
        have h2 := hc6
        have hnx : ∀ x, a ≤ x → x < k + 1 → Le c (el ys x) (el ys m) := fun x h3 h4 => by
          by_cases e : x = k
          · rw [e]; exact h2
          · exact hc.tr _ _ _ (hs1 x k h3 (by omega) (by omega)) h2
        refine WC.region ?_
        refine WL.mv rfl rfl ?_
        refine WL.ad rfl rfl rfl ?_
        refine WL.sg rfl rfl ?_
        refine WL.nil ?_
        refine ⟨rfl, ?_⟩
        first
        | exact ⟨(k + 1, j), ⟨by show a ≤ k + 1; omega, by show k + 1 ≤ j; omega, hj, hnx, hhi⟩, (by show j - (k + 1) < j - i; omega), .cons rfl (.cons rfl (.cons rfl (.cons (look_eq rfl (by simp)) (.cons rfl (.nil _))))), fun w h => h⟩
        | exact ⟨(i, k), ⟨hi, hki.1, by show k ≤ m; omega, hlo, hnx⟩, (by show k - i < j - i; omega), .cons rfl (.cons rfl (.cons rfl (.cons rfl (.cons rfl (.nil _))))), fun w h => h⟩
       ·simp only [Bool.not_eq_true', Bool.not_eq_false', decide_eq_true_eq, decide_eq_false_iff_not] at hc6
        have h2 := hc6
        have hnx : ∀ x, k ≤ x → x < m → c (el ys m) (el ys x) < 0 := fun x h3 h4 => by
          by_cases e : x = k
          · rw [e]; exact h2
          · exact hc.le_lt h2 (hs1 k x (by omega) (by omega) h4)
        refine WC.region ?_
        refine WL.mv rfl rfl ?_
        refine WL.sg rfl rfl ?_
        refine WL.nil ?_
        refine ⟨rfl, ?_⟩
        first
        | exact ⟨(k + 1, j), ⟨by show a ≤ k + 1; omega, by show k + 1 ≤ j; omega, hj, hnx, hhi⟩, (by show j - (k + 1) < j - i; omega), .cons rfl (.cons rfl (.cons rfl (.cons (look_eq rfl (by simp)) (.cons rfl (.nil _))))), fun w h => h⟩
        | exact ⟨(i, k), ⟨hi, hki.1, by show k ≤ m; omega, hlo, hnx⟩, (by show k - i < j - i; omega), .cons rfl (.cons rfl (.cons rfl (.cons rfl (.cons rfl (.nil _))))), fun w h => h⟩
      ·simp only [decide_eq_true_eq, decide_eq_false_iff_not] at hc5
       obtain rfl : i = j := by omega
       refine WC.exit ?_
       refine WC.seq ?_
       refine WC.sr ?_
       refine WL.mv rfl rfl ?_
       refine WL.sg rfl rfl ?_
       refine WL.nil ?_
       refine WC.block ?_
       refine WC.loop (σ := Nat × List Fd) (fun s => [(0, .slice (some ⟨g, 0, none⟩) L cap), (14, .int .i64 (i : Int)), (17, .int .i64 (s.1 : Int))]) (fun s => Cells g 26 (flatF s.2 ++ r) :: F) (fun s => i ≤ s.1 ∧ s.1 ≤ m ∧ Bck m s.1 ys s.2) (fun s => s.1) (m, ys) ⟨hj, Nat.le_refl _, Bck.zero m ys⟩ (.cons rfl (.cons rfl (.cons rfl (.nil _)))) (fun w h => h) ?_
       rintro ⟨k, zs⟩ ⟨hik, hkm, hS⟩
       dsimp only at hik hkm hS ⊢
       have hzl : zs.length = L := hS.len.trans hl
       refine WC.seq ?_
       refine WC.sr ?_
       refine WL.mv rfl rfl ?_
       refine WL.mv rfl rfl ?_
       refine WL.val (V.gtr (OV.p rfl) (OV.p rfl)) rfl ?_
       refine WL.nil ?_
       refine WC.cond rfl (fun hc7 => ?_) (fun hc7 => ?_)
       ·simp only [decide_eq_true_eq, decide_eq_false_iff_not] at hc7
        have hkn : i < k := by omega
        have hja : Rds K (Cells g 26 (flatF zs ++ r) :: F) g (0 + (k : Int).toNat * 5) (el zs k).cells := found_rds (by omega) (by omega)
        have hjb : Rds K (Cells g 26 (flatF zs ++ r) :: F) g (0 + ((k : Int) - 1).toNat * 5) (el zs (k - 1)).cells := found_rds (by omega) (by omega)
        have hnx := hS.step (by omega) hkm (by omega)
        refine WC.skip ?_
        refine WC.seq ?_
        refine WC.block ?_
        refine WC.regionA F (by kernel_rfl) ?_
        refine WA.t 0 rfl (V.move (OV.p rfl)) ?_
        refine WA.t 1 rfl (V.move (OV.p rfl)) ?_
        refine WA.t 2 rfl (V.move (OV.p rfl)) ?_
        refine WA.t 3 rfl (V.move (OV.p rfl)) ?_
        refine WA.t 4 rfl (V.subI (OV.p rfl) (OV.p rfl) (fun hc => by first | omega | (simp at hc; omega))) ?_
        refine WA.t 5 rfl (V.move (OV.p rfl)) ?_
        refine WA.t 6 rfl (V.move (OV.p rfl)) ?_
        refine WA.t 7 rfl (V.subI (OV.p rfl) (OV.p rfl) (fun hc => by first | omega | (simp at hc; omega))) ?_
        refine WA.t 8 rfl (V.idxB st22 (OV.p rfl) (OV.p rfl) (fun hc => by omega)) ?_
        refine WA.t 10 rfl (V.move (OV.p rfl)) ?_
        refine WA.t 11 rfl (V.move (OV.p rfl)) ?_
        refine WA.t 12 rfl (V.idxB st22 (OV.p rfl) (OV.p rfl) (fun hc => by omega)) ?_
        refine WA.two (i := 9) (j := 13) (fun w h => by repeat (first | exact h | replace h := h.tail)) (by kernel_rfl) rfl rfl ?_ ?_
        ·refine WL.val (V.loadA (vs := (el zs (k - 1)).cells) ⟨Try.isAgg26, Try.sizeOf26⟩ (OV.p rfl) rfl (fun _ => hjb)) rfl ?_
         refine WL.nil ?_
         refine WA.o 13 rfl ?_
         refine WL.val (V.loadA (vs := (el zs k).cells) ⟨Try.isAgg26, Try.sizeOf26⟩ (OV.p rfl) rfl (fun _ => hja)) rfl ?_
         refine WL.nil ?_
         refine WA.t 14 rfl (V.idxB st22 (OV.p rfl) (OV.p rfl) (fun hc => by omega)) ?_
         refine WA.o 15 rfl ?_
         refine WL.store (cs := (el zs (k - 1)).cells) Try.sizeOf26 (OV.p rfl) (OV.p rfl) rfl rfl rfl (flatF_upd (j := k) (y := el zs (k - 1)) (by omega) (by omega)) ?_
         refine WL.nil ?_
         refine WA.t 16 rfl (V.idxB st22 (OV.p rfl) (OV.p rfl) (fun hc => by omega)) ?_
         refine WA.o 17 rfl ?_
         refine WL.store (cs := (el zs k).cells) Try.sizeOf26 (OV.p rfl) (OV.p rfl) rfl rfl rfl (flatF_upd (j := k - 1) (y := el zs k) (by rw [List.length_set]; omega) (by omega)) ?_
         refine WL.nil ?_
         refine WA.fin ?_
         refine WC.region ?_
         refine WL.mv rfl rfl ?_
         refine WL.sb rfl rfl rfl ?_
         refine WL.sg rfl rfl ?_
         refine WL.nil ?_
         refine ⟨rfl, ?_⟩
         exact ⟨(k - 1, swp zs k (k - 1)), ⟨by show i ≤ k - 1; omega, by show k - 1 ≤ m; omega, hnx⟩, (by show k - 1 < k; omega), .cons rfl (.cons rfl (.cons (look_eq rfl (by show Value.int .i64 ((k : Int) - 1) = Value.int .i64 ((k - 1 : Nat) : Int); congr 1; omega)) (.nil _))), fun w h => h⟩
        ·refine WL.val (V.loadA (vs := (el zs k).cells) ⟨Try.isAgg26, Try.sizeOf26⟩ (OV.p rfl) rfl (fun _ => hja)) rfl ?_
         refine WL.nil ?_
         refine WA.o 9 rfl ?_
         refine WL.val (V.loadA (vs := (el zs (k - 1)).cells) ⟨Try.isAgg26, Try.sizeOf26⟩ (OV.p rfl) rfl (fun _ => hjb)) rfl ?_
         refine WL.nil ?_
         refine WA.t 14 rfl (V.idxB st22 (OV.p rfl) (OV.p rfl) (fun hc => by omega)) ?_
         refine WA.o 15 rfl ?_
         refine WL.store (cs := (el zs (k - 1)).cells) Try.sizeOf26 (OV.p rfl) (OV.p rfl) rfl rfl rfl (flatF_upd (j := k) (y := el zs (k - 1)) (by omega) (by omega)) ?_
         refine WL.nil ?_
         refine WA.t 16 rfl (V.idxB st22 (OV.p rfl) (OV.p rfl) (fun hc => by omega)) ?_
         refine WA.o 17 rfl ?_
         refine WL.store (cs := (el zs k).cells) Try.sizeOf26 (OV.p rfl) (OV.p rfl) rfl rfl rfl (flatF_upd (j := k - 1) (y := el zs k) (by rw [List.length_set]; omega) (by omega)) ?_
         refine WL.nil ?_
         refine WA.fin ?_
         refine WC.region ?_
         refine WL.mv rfl rfl ?_
         refine WL.sb rfl rfl rfl ?_
         refine WL.sg rfl rfl ?_
         refine WL.nil ?_
         refine ⟨rfl, ?_⟩
         exact ⟨(k - 1, swp zs k (k - 1)), ⟨by show i ≤ k - 1; omega, by show k - 1 ≤ m; omega, hnx⟩, (by show k - 1 < k; omega), .cons rfl (.cons rfl (.cons (look_eq rfl (by show Value.int .i64 ((k : Int) - 1) = Value.int .i64 ((k - 1 : Nat) : Int); congr 1; omega)) (.nil _))), fun w h => h⟩
       ·simp only [decide_eq_true_eq, decide_eq_false_iff_not] at hc7
        refine WC.exit ?_
        refine WC.ret ?_
        obtain rfl : k = i := by omega
        obtain ⟨e1, e2⟩ := Bck.done hc hS hi hj hs1 hlo hhi
        exact BodyQ.ret (H' := Cells g 26 (flatF zs ++ r) :: F) (Res.none rfl) (fun w h => h) ⟨zs, e1, e2, rfl⟩
     ·simp only [decide_eq_true_eq, decide_eq_false_iff_not] at hc4
      refine WC.skip ?_
      refine WC.sr ?_
      refine WL.mv rfl rfl ?_
      refine WL.mv rfl rfl ?_
      refine WL.ad rfl rfl rfl ?_
      refine WL.val (V.convW Try.runUnderlying3 Try.runUnderlying50 (OV.p rfl) (fun _ => wrap_u64 (by omega))) rfl ?_
      refine WL.val (V.val_eq (v' := .int .u64 (mid : Int)) (V.shr (OV.p rfl) (OV.p rfl) (by decide)) (fun _ => by rw [half_u, ← hmid])) rfl ?_
      refine WL.val (V.convW Try.runUnderlying50 Try.runUnderlying3 (OV.p rfl) (fun _ => wrap_i64 (by omega))) rfl ?_
      refine WL.sg rfl rfl ?_
      refine WL.nil ?_
      refine WC.sr ?_
      refine WL.mv rfl rfl ?_
      refine WL.mv rfl rfl ?_
      refine WL.val (V.val_eq (v' := .int .i64 (n : Int)) (V.addI (OV.p rfl) (OV.p rfl) (fun _ => by omega)) (fun _ => by rw [hn]; simp)) rfl ?_
      refine WL.sg rfl rfl ?_
      refine WL.nil ?_
      refine WC.sr ?_
      refine WL.sg rfl rfl ?_
      refine WL.sg rfl rfl ?_
      refine WL.nil ?_
      refine WC.join (σ := Nat × Nat) (fun s => [(0, .slice (some ⟨g, 0, none⟩) L cap), (1, .int .i64 (a : Int)), (2, .int .i64 (m : Int)), (3, .int .i64 (b : Int)), (4, .func (.func f) #[] #[]), (18, .int .i64 (mid : Int)), (19, .int .i64 (n : Int)), (20, .int .i64 (s.1 : Int)), (21, .int .i64 (s.2 : Int))]) (fun _ => Cells g 26 (flatF ys ++ r) :: F) (fun s => s.1 ≤ s.2 ∧ a ≤ s.1 ∧ s.2 ≤ m ∧ m + s.2 ≤ n ∧ n ≤ b + s.1 ∧ (s.1 = a ∨ n = b + s.1) ∧ (s.2 = m ∨ n = m + s.2)) ?_ ?_
      ·skip
       refine WC.sr ?_
       refine WL.mv rfl rfl ?_
       refine WL.mv rfl rfl ?_
       refine WL.val (V.gtr (OV.p rfl) (OV.p rfl)) rfl ?_
       refine WL.nil ?_
       refine WC.cond rfl (fun hc8 => ?_) (fun hc8 => ?_)
       ·simp only [decide_eq_true_eq, decide_eq_false_iff_not] at hc8
        have h8 := hc8
        refine WC.sr ?_
        refine WL.mv rfl rfl ?_
        refine WL.mv rfl rfl ?_
        refine WL.val (V.val_eq (v' := .int .i64 ((n - b : Nat) : Int)) (V.subI (OV.p rfl) (OV.p rfl) (fun _ => by omega)) (fun _ => by congr 1; omega)) rfl ?_
        refine WL.sg rfl rfl ?_
        refine WL.nil ?_
        refine WC.region ?_
        refine WL.mv rfl rfl ?_
        refine WL.sg rfl rfl ?_
        refine WL.nil ?_
        refine ⟨rfl, ?_⟩
        first
        | exact ⟨(n - b, mid), ⟨by show n - b ≤ mid; omega, by show a ≤ n - b; omega, by show mid ≤ m; omega, by show m + mid ≤ n; omega, by show n ≤ b + (n - b); omega, .inr (by show n = b + (n - b); omega), .inr (by show n = m + mid; omega)⟩, .cons rfl (.cons rfl (.cons rfl (.cons rfl (.cons rfl (.cons rfl (.cons rfl (.cons rfl (.cons rfl (.nil _))))))))), fun w h => h⟩
        | exact ⟨(a, m), ⟨by show a ≤ m; omega, Nat.le_refl _, Nat.le_refl _, by show m + m ≤ n; omega, by show n ≤ b + a; omega, .inl rfl, .inl rfl⟩, .cons rfl (.cons rfl (.cons rfl (.cons rfl (.cons rfl (.cons rfl (.cons rfl (.cons rfl (.cons rfl (.nil _))))))))), fun w h => h⟩
       ·simp only [decide_eq_true_eq, decide_eq_false_iff_not] at hc8
        have h8 := hc8
        refine WC.sr ?_
        refine WL.mv rfl rfl ?_
        refine WL.sg rfl rfl ?_
        refine WL.nil ?_
        refine WC.region ?_
        refine WL.mv rfl rfl ?_
        refine WL.sg rfl rfl ?_
        refine WL.nil ?_
        refine ⟨rfl, ?_⟩
        first
        | exact ⟨(n - b, mid), ⟨by show n - b ≤ mid; omega, by show a ≤ n - b; omega, by show mid ≤ m; omega, by show m + mid ≤ n; omega, by show n ≤ b + (n - b); omega, .inr (by show n = b + (n - b); omega), .inr (by show n = m + mid; omega)⟩, .cons rfl (.cons rfl (.cons rfl (.cons rfl (.cons rfl (.cons rfl (.cons rfl (.cons rfl (.cons rfl (.nil _))))))))), fun w h => h⟩
        | exact ⟨(a, m), ⟨by show a ≤ m; omega, Nat.le_refl _, Nat.le_refl _, by show m + m ≤ n; omega, by show n ≤ b + a; omega, .inl rfl, .inl rfl⟩, .cons rfl (.cons rfl (.cons rfl (.cons rfl (.cons rfl (.cons rfl (.cons rfl (.cons rfl (.cons rfl (.nil _))))))))), fun w h => h⟩
      ·skip
       rintro ⟨lo, hi⟩ ⟨q1, q2, q3, q4, q5, q6, q7⟩
       dsimp only at q1 q2 q3 q4 q5 q6 q7 ⊢
       refine WC.sr ?_
       refine WL.mv rfl rfl ?_
       refine WL.val (V.val_eq (v' := .int .i64 ((n - 1 : Nat) : Int)) (V.subI (OV.p rfl) (OV.p rfl) (fun _ => by omega)) (fun _ => by congr 1; omega)) rfl ?_
       refine WL.sg rfl rfl ?_
       refine WL.nil ?_
       refine WC.seq ?_
       refine WC.block ?_
       refine WC.loop (σ := Nat × Nat) (fun s => [(0, .slice (some ⟨g, 0, none⟩) L cap), (1, .int .i64 (a : Int)), (2, .int .i64 (m : Int)), (3, .int .i64 (b : Int)), (4, .func (.func f) #[] #[]), (18, .int .i64 (mid : Int)), (19, .int .i64 (n : Int)), (20, .int .i64 (s.1 : Int)), (21, .int .i64 (s.2 : Int)), (22, .int .i64 ((n - 1 : Nat) : Int))]) (fun _ => Cells g 26 (flatF ys ++ r) :: F) (fun s => lo ≤ s.1 ∧ s.1 ≤ s.2 ∧ s.2 ≤ hi ∧ (∀ x, lo ≤ x → x < s.1 → Le c (el ys x) (el ys (n - 1 - x))) ∧ ∀ x, s.2 ≤ x → x < hi → c (el ys (n - 1 - x)) (el ys x) < 0) (fun s => s.2 - s.1) (lo, hi) ⟨Nat.le_refl _, q1, Nat.le_refl _, fun x h1 h2 => absurd h2 (by show ¬ x < lo; omega), fun x h1 h2 => absurd h2 (by have : hi ≤ x := h1; omega)⟩ (.cons rfl (.cons rfl (.cons rfl (.cons rfl (.cons rfl (.cons rfl (.cons rfl (.cons rfl (.cons rfl (.cons rfl (.nil _))))))))))) (fun w h => h) ?_
       rintro ⟨s, t⟩ ⟨p1, p2, p3, p4, p5⟩
       dsimp only at p1 p2 p3 p4 p5 ⊢
       refine WC.seq ?_
       refine WC.sr ?_
       refine WL.mv rfl rfl ?_
       refine WL.mv rfl rfl ?_
       refine WL.val (V.lss (OV.p rfl) (OV.p rfl)) rfl ?_
       refine WL.nil ?_
       refine WC.cond rfl (fun hc9 => ?_) (fun hc9 => ?_)
       ·simp only [decide_eq_true_eq, decide_eq_false_iff_not] at hc9
        obtain ⟨k, hk⟩ : ∃ k, k = (s + t) / 2 := ⟨_, rfl⟩
        have hki : s ≤ k ∧ k < t := by omega
        refine WC.skip ?_
        refine WC.block ?_
        refine WC.sr ?_
        refine WL.mv rfl rfl ?_
        refine WL.mv rfl rfl ?_
        refine WL.ad rfl rfl rfl ?_
        refine WL.val (V.convW Try.runUnderlying3 Try.runUnderlying50 (OV.p rfl) (fun _ => wrap_u64 (by omega))) rfl ?_
        refine WL.val (V.val_eq (v' := .int .u64 (k : Int)) (V.shr (OV.p rfl) (OV.p rfl) (by decide)) (fun _ => by rw [half_u, ← hk])) rfl ?_
        refine WL.val (V.convW Try.runUnderlying50 Try.runUnderlying3 (OV.p rfl) (fun _ => wrap_i64 (by omega))) rfl ?_
        refine WL.sg rfl rfl ?_
        refine WL.nil ?_
        refine WC.seq ?_
        refine WC.regionQ (by kernel_rfl) (by kernel_rfl) ?_
        refine WQ.val (V.move (OV.p rfl)) rfl ?_
        refine WQ.val (V.move (OV.p rfl)) rfl ?_
        refine WQ.val (V.move (OV.p rfl)) rfl ?_
        refine WQ.val (V.move (OV.p rfl)) rfl ?_
        refine WQ.val (V.subI (OV.p rfl) (OV.p rfl) (fun _ => by omega)) rfl ?_
        refine WQ.val (V.idxB st22 (OV.p rfl) (OV.p rfl) (fun hc => by omega)) rfl ?_
        refine WQ.val (V.loadA (vs := (el ys (n - 1 - k)).cells) ⟨Try.isAgg26, Try.sizeOf26⟩ (OV.p rfl) rfl (fun _ => found_rds (by omega) (by omega))) rfl ?_
        refine WQ.val (V.move (OV.p rfl)) rfl ?_
        refine WQ.val (V.move (OV.p rfl)) rfl ?_
        refine WQ.val (V.idxB st22 (OV.p rfl) (OV.p rfl) (fun hc => by omega)) rfl ?_
        refine WQ.val (V.loadA (vs := (el ys k).cells) ⟨Try.isAgg26, Try.sizeOf26⟩ (OV.p rfl) rfl (fun _ => found_rds (by omega) (by omega))) rfl ?_
        refine WQ.callV (first := []) (vs := [_, _]) (captured := []) hf.1 (OV.p rfl) ⟨OV.p rfl, OV.p rfl, trivial⟩ (hf.2 _ _ (el ys (n - 1 - k)) (el ys k)) rfl ?_
        refine WQ.val (V.lss (OV.p rfl) (OV.p rfl)) rfl ?_
        refine WQ.val (V.not (OV.p rfl)) rfl ?_
        refine WQ.nil ?_
        refine WC.cond rfl (fun hc10 => ?_) (fun hc10 => ?_)
        ·simp only [Bool.not_eq_true', Bool.not_eq_false', decide_eq_true_eq, decide_eq_false_iff_not] at hc10
         have h2 := hc10
         have hnx := cross_up (n := n) (lo := lo) (c0 := k) (hi := hi) hc hs1 hs2 q2 (by omega) q3 q4 q5 h2
         refine WC.region ?_
         refine WL.mv rfl rfl ?_
         refine WL.ad rfl rfl rfl ?_
         refine WL.sg rfl rfl ?_
         refine WL.nil ?_
         refine ⟨rfl, ?_⟩
         first
         | exact ⟨(k + 1, t), ⟨by show lo ≤ k + 1; omega, by show k + 1 ≤ t; omega, p3, fun x h1 h2 => hnx x h1 (by have : x < k + 1 := h2; omega), p5⟩, (by show t - (k + 1) < t - s; omega), .cons rfl (.cons rfl (.cons rfl (.cons rfl (.cons rfl (.cons rfl (.cons rfl (.cons (look_eq rfl (by simp)) (.cons rfl (.cons rfl (.nil _)))))))))), fun w h => h⟩
         | exact ⟨(s, k), ⟨p1, hki.1, by show k ≤ hi; omega, p4, hnx⟩, (by show k - s < t - s; omega), .cons rfl (.cons rfl (.cons rfl (.cons rfl (.cons rfl (.cons rfl (.cons rfl (.cons rfl (.cons rfl (.cons rfl (.nil _)))))))))), fun w h => h⟩
        ·simp only [Bool.not_eq_true', Bool.not_eq_false', decide_eq_true_eq, decide_eq_false_iff_not] at hc10
         have h2 := hc10
         have hnx := cross_dn (n := n) (lo := lo) (c0 := k) (hi := hi) hc hs1 hs2 q2 (by omega) q3 q4 q5 h2
         refine WC.region ?_
         refine WL.mv rfl rfl ?_
         refine WL.sg rfl rfl ?_
         refine WL.nil ?_
         refine ⟨rfl, ?_⟩
         first
         | exact ⟨(k + 1, t), ⟨by show lo ≤ k + 1; omega, by show k + 1 ≤ t; omega, p3, fun x h1 h2 => hnx x h1 (by have : x < k + 1 := h2; omega), p5⟩, (by show t - (k + 1) < t - s; omega), .cons rfl (.cons rfl (.cons rfl (.cons rfl (.cons rfl (.cons rfl (.cons rfl (.cons (look_eq rfl (by simp)) (.cons rfl (.cons rfl (.nil _)))))))))), fun w h => h⟩
         | exact ⟨(s, k), ⟨p1, hki.1, by show k ≤ hi; omega, p4, hnx⟩, (by show k - s < t - s; omega), .cons rfl (.cons rfl (.cons rfl (.cons rfl (.cons rfl (.cons rfl (.cons rfl (.cons rfl (.cons rfl (.cons rfl (.nil _)))))))))), fun w h => h⟩
       ·simp only [decide_eq_true_eq, decide_eq_false_iff_not] at hc9
        obtain rfl : s = t := by omega
        obtain ⟨e, he⟩ : ∃ e, e = n - s := ⟨_, rfl⟩
        have k1 : a < s → e < b → Le c (el ys (s - 1)) (el ys e) := fun h1 h2 => by
          have := p4 (s - 1) (by omega) (by omega)
          rwa [show n - 1 - (s - 1) = e by omega] at this
        have k2 : s < m → m < e → c (el ys (e - 1)) (el ys s) < 0 := fun h1 h2 => by
          have := p5 s (Nat.le_refl _) (by omega)
          rwa [show n - 1 - s = e - 1 by omega] at this
        refine WC.exit ?_
        refine WC.sr ?_
        refine WL.mv rfl rfl ?_
        refine WL.mv rfl rfl ?_
        refine WL.val (V.val_eq (v' := .int .i64 (e : Int)) (V.subI (OV.p rfl) (OV.p rfl) (fun _ => by omega)) (fun _ => by congr 1; omega)) rfl ?_
        refine WL.sg rfl rfl ?_
        refine WL.nil ?_
        refine WC.join (σ := List Fd) (fun _ => [(0, .slice (some ⟨g, 0, none⟩) L cap), (1, .int .i64 (a : Int)), (3, .int .i64 (b : Int)), (4, .func (.func f) #[] #[]), (18, .int .i64 (mid : Int)), (20, .int .i64 (s : Int)), (24, .int .i64 (e : Int))]) (fun zs => Cells g 26 (flatF zs ++ r) :: F) (fun zs => Rot s m e ys zs) ?_ ?_
        ·skip
         refine WC.sr ?_
         refine WL.mv rfl rfl ?_
         refine WL.mv rfl rfl ?_
         refine WL.val (V.lss (OV.p rfl) (OV.p rfl)) rfl ?_
         refine WL.mv rfl rfl ?_
         refine WL.valG (oj := _) rfl rfl rfl GC.t (V.move (OV.p rfl)) rfl ?_
         refine WL.valG (oj := _) rfl rfl rfl GC.t (V.move (OV.p rfl)) rfl ?_
         refine WL.valG (oj := _) rfl rfl rfl GC.t (V.lss (OV.g rfl id) (OV.g rfl id)) rfl ?_
         refine WL.val (V.pickAnd (OV.p rfl) (OV.g rfl id)) rfl ?_
         refine WL.nil ?_
         refine WC.cond rfl (fun hc11 => ?_) (fun hc11 => ?_)
         ·simp only [Bool.and_eq_true, Bool.and_eq_false_iff, decide_eq_true_eq, decide_eq_false_iff_not] at hc11
          have h11 := hc11
          refine WC.region ?_
          refine WL.mv rfl rfl ?_
          refine WL.mv rfl rfl ?_
          refine WL.mv rfl rfl ?_
          refine WL.mv rfl rfl ?_
          refine WL.mv rfl rfl ?_
          refine WL.call (vs := [_, _, _, _, _]) Try.call21 ⟨OV.p rfl, OV.p rfl, OV.p rfl, OV.p rfl, OV.p rfl, trivial⟩ (rotate_found (a := s) (m := m) (b := e) rfl rfl rfl hl hL (by omega) (by omega) (by omega)) rfl ?_
          rintro _ _ ⟨zs, hR, rfl⟩
          refine WL.nil ?_
          refine ⟨rfl, ?_⟩
          first
          | exact ⟨zs, hR, .cons rfl (.cons rfl (.cons rfl (.cons rfl (.cons rfl (.cons rfl (.cons rfl (.nil _))))))), fun w h => h⟩
          | exact ⟨ys, Rot.none ys (by omega) (by omega) (by omega), .cons rfl (.cons rfl (.cons rfl (.cons rfl (.cons rfl (.cons rfl (.cons rfl (.nil _))))))), fun w h => h⟩
         ·simp only [Bool.and_eq_true, Bool.and_eq_false_iff, decide_eq_true_eq, decide_eq_false_iff_not] at hc11
          have h11 := hc11
          refine WC.skip ?_
          refine ⟨rfl, ?_⟩
          first
          | exact ⟨zs, hR, .cons rfl (.cons rfl (.cons rfl (.cons rfl (.cons rfl (.cons rfl (.cons rfl (.nil _))))))), fun w h => h⟩
          | exact ⟨ys, Rot.none ys (by omega) (by omega) (by omega), .cons rfl (.cons rfl (.cons rfl (.cons rfl (.cons rfl (.cons rfl (.cons rfl (.nil _))))))), fun w h => h⟩
        ·skip
         rintro zs hR
         try dsimp only at hR ⊢
         have hzl : zs.length = L := hR.len.trans hl
         obtain ⟨u1, u2, u3, u4, u5⟩ := halves (mid := mid) hc hs1 hs2 (by omega) (by omega) (by omega) (by omega) (by omega) hR k1 k2
         refine WC.join (σ := List Fd) (fun _ => [(0, .slice (some ⟨g, 0, none⟩) L cap), (3, .int .i64 (b : Int)), (4, .func (.func f) #[] #[]), (18, .int .i64 (mid : Int)), (24, .int .i64 (e : Int))]) (fun vs => Cells g 26 (flatF vs ++ r) :: F) (fun vs => Rg a mid zs vs ∧ Srt c vs a mid) ?_ ?_
         ·skip
          refine WC.sr ?_
          refine WL.mv rfl rfl ?_
          refine WL.mv rfl rfl ?_
          refine WL.val (V.lss (OV.p rfl) (OV.p rfl)) rfl ?_
          refine WL.mv rfl rfl ?_
          refine WL.valG (oj := _) rfl rfl rfl GC.t (V.move (OV.p rfl)) rfl ?_
          refine WL.valG (oj := _) rfl rfl rfl GC.t (V.move (OV.p rfl)) rfl ?_
          refine WL.valG (oj := _) rfl rfl rfl GC.t (V.lss (OV.g rfl id) (OV.g rfl id)) rfl ?_
          refine WL.val (V.pickAnd (OV.p rfl) (OV.g rfl id)) rfl ?_
          refine WL.nil ?_
          refine WC.cond rfl (fun hc12 => ?_) (fun hc12 => ?_)
          ·simp only [Bool.and_eq_true, Bool.and_eq_false_iff, decide_eq_true_eq, decide_eq_false_iff_not] at hc12
           have h12 := hc12
           refine WC.region ?_
           refine WL.mv rfl rfl ?_
           refine WL.mv rfl rfl ?_
           refine WL.mv rfl rfl ?_
           refine WL.mv rfl rfl ?_
           refine WL.mv rfl rfl ?_
           refine WL.call (vs := [_, _, _, _, _]) Try.call20 ⟨OV.p rfl, OV.p rfl, OV.p rfl, OV.p rfl, OV.p rfl, trivial⟩ (symMerge_found hf hc hL d (a := a) (m := s) (b := mid) (by omega) (by omega) (by omega) (by omega) hzl u1 u2) rfl ?_
           rintro _ _ ⟨vs, hV, hVs, rfl⟩
           refine WL.nil ?_
           refine ⟨rfl, ?_⟩
           first
           | exact ⟨vs, ⟨hV, hVs⟩, .cons rfl (.cons rfl (.cons rfl (.cons rfl (.cons rfl (.nil _))))), fun w h => h⟩
           | exact ⟨zs, ⟨Rg.refl _ _ _, by
               by_cases h : s = a
               · rw [← h]; exact u2
               · rw [show mid = s by omega]; exact u1⟩, .cons rfl (.cons rfl (.cons rfl (.cons rfl (.cons rfl (.nil _))))), fun w h => h⟩
          ·simp only [Bool.and_eq_true, Bool.and_eq_false_iff, decide_eq_true_eq, decide_eq_false_iff_not] at hc12
           have h12 := hc12
           refine WC.skip ?_
           refine ⟨rfl, ?_⟩
           first
           | exact ⟨vs, ⟨hV, hVs⟩, .cons rfl (.cons rfl (.cons rfl (.cons rfl (.cons rfl (.nil _))))), fun w h => h⟩
           | exact ⟨zs, ⟨Rg.refl _ _ _, by
               by_cases h : s = a
               · rw [← h]; exact u2
               · rw [show mid = s by omega]; exact u1⟩, .cons rfl (.cons rfl (.cons rfl (.cons rfl (.cons rfl (.nil _))))), fun w h => h⟩
         ·skip
          rintro vs ⟨hV, hVs⟩
          try dsimp only at hV hVs ⊢
          have hvl : vs.length = L := hV.len.trans hzl
          have hfin : ∀ ws, Rg mid b vs ws → Srt c ws mid b → Rg a b ys ws ∧ Srt c ws a b := fun ws h1 h2 =>
            ⟨((hR.rg (by omega) (by omega)).wider (by omega) (by omega)).trans ((hV.wider (Nat.le_refl _) (by omega)).trans (h1.wider (by omega) (Nat.le_refl _))), join_halves (by omega) (by omega) u5 hV hVs h1 h2⟩
          have u3' : Srt c vs mid e := u3.of (fun x h1 h2 => hV.out x (.inr h1))
          have u4' : Srt c vs e b := u4.of (fun x h1 h2 => hV.out x (.inr (by omega)))
          refine WC.sr ?_
          refine WL.mv rfl rfl ?_
          refine WL.mv rfl rfl ?_
          refine WL.val (V.lss (OV.p rfl) (OV.p rfl)) rfl ?_
          refine WL.mv rfl rfl ?_
          refine WL.valG (oj := _) rfl rfl rfl GC.t (V.move (OV.p rfl)) rfl ?_
          refine WL.valG (oj := _) rfl rfl rfl GC.t (V.move (OV.p rfl)) rfl ?_
          refine WL.valG (oj := _) rfl rfl rfl GC.t (V.lss (OV.g rfl id) (OV.g rfl id)) rfl ?_
          refine WL.val (V.pickAnd (OV.p rfl) (OV.g rfl id)) rfl ?_
          refine WL.nil ?_
          refine WC.cond rfl (fun hc13 => ?_) (fun hc13 => ?_)
          ·simp only [Bool.and_eq_true, Bool.and_eq_false_iff, decide_eq_true_eq, decide_eq_false_iff_not] at hc13
           have h13 := hc13
           refine WC.region ?_
           refine WL.mv rfl rfl ?_
           refine WL.mv rfl rfl ?_
           refine WL.mv rfl rfl ?_
           refine WL.mv rfl rfl ?_
           refine WL.mv rfl rfl ?_
           refine WL.call (vs := [_, _, _, _, _]) Try.call20 ⟨OV.p rfl, OV.p rfl, OV.p rfl, OV.p rfl, OV.p rfl, trivial⟩ (symMerge_found hf hc hL d (a := mid) (m := e) (b := b) (by omega) (by omega) (by omega) (by omega) hvl u3' u4') rfl ?_
           rintro _ _ ⟨ws, hW, hWs, rfl⟩
           refine WL.nil ?_
           first
           | (obtain ⟨e1, e2⟩ := hfin ws hW hWs
              exact BodyQ.normal (H' := Cells g 26 (flatF ws ++ r) :: F) (Res.none rfl) (fun w h => h) ⟨ws, e1, e2, rfl⟩)
           | (obtain ⟨e1, e2⟩ := hfin vs (Rg.refl _ _ _) (by
                by_cases h : e = mid
                · rw [← h]; exact u4'
                · rw [show b = e by omega]; exact u3')
              exact BodyQ.normal (H' := Cells g 26 (flatF vs ++ r) :: F) (Res.none rfl) (fun w h => h) ⟨vs, e1, e2, rfl⟩)
          ·simp only [Bool.and_eq_true, Bool.and_eq_false_iff, decide_eq_true_eq, decide_eq_false_iff_not] at hc13
           have h13 := hc13
           refine WC.skip ?_
           first
           | (obtain ⟨e1, e2⟩ := hfin ws hW hWs
              exact BodyQ.normal (H' := Cells g 26 (flatF ws ++ r) :: F) (Res.none rfl) (fun w h => h) ⟨ws, e1, e2, rfl⟩)
           | (obtain ⟨e1, e2⟩ := hfin vs (Rg.refl _ _ _) (by
                by_cases h : e = mid
                · rw [← h]; exact u4'
                · rw [show b = e by omega]; exact u3')
              exact BodyQ.normal (H' := Cells g 26 (flatF vs ++ r) :: F) (Res.none rfl) (fun w h => h) ⟨vs, e1, e2, rfl⟩)
end
end Go.Proofs.Ytcmojpiokjhmhaa
