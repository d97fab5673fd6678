/- The law AttachOrder. -/
import Derived.Test.YtcmojpiokjhmhaaA3
import Derived.Test.YtcmojpiokjhmhaaT7
import Derived.Test.YtcmojpiokjhmhaaT8
import Derived.Test.YtcmojpiokjhmhaaG8
namespace Go.Proofs.Ytcmojpiokjhmhaa
open Go.Sl Go.RowKit
set_option linter.unusedVariables false
set_option linter.unusedSimpArgs false
set_option maxRecDepth 20000

theorem a_inAll {K : World} {l H : List Assn} {A : Assn} {B : Option Addr} {m s : Nat} {vs : List Value} (hA : A ∈ l) (h : Seq K [A] B m s vs) : Seq K (AllA l :: H) B m s vs := ⟨h.len, fun i v hi => Rd.inAll hA (h.rd i v hi)⟩
theorem a_cmpI (x y : Int) : cmpI x y < 0 ↔ x < y := by
  unfold cmpI
  split
  · simp; assumption
  · split <;> simp <;> omega
theorem a_cmpN (x y : Fd) : cmpN x y < 0 ↔ x.hd.num < y.hd.num ∨ (x.hd.num = y.hd.num ∧ y.block < x.block) := by
  have h1 := a_cmpI x.hd.num y.hd.num
  have h2 := a_cmpI y.block x.block
  unfold cmpN orI
  by_cases h : cmpI x.hd.num y.hd.num = 0
  · rw [if_neg (fun hh => hh h), h2]
    have : x.hd.num = y.hd.num := by
      unfold cmpI at h
      split at h
      · exact absurd h (by decide)
      · split at h
        · exact absurd h (by decide)
        · omega
    omega
  · rw [if_pos h, h1]
    have : x.hd.num ≠ y.hd.num := fun e => h (by unfold cmpI; rw [if_neg (by omega), if_neg (by omega)])
    omega
theorem ord_N : Ord3 cmpN := ⟨fun p q r h1 h2 => by unfold Le at *; rw [a_cmpN] at *; omega, fun p q h => by unfold Le; rw [a_cmpN] at *; omega⟩
/-- No two of one block. -/
def Dist (ys : List Fd) : Prop := ∀ p q, p ∈ ys → q ∈ ys → p.block = q.block → p = q
theorem Dist.anti {ys zs : List Fd} (h : Dist ys) (hs : ∀ x ∈ zs, x ∈ ys) : Anti cmpN zs := fun p q h1 h2 h3 h4 => h p q (hs p h1) (hs q h2) (by unfold Le at *; rw [a_cmpN] at *; omega)
theorem mx_mem {fs : List Fd} : ∀ k, k < fs.length → mxTo cmpM fs k ∈ fs
  | 0, hk => by show fs.getD 0 fd0 ∈ fs; simp only [List.getD, List.getElem?_eq_getElem hk]; exact List.getElem_mem _
  | k + 1, hk => by
    rw [mxTo]
    split
    · simp only [List.getD, List.getElem?_eq_getElem hk]; exact List.getElem_mem _
    · exact mx_mem k (by omega)
theorem mx_max {fs : List Fd} : ∀ k, k < fs.length → ∀ j, j ≤ k → (el fs j).hd.num ≤ (mxTo cmpM fs k).hd.num
  | 0, _, j, hj => by rw [show j = 0 by omega]; exact Int.le_refl _
  | k + 1, hk, j, hj => by
    have ih := fun i hi => mx_max (fs := fs) k (by omega) i hi
    have hcm : ∀ x y : Fd, 0 < cmpM x y ↔ y.hd.num < x.hd.num := fun x y => by
      unfold cmpM cmpI
      split
      · simp; omega
      · split <;> simp <;> omega
    rw [mxTo]
    by_cases hc : 0 < cmpM (fs.getD (k + 1) fd0) (mxTo cmpM fs k)
    · rw [if_pos hc]
      have h1 := (hcm _ _).1 hc
      by_cases hjk : j = k + 1
      · rw [hjk]; exact Int.le_refl _
      · have := ih j (by omega); omega
    · rw [if_neg hc]
      by_cases hjk : j = k + 1
      · rw [hjk]
        have := mt (hcm _ _).2 hc
        show (fs.getD (k + 1) fd0).hd.num ≤ _
        omega
      · exact ih j (by omega)
theorem next_is {fs : List Fd} {M : Int} (h1 : ∀ x ∈ fs, x.hd.num ≤ M) (h2 : ∃ x ∈ fs, x.hd.num = M) : nextF fs = M + 1 := by
  obtain ⟨x, hx, hxm⟩ := h2
  obtain ⟨i, hi, rfl⟩ := List.getElem_of_mem hx
  have e : el fs i = fs[i] := by simp [el, List.getD, hi]
  unfold nextF
  rw [if_neg (by omega)]
  have k1 := h1 _ (mx_mem (fs := fs) (fs.length - 1) (by omega))
  have k2 := mx_max (fs := fs) (fs.length - 1) (by omega) i (by omega)
  rw [e] at k2
  omega
theorem pick_perm {fs gs : List Fd} (lebs : Nat) (hp : List.Perm gs fs) (hd : Dist fs) : pickF lebs gs = pickF lebs fs := by
  unfold pickF rowsF
  rw [List.map_map, List.map_map]
  apply List.map_congr_left
  intro i _
  show lastB (isort (ltOf cmpN) (gs.filter (isOf i))) = lastB (isort (ltOf cmpN) (fs.filter (isOf i)))
  congr 1
  have hpf := hp.filter (isOf i)
  exact sort_one ord_N (hd.anti fun x hx => (List.mem_filter.1 hx).1) ((isort_perm _).trans hpf) (isort_le ord_N _)
theorem pick_more {fs : List Fd} (lebs : Nat) {x : Fd} (hx : x.whole = false) : (∀ i, (fs ++ [x]).filter (isOf i) = fs.filter (isOf i)) ∧ pickF lebs (fs ++ [x]) = pickF lebs fs := by
  have h : ∀ i, (fs ++ [x]).filter (isOf i) = fs.filter (isOf i) := fun i => by
    rw [List.filter_append, List.filter_cons_of_neg (by unfold isOf; rw [hx]; simp)]
    simp
  refine ⟨h, ?_⟩
  unfold pickF rowsF
  rw [List.map_map, List.map_map]
  apply List.map_congr_left
  intro i _
  show lastB (isort (ltOf cmpN) ((fs ++ [x]).filter (isOf i))) = _
  rw [h]; rfl
theorem turn_perm (fs : List Fd) (b : Nat) : List.Perm (fs.drop b ++ fs.take b) fs := by
  have := List.perm_append_comm (l₁ := fs.drop b) (l₂ := fs.take b)
  rwa [List.take_append_drop] at this
theorem flatF_drop (fs : List Fd) : ∀ b, flatF (fs.drop b) = (flatF fs).drop (b * 5) := fun b => by
  induction b generalizing fs with
  | zero => rw [Nat.zero_mul]; rfl
  | succ b ih =>
    cases fs with
    | nil => simp [flatF]
    | cons x fs =>
      show flatF (fs.drop b) = _
      rw [ih, show flatF (x :: fs) = x.cells ++ flatF fs from rfl, Nat.succ_mul, Nat.add_comm, ← List.drop_drop]; rfl
theorem flatF_take (fs : List Fd) : ∀ b, flatF (fs.take b) = (flatF fs).take (b * 5) := fun b => by
  induction b generalizing fs with
  | zero => rw [Nat.zero_mul]; rfl
  | succ b ih =>
    cases fs with
    | nil => simp [flatF]
    | cons x fs =>
      rw [List.take_succ_cons, show flatF (x :: fs.take b) = x.cells ++ flatF (fs.take b) from rfl, ih, show flatF (x :: fs) = x.cells ++ flatF fs from rfl, Nat.succ_mul, Nat.add_comm (b * 5), List.take_add]; rfl
theorem Does.turn {P : Program} {f : FuncId} {args : Array Value} {K : World} {H : List Assn} {post post' : Value → List Assn → Prop} (h : Does P f args K H post) (hp : ∀ v H', post v H' → ∃ H'', (∀ w, Sat K w H' → Sat K w H'') ∧ post' v H'') : Does P f args K H post' := fun w hw =>
  (h w hw).mono fun e w' ⟨v, H', h1, h2, h3⟩ => by
    obtain ⟨H'', h4, h5⟩ := hp v H' h3
    exact ⟨v, H'', h1, h4 w' h2, h5⟩
section
variable {K : World} {F : List Assn} {A : Option Addr} {n cap : Nat} {fs : List Fd}
theorem seqF_drop (hs : Seq K F A n 5 (flatF fs)) (hn : fs.length = n) (b : Nat) (hb : b ≤ n) : Seq K F (A.map (·.add (b * 5))) (n - b) 5 (flatF (fs.drop b)) := by
  refine ⟨by rw [flatF_length, List.length_drop, hn], fun i v hi => ?_⟩
  rw [flatF_drop, List.getElem?_drop] at hi
  have := hs.rd _ _ hi
  cases A with
  | none => exact this
  | some a =>
    simp only [Option.map_some, add_add] at this ⊢
    exact this
theorem seqF_take (hs : Seq K F A n 5 (flatF fs)) (hn : fs.length = n) (b : Nat) (hb : b ≤ n) : Seq K F A b 5 (flatF (fs.take b)) := by
  refine ⟨by rw [flatF_length, List.length_take]; omega, fun i v hi => ?_⟩
  rw [flatF_take, List.getElem?_take] at hi
  split at hi
  · exact hs.rd _ _ hi
  · cases hi
/-- What Pick tells, of any number. -/
def pickL (lebs : Int) (fs : List Fd) : List Int := if 1 ≤ lebs ∧ lebs ≤ 64 then pickF lebs.toNat fs else []
def pickN (lebs : Int) (fs : List Fd) : Int := if 1 ≤ lebs ∧ lebs ≤ 64 then nextF fs else 0
def pickE (lebs : Int) : Int := if 1 ≤ lebs ∧ lebs ≤ 64 then 0 else 1
theorem attach_wholeE {f : Nat} {lebs : Int} (hl : ¬ (1 ≤ lebs ∧ lebs ≤ 64)) : Tells Try.prog 7 #[.int .i64 lebs, .slice A n cap, .func (.func f) #[] #[]] K F (.tuple #[.slice none 0 0, .int .i64 1]) := by
  refine Does.enter Try.func7 rfl Try.ntmps7 rfl ?_
  simp only [env0, Nat.reduceAdd]
  refine WC.sr ?_
  refine WL.sg rfl rfl ?_
  refine WL.sg rfl rfl ?_
  refine WL.nil ?_
  refine WC.seq ?_
  refine WC.sr ?_
  refine WL.mv rfl rfl ?_
  refine WL.val (V.lss (OV.p rfl) (OV.p rfl)) rfl ?_
  refine WL.mv rfl rfl ?_
  refine WL.valG (oj := _) rfl rfl rfl GC.f (V.move (OV.p rfl)) rfl ?_
  refine WL.valG (oj := _) rfl rfl rfl GC.f (V.gtr (OV.g rfl id) (OV.p rfl)) rfl ?_
  refine WL.val (V.pickOr (OV.p rfl) (OV.g rfl id)) rfl ?_
  refine WL.nil ?_
  refine WC.condT' rfl ((by simp; omega)) ?_
  refine WC.sr ?_
  refine WL.sg rfl rfl ?_
  refine WL.sg rfl rfl ?_
  refine WL.nil ?_
  refine WC.ret ?_
  exact BodyQ.ret (H' := F) (Res.tmp2 rfl rfl rfl) (fun w h => h) ⟨rfl, rfl⟩
theorem attach_PickE {lebs : Int} (hl : ¬ (1 ≤ lebs ∧ lebs ≤ 64)) : Tells Try.prog 4 #[.int .i64 lebs, .slice A n cap] K F (.tuple #[.slice none 0 0, .int .i64 0, .int .i64 1]) := by
  refine Does.enter Try.func4 rfl Try.ntmps4 rfl ?_
  simp only [env0, Nat.reduceAdd]
  refine WC.sr ?_
  refine WL.sg rfl rfl ?_
  refine WL.sg rfl rfl ?_
  refine WL.sg rfl rfl ?_
  refine WL.nil ?_
  refine WC.sr ?_
  refine WL.mv rfl rfl ?_
  refine WL.mv rfl rfl ?_
  refine WL.call (vs := [_, _, _]) Try.call7 ⟨OV.p rfl, OV.p rfl, OV.p rfl, trivial⟩ (attach_wholeE hl) rfl ?_
  rintro _ H0 ⟨rfl, h0⟩
  subst H0
  refine WL.mv rfl rfl ?_
  refine WL.xt rfl rfl rfl ?_
  refine WL.xt rfl rfl rfl ?_
  refine WL.sg rfl rfl ?_
  refine WL.sg rfl rfl ?_
  refine WL.nil ?_
  refine WC.seq ?_
  refine WC.sr ?_
  refine WL.mv rfl rfl ?_
  refine WL.val (V.neq (OV.p rfl) (OV.p rfl)) rfl ?_
  refine WL.nil ?_
  refine WC.condT' rfl (by first | rfl | (simp; done) | (simp; omega)) ?_
  refine WC.sr ?_
  refine WL.mv rfl rfl ?_
  refine WL.sg rfl rfl ?_
  refine WL.sg rfl rfl ?_
  refine WL.sg rfl rfl ?_
  refine WL.nil ?_
  refine WC.ret ?_
  exact BodyQ.ret (H' := F) (Res.tmp3 rfl rfl rfl rfl) (fun w h => h) ⟨rfl, rfl⟩
theorem attach_PickA {lebs : Int} (hs : Seq K F A n 5 (flatF fs)) (hn : fs.length = n) (h20 : n < 1000) (hd : ∀ leb, Anti cmpN (fs.filter (isOf leb))) (hnum : ∀ x ∈ fs, x.hd.num ≤ 1000000001 ∧ 0 ≤ x.hd.num) :
    Does Try.prog 4 #[.int .i64 lebs, .slice A n cap] K F
      (fun v H' => ∃ A' c', v = .tuple #[.slice A' (pickL lebs fs).length c', .int .i64 (pickN lebs fs), .int .i64 (pickE lebs)] ∧ H' = SlA (.slice A' (pickL lebs fs).length c') 3 1 (pickL lebs fs).length (ints .i64 (pickL lebs fs)) :: F) := by
  by_cases hl : 1 ≤ lebs ∧ lebs ≤ 64
  · obtain ⟨k, rfl⟩ : ∃ k : Nat, lebs = (k : Int) := ⟨lebs.toNat, by omega⟩
    unfold pickL pickN pickE
    rw [if_pos hl, if_pos hl, if_pos hl, Int.toNat_natCast, pickF_length]
    exact attach_PickG (by omega) hs hn h20 (fun leb _ => sort_any byNumber_is ord_N (hd leb) (Nat.le_trans (List.length_filter_le _ _) (by omega))) hnum
  · unfold pickL pickN pickE
    rw [if_neg hl, if_neg hl, if_neg hl]
    exact Does.turn (attach_PickE hl) (fun v H' ⟨h1, h2⟩ => ⟨SlA (.slice none 0 0) 3 1 0 [] :: F, fun w h => by rw [h2] at h; exact Sat.slNil h _ _, none, 0, h1, rfl⟩)
/-! ### casemateref10.Lists, at lists that are alike -/
theorem ref10_Lists {B : Option Addr} {cap' : Nat} {ls : List (List Int)} (hm : ls.length = n) (hn : n ≤ 1000)
    (ha : ∀ i, i < n → ∃ (Ai : Option Addr) (ci : Nat), Rd K F (A.map (·.add (i * 1))) (.slice Ai (ls.getD i []).length ci) ∧ Seq K F Ai (ls.getD i []).length 1 (ints .i64 (ls.getD i [])))
    (hb : ∀ i, i < n → ∃ (Ai : Option Addr) (ci : Nat), Rd K F (B.map (·.add (i * 1))) (.slice Ai (ls.getD i []).length ci) ∧ Seq K F Ai (ls.getD i []).length 1 (ints .i64 (ls.getD i []))) (hl : ∀ i, (ls.getD i []).length ≤ 1000) :
    Tells Try.prog 13 #[.slice A n cap, .slice B n cap'] K F (.bool true) := by
  refine Does.enter Try.func13 rfl Try.ntmps13 rfl ?_
  simp only [env0, Nat.reduceAdd]
  refine WC.sr ?_
  refine WL.sg rfl rfl ?_
  refine WL.nil ?_
  refine WC.seq ?_
  refine WC.sr ?_
  refine WL.mv rfl rfl ?_
  refine WL.val (V.len (t := 40) Try.runUnderlying40 (OV.p rfl)) rfl ?_
  refine WL.mv rfl rfl ?_
  refine WL.val (V.len (t := 40) Try.runUnderlying40 (OV.p rfl)) rfl ?_
  refine WL.val (V.neq (OV.p rfl) (OV.p rfl)) rfl ?_
  refine WL.nil ?_
  refine WC.condF' rfl ((by simp)) ?_
  refine WC.skip ?_
  refine WC.seq ?_
  refine WC.sr ?_
  refine WL.sg rfl rfl ?_
  refine WL.nil ?_
  refine WC.block ?_
  refine WC.loop (σ := Nat) (fun i => [(0, .slice A n cap), (1, .slice B n cap'), (5, .int .i64 (i : Int))]) (fun _ => F) (fun i => i ≤ n) (fun i => n - i) 0 (Nat.zero_le _) (.cons rfl (.cons rfl (.cons rfl (.nil _)))) (fun w h => h) ?_
  rintro i hi
  refine WC.seq ?_
  refine WC.sr ?_
  refine WL.mv rfl rfl ?_
  refine WL.mv rfl rfl ?_
  refine WL.val (V.len (t := 40) Try.runUnderlying40 (OV.p rfl)) rfl ?_
  refine WL.val (V.lss (OV.p rfl) (OV.p rfl)) rfl ?_
  refine WL.nil ?_
  refine WC.cond rfl (fun hc1 => ?_) (fun hc1 => ?_)
  ·simp only [decide_eq_true_eq, decide_eq_false_iff_not] at hc1
   have hin : i < n := by omega
   have hti : (i : Int).toNat = i := by omega
   obtain ⟨xs, hxs⟩ : ∃ xs, xs = ls.getD i [] := ⟨_, rfl⟩
   obtain ⟨Ai, ci, ra, sa⟩ := ha i hin
   obtain ⟨Bi, di, rb, sb⟩ := hb i hin
   have hxl := hl i
   rw [← hxs] at ra sa rb sb hxl
   have ra' : Rd K F (A.map (·.add ((i : Int).toNat * 1))) (.slice Ai xs.length ci) := by rw [hti]; exact ra
   have rb' : Rd K F (B.map (·.add ((i : Int).toNat * 1))) (.slice Bi xs.length di) := by rw [hti]; exact rb
   refine WC.skip ?_
   refine WC.seq ?_
   refine WC.block ?_
   refine WC.seq ?_
   refine WC.seq ?_
   refine WC.regionQ (by kernel_rfl) (by kernel_rfl) ?_
   refine WQ.val (V.move (OV.p rfl)) rfl ?_
   refine WQ.val (V.move (OV.p rfl)) rfl ?_
   refine WQ.val (V.idxS st40 (OV.p rfl) (OV.p rfl) (fun _ => by omega) (fun _ => ra')) rfl ?_
   refine WQ.val (V.load Try.isAgg27 (OV.p rfl) (fun _ => ra')) rfl ?_
   refine WQ.val (V.len (t := 27) Try.runUnderlying27 (OV.p rfl)) rfl ?_
   refine WQ.val (V.move (OV.p rfl)) rfl ?_
   refine WQ.val (V.move (OV.p rfl)) rfl ?_
   refine WQ.val (V.idxS st40 (OV.p rfl) (OV.p rfl) (fun _ => by omega) (fun _ => rb')) rfl ?_
   refine WQ.val (V.load Try.isAgg27 (OV.p rfl) (fun _ => rb')) rfl ?_
   refine WQ.val (V.len (t := 27) Try.runUnderlying27 (OV.p rfl)) rfl ?_
   refine WQ.val (V.neq (OV.p rfl) (OV.p rfl)) rfl ?_
   refine WQ.nil ?_
   refine WC.condF' rfl ((by simp)) ?_
   refine WC.skip ?_
   refine WC.sr ?_
   refine WL.sg rfl rfl ?_
   refine WL.nil ?_
   refine WC.block ?_
   refine WC.loop (σ := Nat) (fun k => [(0, .slice A n cap), (1, .slice B n cap'), (5, .int .i64 (i : Int)), (6, .int .i64 (k : Int))]) (fun _ => F) (fun k => k ≤ xs.length) (fun k => xs.length - k) 0 (Nat.zero_le _) (.cons rfl (.cons rfl (.cons rfl (.cons rfl (.nil _))))) (fun w h => h) ?_
   rintro k hk
   refine WC.seq ?_
   refine WC.sr ?_
   refine WL.mv rfl rfl ?_
   refine WL.mv rfl rfl ?_
   refine WL.mv rfl rfl ?_
   refine WL.val (V.idxS st40 (OV.p rfl) (OV.p rfl) (fun _ => by omega) (fun _ => ra')) rfl ?_
   refine WL.val (V.load Try.isAgg27 (OV.p rfl) (fun _ => ra')) rfl ?_
   refine WL.val (V.len (t := 27) Try.runUnderlying27 (OV.p rfl)) rfl ?_
   refine WL.val (V.lss (OV.p rfl) (OV.p rfl)) rfl ?_
   refine WL.nil ?_
   refine WC.cond rfl (fun hc3 => ?_) (fun hc3 => ?_)
   ·simp only [decide_eq_true_eq, decide_eq_false_iff_not] at hc3
    have hkn : k < xs.length := by omega
    have htk : (k : Int).toNat = k := by omega
    obtain ⟨x, hx⟩ : ∃ x, xs[k]? = some x := ⟨_, List.getElem?_eq_getElem hkn⟩
    have qa : Rd K F (Ai.map (·.add ((k : Int).toNat * 1))) (.int .i64 x) := by
      have := sa.rd k (.int .i64 x) (by simp [ints, hx])
      rwa [htk, Nat.mul_one]
    have qb : Rd K F (Bi.map (·.add ((k : Int).toNat * 1))) (.int .i64 x) := by
      have := sb.rd k (.int .i64 x) (by simp [ints, hx])
      rwa [htk, Nat.mul_one]
    refine WC.skip ?_
    refine WC.seq ?_
    refine WC.block ?_
    refine WC.seq ?_
    refine WC.regionQ (by kernel_rfl) (by kernel_rfl) ?_
    refine WQ.val (V.move (OV.p rfl)) rfl ?_
    refine WQ.val (V.move (OV.p rfl)) rfl ?_
    refine WQ.val (V.idxS st40 (OV.p rfl) (OV.p rfl) (fun _ => by omega) (fun _ => ra')) rfl ?_
    refine WQ.val (V.load Try.isAgg27 (OV.p rfl) (fun _ => ra')) rfl ?_
    refine WQ.val (V.move (OV.p rfl)) rfl ?_
    refine WQ.val (V.idxS st27 (OV.p rfl) (OV.p rfl) (fun _ => by omega) (fun _ => qa)) rfl ?_
    refine WQ.val (V.load Try.isAgg3 (OV.p rfl) (fun _ => qa)) rfl ?_
    refine WQ.val (V.move (OV.p rfl)) rfl ?_
    refine WQ.val (V.move (OV.p rfl)) rfl ?_
    refine WQ.val (V.idxS st40 (OV.p rfl) (OV.p rfl) (fun _ => by omega) (fun _ => rb')) rfl ?_
    refine WQ.val (V.load Try.isAgg27 (OV.p rfl) (fun _ => rb')) rfl ?_
    refine WQ.val (V.move (OV.p rfl)) rfl ?_
    refine WQ.val (V.idxS st27 (OV.p rfl) (OV.p rfl) (fun _ => by omega) (fun _ => qb)) rfl ?_
    refine WQ.val (V.load Try.isAgg3 (OV.p rfl) (fun _ => qb)) rfl ?_
    refine WQ.val (V.neq (OV.p rfl) (OV.p rfl)) rfl ?_
    refine WQ.nil ?_
    refine WC.condF' rfl ((by simp)) ?_
    refine WC.skip ?_
    refine WC.region ?_
    refine WL.mv rfl rfl ?_
    refine WL.ad rfl rfl rfl ?_
    refine WL.sg rfl rfl ?_
    refine WL.nil ?_
    refine ⟨rfl, ?_⟩
    exact ⟨k + 1, hkn, (by show xs.length - (k + 1) < xs.length - k; omega), .cons rfl (.cons rfl (.cons rfl (.cons (look_eq rfl (by simp)) (.nil _)))), fun w h => h⟩
   ·simp only [decide_eq_true_eq, decide_eq_false_iff_not] at hc3
    refine WC.exit ?_
    refine WC.region ?_
    refine WL.mv rfl rfl ?_
    refine WL.ad rfl rfl rfl ?_
    refine WL.sg rfl rfl ?_
    refine WL.nil ?_
    refine ⟨rfl, ?_⟩
    exact ⟨i + 1, hin, (by show n - (i + 1) < n - i; omega), .cons rfl (.cons rfl (.cons (look_eq rfl (by simp)) (.nil _))), fun w h => h⟩
  ·simp only [decide_eq_true_eq, decide_eq_false_iff_not] at hc1
   refine WC.exit ?_
   refine WC.sr ?_
   refine WL.sg rfl rfl ?_
   refine WL.nil ?_
   refine WC.ret ?_
   exact BodyQ.ret (H' := F) (Res.tmp rfl rfl) (fun w h => h) ⟨rfl, rfl⟩
end
def fa : Fd := ⟨4, ⟨0, 0, 7⟩, true⟩
def fb : Fd := ⟨5, ⟨0, 0, 9⟩, false⟩
def fc : Fd := ⟨6, ⟨0, 0, 8⟩, true⟩
theorem law10_awake (K : World) (F : List Assn) : Tells Try.prog 5 #[] K F (.bool true) := by
  have e1 : pickF 2 [fa, fb] = [4, -1] := by decide
  have e2 : nextF [fa, fb] = 10 := by decide
  have e3 : staleF 1 [fa, fc] = [[4]] := by decide
  refine Does.enter Try.func5 rfl Try.ntmps5 rfl ?_
  simp only [env0, Nat.reduceAdd]
  refine WC.sr ?_
  refine WL.sg rfl rfl ?_
  refine WL.nil ?_
  refine WC.sr ?_
  refine WL.val (V.build (vs := [(2, _)]) ⟨OV.p rfl, trivial⟩ rfl (bld24_2 _)) rfl ?_
  refine WL.val (V.build (vs := [(0, _), (1, _), (2, _)]) ⟨OV.p rfl, OV.p rfl, OV.p rfl, trivial⟩ rfl (bld26_0_1_2 _ _ _ _ _)) rfl ?_
  refine WL.alloc (cs := [(.int .i64 0), (.int .i64 0), (.int .i64 0), (.int .i64 0), (.bool false)]) Try.zeroValue26 rfl rfl (fun b1 => ?_)
  refine WL.store (cs := [_, _, _, _, _]) Try.sizeOf26 (OV.p rfl) (OV.p rfl) rfl rfl rfl (by repeat (first | exact Upd.here (cs' := [_, _, _, _, _]) rfl rfl | apply Upd.up)) ?_
  refine WL.nil ?_
  refine WC.sr ?_
  refine WL.val (V.build (vs := [(2, _)]) ⟨OV.p rfl, trivial⟩ rfl (bld24_2 _)) rfl ?_
  refine WL.val (V.build (vs := [(0, _), (1, _)]) ⟨OV.p rfl, OV.p rfl, trivial⟩ rfl (bld26_0_1 _ _ _ _)) rfl ?_
  refine WL.alloc (cs := [(.int .i64 0), (.int .i64 0), (.int .i64 0), (.int .i64 0), (.bool false)]) Try.zeroValue26 rfl rfl (fun b2 => ?_)
  refine WL.store (cs := [_, _, _, _, _]) Try.sizeOf26 (OV.p rfl) (OV.p rfl) rfl rfl rfl (by repeat (first | exact Upd.here (cs' := [_, _, _, _, _]) rfl rfl | apply Upd.up)) ?_
  refine WL.nil ?_
  refine WC.sr ?_
  refine WL.val (V.loadA (vs := [_, _, _, _, _]) ⟨Try.isAgg26, Try.sizeOf26⟩ (OV.p rfl) rfl (fun _ => by repeat (first | exact Rds.gets ⟨rfl, rfl, rfl, rfl, rfl, trivial⟩ | apply Rds.up))) rfl ?_
  refine WL.val (V.loadA (vs := [_, _, _, _, _]) ⟨Try.isAgg26, Try.sizeOf26⟩ (OV.p rfl) rfl (fun _ => by repeat (first | exact Rds.gets ⟨rfl, rfl, rfl, rfl, rfl, trivial⟩ | apply Rds.up))) rfl ?_
  refine WL.buildSlice (E := 26) (cs := [_, _, _, _, _, _, _, _, _, _]) (vs := [(0, _), (1, _)]) ⟨OV.p rfl, OV.p rfl, trivial⟩ rfl (bsl22_2_0_1 _ _ _ _ _ _ _ _ _ _) rfl (fun b19 => ?_)
  refine WL.call (vs := [_, _]) Try.call4 ⟨OV.p rfl, OV.p rfl, trivial⟩ (attach_Pick (lebs := 2) (fs := [fa, fb]) (by decide) (Seq.all rfl) rfl (by decide) (by decide)) rfl ?_
  rintro _ _ ⟨A1, c1, rfl, rfl⟩
  rw [e1, e2]
  refine WL.mv rfl rfl ?_
  refine WL.xt rfl rfl rfl ?_
  refine WL.xt rfl rfl rfl ?_
  refine WL.xt rfl rfl rfl ?_
  refine WL.sg rfl rfl ?_
  refine WL.sg rfl rfl ?_
  refine WL.sg rfl rfl ?_
  refine WL.nil ?_
  refine WC.sr ?_
  refine WL.val (V.build (vs := [(2, _)]) ⟨OV.p rfl, trivial⟩ rfl (bld24_2 _)) rfl ?_
  refine WL.val (V.build (vs := [(0, _), (1, _), (2, _)]) ⟨OV.p rfl, OV.p rfl, OV.p rfl, trivial⟩ rfl (bld26_0_1_2 _ _ _ _ _)) rfl ?_
  refine WL.alloc (cs := [(.int .i64 0), (.int .i64 0), (.int .i64 0), (.int .i64 0), (.bool false)]) Try.zeroValue26 rfl rfl (fun b6 => ?_)
  refine WL.store (cs := [_, _, _, _, _]) Try.sizeOf26 (OV.p rfl) (OV.p rfl) rfl rfl rfl (by repeat (first | exact Upd.here (cs' := [_, _, _, _, _]) rfl rfl | apply Upd.up)) ?_
  refine WL.nil ?_
  refine WC.sr ?_
  refine WL.val (V.loadA (vs := [_, _, _, _, _]) ⟨Try.isAgg26, Try.sizeOf26⟩ (OV.p rfl) rfl (fun _ => by repeat (first | exact Rds.gets ⟨rfl, rfl, rfl, rfl, rfl, trivial⟩ | apply Rds.up))) rfl ?_
  refine WL.val (V.loadA (vs := [_, _, _, _, _]) ⟨Try.isAgg26, Try.sizeOf26⟩ (OV.p rfl) rfl (fun _ => by repeat (first | exact Rds.gets ⟨rfl, rfl, rfl, rfl, rfl, trivial⟩ | apply Rds.up))) rfl ?_
  refine WL.buildSlice (E := 26) (cs := [_, _, _, _, _, _, _, _, _, _]) (vs := [(0, _), (1, _)]) ⟨OV.p rfl, OV.p rfl, trivial⟩ rfl (bsl22_2_0_1 _ _ _ _ _ _ _ _ _ _) rfl (fun b29 => ?_)
  refine WL.call (vs := [_, _]) Try.call12 ⟨OV.p rfl, OV.p rfl, trivial⟩ (attach_Stale (lebs := 1) (fs := [fa, fc]) (by decide) (Seq.all rfl) rfl (by decide)) rfl ?_
  rintro _ _ ⟨b8, irs, hil, his, rfl, rfl⟩
  rw [e3] at his
  obtain ⟨ir, rfl⟩ : ∃ ir, irs = [ir] := by
    match irs, hil with
    | [ir], _ => exact ⟨ir, rfl⟩
  have hirl : ir.l = [4] := by
    have : [ir.l] = [[4]] := his
    injection this
  refine WL.mv rfl rfl ?_
  refine WL.xt rfl rfl rfl ?_
  refine WL.xt rfl rfl rfl ?_
  refine WL.sg rfl rfl ?_
  refine WL.sg rfl rfl ?_
  refine WL.nil ?_
  refine WC.sr ?_
  refine WL.call (vs := [_, _]) Try.call4 ⟨OV.p rfl, OV.p rfl, trivial⟩ (attach_PickE (by decide)) rfl ?_
  rintro _ H0 ⟨rfl, h0⟩
  subst H0
  refine WL.mv rfl rfl ?_
  refine WL.xt rfl rfl rfl ?_
  refine WL.xt rfl rfl rfl ?_
  refine WL.xt rfl rfl rfl ?_
  refine WL.sg rfl rfl ?_
  refine WL.sg rfl rfl ?_
  refine WL.sg rfl rfl ?_
  refine WL.nil ?_
  refine WC.sr ?_
  refine WL.mv rfl rfl ?_
  refine WL.buildSlice (E := 3) (cs := [_, _]) (vs := [(0, _), (1, _)]) ⟨OV.p rfl, OV.p rfl, trivial⟩ rfl (bsl27_2_0_1 _ _) rfl (fun b39 => ?_)
  refine WL.call (vs := [_, _]) Try.call6 ⟨OV.p rfl, OV.p rfl, trivial⟩ (ref01_Ints (xs := [4, -1]) (ys := [4, -1]) _ _ (by repeat (first | exact SlA.seq rfl | apply Seq.up)) (Seq.all rfl) (by decide)) rfl ?_
  rintro _ H0 ⟨rfl, h0⟩
  subst H0
  refine WL.mv rfl rfl ?_
  refine WL.known (oj := _) rfl rfl rfl rfl ?_
  refine WL.mv rfl rfl ?_
  refine WL.known (oj := _) rfl rfl rfl rfl ?_
  refine WL.val (V.eql (OV.p rfl) (OV.p rfl)) rfl ?_
  refine WL.val (V.pickAnd (OV.p rfl) (OV.p rfl)) rfl ?_
  refine WL.mv rfl rfl ?_
  refine WL.known (oj := _) rfl rfl rfl rfl ?_
  refine WL.mv rfl rfl ?_
  refine WL.known (oj := _) rfl rfl rfl rfl ?_
  refine WL.val (V.eql (OV.p rfl) (OV.p rfl)) rfl ?_
  refine WL.val (V.pickAnd (OV.p rfl) (OV.p rfl)) rfl ?_
  refine WL.mv rfl rfl ?_
  refine WL.known (oj := _) rfl rfl rfl rfl ?_
  refine WL.mv rfl rfl ?_
  refine WL.known (oj := _) rfl rfl rfl rfl ?_
  refine WL.buildSlice (E := 3) (cs := [_]) (vs := [(0, _)]) ⟨OV.p rfl, trivial⟩ rfl (bsl27_1_0 _) rfl (fun b51 => ?_)
  refine WL.known (oj := _) rfl rfl rfl rfl ?_
  refine WL.buildSlice (E := 27) (cs := [_]) (vs := [(0, _)]) ⟨OV.p rfl, trivial⟩ rfl (bsl40_1_0 _ _ _) rfl (fun b52 => ?_)
  refine WL.known (oj := _) rfl rfl rfl rfl ?_
  refine WL.call (vs := [_, _]) Try.call13 ⟨OV.p rfl, OV.p rfl, trivial⟩ (ref10_Lists (n := 1) (ls := [[4]]) rfl (by decide) (fun i hi => ?_) (fun i hi => ?_) (fun i => ?_)) rfl ?_
  · obtain rfl : i = 0 := by omega
    refine ⟨ir.A, ir.c, ?_, ?_⟩
    · have h1 : ([[4]] : List (List Int)).getD 0 [] = ir.l := hirl.symm
      rw [h1]
      repeat (first | exact Rd.here rfl | apply Rd.up)
    · have h1 : ([[4]] : List (List Int)).getD 0 [] = ir.l := hirl.symm
      have hq : Seq K [ir.row] ir.A ir.l.length 1 (ints .i64 ir.l) := by unfold IRow.row; exact SlA.seq (by rw [ints_length, Nat.mul_one])
      rw [h1]
      repeat (first | exact a_inAll (A := ir.row) (l := List.map IRow.row [ir]) (.head _) hq | apply Seq.up)
  · obtain rfl : i = 0 := by omega
    exact ⟨_, _, by repeat (first | exact Rd.here rfl | apply Rd.up), by repeat (first | exact Seq.all rfl | apply Seq.up)⟩
  · match i with
    | 0 => decide
    | i + 1 => exact Nat.zero_le _
  rintro _ H0 ⟨rfl, h0⟩
  subst H0
  refine WL.val (V.pickAnd (OV.p rfl) (OV.p rfl)) rfl ?_
  refine WL.mv rfl rfl ?_
  refine WL.known (oj := _) rfl rfl rfl rfl ?_
  refine WL.mv rfl rfl ?_
  refine WL.known (oj := _) rfl rfl rfl rfl ?_
  refine WL.val (V.eql (OV.p rfl) (OV.p rfl)) rfl ?_
  refine WL.val (V.pickAnd (OV.p rfl) (OV.p rfl)) rfl ?_
  refine WL.mv rfl rfl ?_
  refine WL.known (oj := _) rfl rfl rfl rfl ?_
  refine WL.mv rfl rfl ?_
  refine WL.known (oj := _) rfl rfl rfl rfl ?_
  refine WL.val (V.eql (OV.p rfl) (OV.p rfl)) rfl ?_
  refine WL.val (V.pickAnd (OV.p rfl) (OV.p rfl)) rfl ?_
  refine WL.sg rfl rfl ?_
  refine WL.nil ?_
  refine WC.ret ?_
  exact BodyQ.ret (H' := F) (Res.tmp rfl rfl) (fun w h => by repeat (first | exact h | replace h := h.tail)) ⟨rfl, rfl⟩
end Go.Proofs.Ytcmojpiokjhmhaa
