/- slices.SortStableFunc at []api.Found: up to 20 ones (an insertion sort). -/
import Derived.Test.YtcmojpiokjhmhaaT1
import Derived.Test.YtcmojpiokjhmhaaSlW
namespace Go.Sl
open Go.RowKit
section
variable {Mo : Mode} {P : Program} {K : World} {n : Nat} {Q : Post} {e : Env} {H : List Assn} {R : Env → Prop} {ty : TypeId} {pos : String} {af : Array Edge} {ops : Array Oper} {rest : List Oper}
theorem WQ.callGV {d j dj : Nat} {want : Bool} {oj : Oper} {f : FuncId} {y : Operand} {first captured : List Value} {xs : List Operand} {vs : List Value} {ats : Array TypeId} {v gv : Value} {c : Bool}
    (hj : ops[j]? = some oj) (hdj : oj.dst = some dj) (hl : look e dj = some gv) (hG : GC gv want c) (hf : Callable P f) (hy : OV c e y (.func (.func f) first.toArray captured.toArray)) (hxs : OVs c e xs vs) (hF : c = true → Tells P f (first ++ vs ++ captured).toArray K H v) (hd : Nat.blt d n = true)
    (h : WQ Mo P K n ops rest R ((d, cv c v) :: e) H) : WQ Mo P K n ops (⟨some d, .call ⟨.value y, xs.toArray, ats⟩, ty, pos, af, some (j, want)⟩ :: rest) R e H := fun a ha => by
  refine wpQuiet_step fun S hS => ?_
  rw [Region.wanted_iff (o := ⟨some d, .call ⟨.value y, xs.toArray, ats⟩, ty, pos, af, some (j, want)⟩) rfl hj hdj hl ha hG]
  cases c with
  | false => exact hS _ (h _ (ha.put d hd _))
  | true =>
    simp only [if_true]
    refine ⟨v, fun w hw => ?_, hS _ (h _ (ha.put d hd v))⟩
    unfold Oper.quietAt
    rw [run_callV hf (hy.ev rfl ha) (hxs.ev ha rfl)]
    exact ⟨rfl, (hF rfl).call hw⟩
theorem WQ.callV {d : Nat} {f : FuncId} {y : Operand} {first captured : List Value} {xs : List Operand} {vs : List Value} {ats : Array TypeId} {v : Value}
    (hf : Callable P f) (hy : OV true e y (.func (.func f) first.toArray captured.toArray)) (hxs : OVs true e xs vs) (hF : Tells P f (first ++ vs ++ captured).toArray K H v) (hd : Nat.blt d n = true)
    (h : WQ Mo P K n ops rest R ((d, v) :: e) H) : WQ Mo P K n ops (⟨some d, .call ⟨.value y, xs.toArray, ats⟩, ty, pos, af, none⟩ :: rest) R e H := fun a ha => by
  refine wpQuiet_step fun S hS => ?_
  simp only [Region.wanted, if_true]
  refine ⟨v, fun w hw => ?_, hS _ (h _ (ha.put d hd v))⟩
  unfold Oper.quietAt
  rw [run_callV hf (hy.ev rfl ha) (hxs.ev ha rfl)]
  exact ⟨rfl, hF.call hw⟩
end
theorem setL_app : ∀ (vs cs r : List Value) (o : Nat), o + vs.length ≤ cs.length → setL (cs ++ r) o vs = setL cs o vs ++ r
  | [], _, _, _, _ => rfl
  | v :: vs, cs, r, o, h => by
    rw [List.length_cons] at h
    show setL ((cs ++ r).set o v) (o + 1) vs = setL (cs.set o v) (o + 1) vs ++ r
    rw [List.set_append_left _ _ (by omega)]
    exact setL_app vs (cs.set o v) r (o + 1) (by rw [List.length_set]; omega)
end Go.Sl
namespace Go.Proofs.Ytcmojpiokjhmhaa
open Go.Sl Go.RowKit
set_option linter.unusedVariables false
set_option linter.unusedSimpArgs false
set_option maxRecDepth 20000

structure Fd where
  block : Int
  hd : Hd
  whole : Bool
  deriving DecidableEq
abbrev Fd.cells (x : Fd) : List Value := [.int .i64 x.block, .int .i64 x.hd.leb, .int .i64 x.hd.len, .int .i64 x.hd.num, .bool x.whole]
abbrev Fd.v (x : Fd) : Value := .agg #[.int .i64 x.block, .int .i64 x.hd.leb, .int .i64 x.hd.len, .int .i64 x.hd.num, .bool x.whole]
theorem Fd.len (x : Fd) : x.cells.length = 5 := rfl
def fd0 : Fd := ⟨0, ⟨0, 0, 0⟩, false⟩
abbrev flatF (l : List Fd) : List Value := l.flatMap Fd.cells
theorem flatF_length (l : List Fd) : (flatF l).length = l.length * 5 := flat_length Fd.len l
theorem flatF_rds {b T : Nat} {l : List Fd} {r : List Value} {j : Nat} {K : World} {H : List Assn} (hj : j < l.length) : Rds K (Cells b T (flatF l ++ r) :: H) b (j * 5) (l.getD j fd0).cells := fun i v hi => by
  have hg : l[j]? = some (l.getD j fd0) := by simp [List.getD, hj]
  have h1 := flat_get (s := 5) Fd.len l j i _ v hg hi
  refine Rd.here ?_
  rw [List.getElem?_append_left (List.getElem?_eq_some_iff.1 h1).1]
  exact h1
theorem flatF_put {l : List Fd} {r : List Value} {j : Nat} (hj : j < l.length) (y : Fd) : setL (flatF l ++ r) (j * 5) y.cells = flatF (l.set j y) ++ r := by
  have hg : l[j]? = some (l.getD j fd0) := by simp [List.getD, hj]
  rw [setL_app _ _ _ _ (by rw [flatF_length, Fd.len]; omega), flat_put (s := 5) Fd.len l j _ y hg]
theorem flatF_upd {b T j o : Nat} {l : List Fd} {r : List Value} {y : Fd} {K : World} {H : List Assn} (hj : j < l.length) (ho : o = j * 5) : Upd K (Cells b T (flatF l ++ r) :: H) b o y.cells (Cells b T (flatF (l.set j y) ++ r) :: H) :=
  Upd.here (Nat.ble_eq_true_of_le (by rw [ho, List.length_append, flatF_length, Fd.len]; omega)) (by rw [ho]; exact flatF_put hj y)
theorem flatF_one (y : Fd) : y.cells.all (·.oneCell') = true := rfl
/-! ### The sort, plainly -/
section
variable (lt : Fd → Fd → Bool)
def bub (ys : List Fd) : Nat → List Fd
  | 0 => ys
  | j + 1 => if lt (ys.getD (j + 1) fd0) (ys.getD j fd0) then bub ((ys.set (j + 1) (ys.getD j fd0)).set j (ys.getD (j + 1) fd0)) j else ys
def isTo (ys : List Fd) : Nat → List Fd
  | 0 => ys
  | i + 1 => bub lt (isTo ys i) i
/-- Into a falling list. -/
def insF : List Fd → Fd → List Fd
  | [], x => [x]
  | y :: q, x => if lt x y then y :: insF q x else x :: y :: q
def isort (ys : List Fd) : List Fd := (ys.foldl (insF lt) []).reverse
end
section
variable {lt : Fd → Fd → Bool}
theorem bub_length : ∀ (j : Nat) (ys : List Fd), (bub lt ys j).length = ys.length
  | 0, _ => rfl
  | j + 1, ys => by
    rw [bub]; split
    · rw [bub_length j]; simp
    · rfl
theorem isTo_length (ys : List Fd) : ∀ i, (isTo lt ys i).length = ys.length
  | 0 => rfl
  | i + 1 => by rw [isTo, bub_length, isTo_length]
theorem bub_ins : ∀ (q : List Fd) (x : Fd) (r : List Fd), bub lt (q.reverse ++ x :: r) q.length = (insF lt q x).reverse ++ r
  | [], x, r => rfl
  | y :: q, x, r => by
    rw [List.length_cons, bub, insF]
    have hq : q.reverse.length = q.length := List.length_reverse
    have e1 : ((y :: q).reverse ++ x :: r).getD (q.length + 1) fd0 = x := by
      rw [List.reverse_cons, List.append_assoc, List.getD, List.getElem?_append_right (by omega), hq]; simp
    have e2 : ((y :: q).reverse ++ x :: r).getD q.length fd0 = y := by
      rw [List.reverse_cons, List.append_assoc, List.getD, List.getElem?_append_right (by omega), hq]; simp
    rw [e1, e2]
    split
    · have e3 : (((y :: q).reverse ++ x :: r).set (q.length + 1) y).set q.length x = q.reverse ++ x :: (y :: r) := by
        rw [List.reverse_cons, List.append_assoc, List.set_append_right _ _ (by omega), List.set_append_right _ _ (by omega), hq]; simp
      rw [e3, bub_ins q x (y :: r), List.reverse_cons, List.append_assoc]; rfl
    · rw [List.reverse_cons, List.reverse_cons]; simp
theorem isTo_ins (ys : List Fd) : ∀ i, i ≤ ys.length → isTo lt ys i = ((ys.take i).foldl (insF lt) []).reverse ++ ys.drop i ∧ ((ys.take i).foldl (insF lt) []).length = i
  | 0, _ => ⟨by simp [isTo], rfl⟩
  | i + 1, h => by
    obtain ⟨ih, il⟩ := isTo_ins ys i (by omega)
    have hlen : ∀ (q : List Fd) (x : Fd), (insF lt q x).length = q.length + 1 := fun q x => by
      induction q with
      | nil => rfl
      | cons y q ih => rw [insF]; split <;> simp [ih]
    have ht : ys.take (i + 1) = ys.take i ++ [ys[i]'(by omega)] := by rw [List.take_add_one, List.getElem?_eq_getElem (by omega)]; rfl
    have hd : ys.drop i = ys[i]'(by omega) :: ys.drop (i + 1) := List.drop_eq_getElem_cons (by omega)
    have hb := bub_ins (lt := lt) ((ys.take i).foldl (insF lt) []) (ys[i]'(by omega)) (ys.drop (i + 1))
    rw [il, ← hd] at hb
    rw [isTo, ih, hb, ht, List.foldl_append]
    exact ⟨rfl, by show (insF lt _ _).length = _; rw [hlen, il]⟩
theorem isTo_sort (ys : List Fd) : isTo lt ys ys.length = isort lt ys := by
  rw [(isTo_ins ys ys.length (Nat.le_refl _)).1, List.take_length, List.drop_length, List.append_nil]; rfl
theorem isTo_one (ys : List Fd) : isTo lt ys 1 = ys := rfl
theorem isort_length (ys : List Fd) : (isort lt ys).length = ys.length := by rw [← isTo_sort, isTo_length]
theorem insF_perm : ∀ (q : List Fd) (x : Fd), List.Perm (insF lt q x) (x :: q)
  | [], x => List.Perm.refl _
  | y :: q, x => by
    rw [insF]; split
    · exact (List.Perm.cons y (insF_perm q x)).trans (List.Perm.swap x y q)
    · exact List.Perm.refl _
theorem foldl_perm : ∀ (ys q : List Fd), List.Perm (ys.foldl (insF lt) q) (ys ++ q)
  | [], q => List.Perm.refl _
  | x :: ys, q => by
    rw [List.foldl_cons]
    refine (foldl_perm ys (insF lt q x)).trans ?_
    refine (List.Perm.append_left ys (insF_perm q x)).trans ?_
    exact List.perm_middle
theorem isort_perm (ys : List Fd) : List.Perm (isort lt ys) ys := by
  unfold isort
  refine (List.reverse_perm _).trans ?_
  have := foldl_perm (lt := lt) ys []
  rwa [List.append_nil] at this
theorem mem_isort {ys : List Fd} {x : Fd} : x ∈ isort lt ys ↔ x ∈ ys := (isort_perm ys).mem_iff
/-- Rising, where 'less' is an order. -/
theorem insF_sorted (htr : ∀ a b c, lt a b = false → lt b c = false → lt a c = false) (has : ∀ a b, lt a b = true → lt b a = false) : ∀ (q : List Fd) (x : Fd), q.Pairwise (fun a b => lt a b = false) → (insF lt q x).Pairwise (fun a b => lt a b = false)
  | [], x, _ => List.pairwise_singleton _ _
  | y :: q, x, h => by
    have hp := List.pairwise_cons.1 h
    rw [insF]
    by_cases hx : lt x y = true
    · rw [if_pos hx]
      refine List.pairwise_cons.2 ⟨fun z hz => ?_, insF_sorted htr has q x hp.2⟩
      rcases List.mem_cons.1 ((insF_perm q x).mem_iff.1 hz) with rfl | hz
      · exact has _ _ hx
      · exact hp.1 z hz
    · rw [if_neg hx]
      have hx' : lt x y = false := by simpa using hx
      refine List.pairwise_cons.2 ⟨fun z hz => ?_, h⟩
      rcases List.mem_cons.1 hz with rfl | hz
      · exact hx'
      · exact htr _ _ _ hx' (hp.1 z hz)
theorem foldl_sorted (htr : ∀ a b c, lt a b = false → lt b c = false → lt a c = false) (has : ∀ a b, lt a b = true → lt b a = false) : ∀ (ys q : List Fd), q.Pairwise (fun a b => lt a b = false) → (ys.foldl (insF lt) q).Pairwise (fun a b => lt a b = false)
  | [], _, h => h
  | x :: ys, q, h => foldl_sorted htr has ys _ (insF_sorted htr has q x h)
theorem isort_sorted (htr : ∀ a b c, lt a b = false → lt b c = false → lt a c = false) (has : ∀ a b, lt a b = true → lt b a = false) (ys : List Fd) : (isort lt ys).Pairwise (fun a b => lt b a = false) := by
  unfold isort
  rw [List.pairwise_reverse]
  exact foldl_sorted htr has ys [] List.Pairwise.nil
end
/-! ### Walks -/
/-- A way to compare, in code. -/
def CmpIs (f : Nat) (c : Fd → Fd → Int) : Prop := Callable Try.prog f ∧ ∀ (K : World) (F : List Assn) (x y : Fd), Tells Try.prog f #[x.v, y.v] K F (.int .i64 (c x y))
section
variable {K : World} {F : List Assn}
theorem insertion_found {f : Nat} {c : Fd → Fd → Int} (hf : CmpIs f c) {b m cap : Nat} {ys : List Fd} {r : List Value} (hm : ys.length = m) (hb : m ≤ 1000000) :
    Does Try.prog 19 #[.slice (some ⟨b, 0, none⟩) m cap, .int .i64 0, .int .i64 (m : Int), .func (.func f) #[] #[]] K (Cells b 26 (flatF ys ++ r) :: F)
      (fun v H' => H' = Cells b 26 (flatF (isort (fun x y => decide (c x y < 0)) ys) ++ r) :: F) := by
  obtain ⟨lt, hlt⟩ : ∃ lt : Fd → Fd → Bool, lt = fun x y => decide (c x y < 0) := ⟨_, rfl⟩
  rw [← hlt]
  refine Does.enter Try.func19 rfl Try.ntmps19 rfl ?_
  simp only [env0, Nat.reduceAdd]
  refine WC.sr ?_
  refine WL.mv rfl rfl ?_
  refine WL.ad rfl rfl rfl ?_
  refine WL.sg rfl rfl ?_
  refine WL.nil ?_
  refine WC.block ?_
  refine WC.loop (σ := Nat) (fun i => [(0, .slice (some ⟨b, 0, none⟩) m cap), (1, .int .i64 0), (2, .int .i64 (m : Int)), (3, .func (.func f) #[] #[]), (8, .int .i64 (i : Int))]) (fun i => Cells b 26 (flatF (isTo lt ys i) ++ r) :: F) (fun i => 1 ≤ i ∧ (i = 1 ∨ i ≤ m)) (fun i => m + 1 - i) 1 ⟨Nat.le_refl _, .inl rfl⟩ (.cons rfl (.cons rfl (.cons rfl (.cons rfl (.cons rfl (.nil _)))))) (fun w h => h) ?_
  rintro i ⟨hi1, him⟩
  refine WC.seq ?_
  refine WC.sr ?_
  refine WL.mv rfl rfl ?_
  refine WL.mv rfl rfl ?_
  refine WL.val (V.lss (OV.p rfl) (OV.p rfl)) rfl ?_
  refine WL.nil ?_
  refine WC.cond rfl (fun hc0 => ?_) (fun hc0 => ?_)
  ·simp only [decide_eq_true_eq, decide_eq_false_iff_not] at hc0
   have hi2 : i < m := by omega
   refine WC.skip ?_
   refine WC.seq ?_
   refine WC.block ?_
   refine WC.sr ?_
   refine WL.mv rfl rfl ?_
   refine WL.sg rfl rfl ?_
   refine WL.nil ?_
   refine WC.block ?_
   refine WC.loop (σ := Nat × List Fd) (fun s => [(0, .slice (some ⟨b, 0, none⟩) m cap), (1, .int .i64 0), (2, .int .i64 (m : Int)), (3, .func (.func f) #[] #[]), (8, .int .i64 (i : Int)), (9, .int .i64 (s.1 : Int))]) (fun s => Cells b 26 (flatF s.2 ++ r) :: F) (fun s => s.1 ≤ i ∧ s.2.length = m ∧ bub lt s.2 s.1 = isTo lt ys (i + 1)) (fun s => s.1) (i, isTo lt ys i) ⟨Nat.le_refl _, by rw [isTo_length, hm], rfl⟩ (.cons rfl (.cons rfl (.cons rfl (.cons rfl (.cons rfl (.cons rfl (.nil _))))))) (fun w h => h) ?_
   rintro ⟨j, zs⟩ ⟨hji, hzl, hzb⟩
   dsimp only at hji hzl hzb ⊢
   obtain ⟨za, hza⟩ : ∃ za, za = zs.getD j fd0 := ⟨_, rfl⟩
   obtain ⟨zb, hzb'⟩ : ∃ zb, zb = zs.getD (j - 1) fd0 := ⟨_, rfl⟩
   have hja : Rds K (Cells b 26 (flatF zs ++ r) :: F) b (0 + (j : Int).toNat * 5) za.cells := by
     rw [show 0 + (j : Int).toNat * 5 = j * 5 by omega, hza]; exact flatF_rds (by omega)
   have hjb : j ≠ 0 → Rds K (Cells b 26 (flatF zs ++ r) :: F) b (0 + ((j : Int) - 1).toNat * 5) zb.cells := fun h0 => by
     rw [show 0 + ((j : Int) - 1).toNat * 5 = (j - 1) * 5 by omega, hzb']; exact flatF_rds (by omega)
   refine WC.seq ?_
   refine WC.seq ?_
   refine WC.regionQ (by kernel_rfl) (by kernel_rfl) ?_
   refine WQ.val (V.move (OV.p rfl)) rfl ?_
   refine WQ.val (V.move (OV.p rfl)) rfl ?_
   refine WQ.val (V.gtr (OV.p rfl) (OV.p rfl)) rfl ?_
   refine WQ.val (V.move (OV.p rfl)) rfl ?_
   refine WQ.valG (oj := _) rfl rfl rfl GC.t (V.move (OV.p rfl)) rfl ?_
   refine WQ.valG (oj := _) rfl rfl rfl GC.t (V.move (OV.p rfl)) rfl ?_
   refine WQ.valG (oj := _) rfl rfl rfl GC.t (V.move (OV.p rfl)) rfl ?_
   refine WQ.valG (oj := _) rfl rfl rfl GC.t (V.idxB st22 (OV.g rfl id) (OV.g rfl id) (fun hc => by omega)) rfl ?_
   refine WQ.valG (oj := _) rfl rfl rfl GC.t (V.loadA (vs := za.cells) ⟨Try.isAgg26, Try.sizeOf26⟩ (OV.g rfl id) rfl (fun _ => hja)) rfl ?_
   refine WQ.valG (oj := _) rfl rfl rfl GC.t (V.move (OV.p rfl)) rfl ?_
   refine WQ.valG (oj := _) rfl rfl rfl GC.t (V.move (OV.p rfl)) rfl ?_
   refine WQ.valG (oj := _) rfl rfl rfl GC.t (V.subI (OV.g rfl id) (OV.p rfl) (fun hc => by first | omega | (simp at hc; omega))) rfl ?_
   refine WQ.valG (oj := _) rfl rfl rfl GC.t (V.idxB st22 (OV.g rfl id) (OV.g rfl id) (fun hc => by simp at hc; omega)) rfl ?_
   refine WQ.valG (oj := _) rfl rfl rfl GC.t (V.loadA (vs := zb.cells) ⟨Try.isAgg26, Try.sizeOf26⟩ (OV.g rfl id) rfl (fun hc => hjb (by simp at hc; omega))) rfl ?_
   refine WQ.callGV (oj := _) (first := []) (vs := [_, _]) (captured := []) rfl rfl rfl GC.t hf.1 (OV.g rfl id) ⟨OV.g rfl id, OV.g rfl id, trivial⟩ (fun _ => hf.2 _ _ za zb) rfl ?_
   refine WQ.valG (oj := _) rfl rfl rfl GC.t (V.lss (OV.g rfl id) (OV.p rfl)) rfl ?_
   refine WQ.val (V.pickAnd (OV.p rfl) (OV.g rfl id)) rfl ?_
   refine WQ.nil ?_
   refine WC.cond rfl (fun hc1 => ?_) (fun hc1 => ?_)
   ·simp only [Bool.and_eq_true, Bool.and_eq_false_iff, decide_eq_true_eq, decide_eq_false_iff_not] at hc1
    have h1 := hc1
    obtain ⟨j', rfl⟩ : ∃ j', j = j' + 1 := ⟨j - 1, by omega⟩
    rw [Nat.add_sub_cancel] at hzb'
    have hltj : lt za zb = true := by rw [hlt]; exact decide_eq_true h1.2
    rw [bub, ← hza, ← hzb', if_pos hltj] at hzb
    have hjb' := hjb (by omega)
    refine WC.skip ?_
    refine WC.seq ?_
    refine WC.block ?_
    refine WC.regionA F (by kernel_rfl) ?_
    refine WA.t 0 rfl (V.move (OV.p rfl)) ?_
    refine WA.t 1 rfl (V.move (OV.p rfl)) ?_
    refine WA.t 2 rfl (V.move (OV.p rfl)) ?_
    refine WA.t 3 rfl (V.move (OV.p rfl)) ?_
    refine WA.t 4 rfl (V.subI (OV.p rfl) (OV.p rfl) (fun hc => by first | omega | (simp at hc; omega))) ?_
    refine WA.t 5 rfl (V.move (OV.p rfl)) ?_
    refine WA.t 6 rfl (V.move (OV.p rfl)) ?_
    refine WA.t 7 rfl (V.subI (OV.p rfl) (OV.p rfl) (fun hc => by first | omega | (simp at hc; omega))) ?_
    refine WA.t 8 rfl (V.idxB st22 (OV.p rfl) (OV.p rfl) (fun hc => by omega)) ?_
    refine WA.t 10 rfl (V.move (OV.p rfl)) ?_
    refine WA.t 11 rfl (V.move (OV.p rfl)) ?_
    refine WA.t 12 rfl (V.idxB st22 (OV.p rfl) (OV.p rfl) (fun hc => by omega)) ?_
    refine WA.two (i := 9) (j := 13) (fun w h => by repeat (first | exact h | replace h := h.tail)) (by kernel_rfl) rfl rfl ?_ ?_
    ·refine WL.val (V.loadA (vs := zb.cells) ⟨Try.isAgg26, Try.sizeOf26⟩ (OV.p rfl) rfl (fun _ => hjb')) rfl ?_
     refine WL.nil ?_
     refine WA.o 13 rfl ?_
     refine WL.val (V.loadA (vs := za.cells) ⟨Try.isAgg26, Try.sizeOf26⟩ (OV.p rfl) rfl (fun _ => hja)) rfl ?_
     refine WL.nil ?_
     refine WA.t 14 rfl (V.idxB st22 (OV.p rfl) (OV.p rfl) (fun hc => by omega)) ?_
     refine WA.o 15 rfl ?_
     refine WL.store (cs := zb.cells) Try.sizeOf26 (OV.p rfl) (OV.p rfl) rfl rfl rfl (flatF_upd (j := j' + 1) (y := zb) (by omega) (by omega)) ?_
     refine WL.nil ?_
     refine WA.t 16 rfl (V.idxB st22 (OV.p rfl) (OV.p rfl) (fun hc => by omega)) ?_
     refine WA.o 17 rfl ?_
     refine WL.store (cs := za.cells) Try.sizeOf26 (OV.p rfl) (OV.p rfl) rfl rfl rfl (flatF_upd (j := j') (y := za) (by rw [List.length_set]; omega) (by omega)) ?_
     refine WL.nil ?_
     refine WA.fin ?_
     refine WC.region ?_
     refine WL.mv rfl rfl ?_
     refine WL.sb rfl rfl rfl ?_
     refine WL.sg rfl rfl ?_
     refine WL.nil ?_
     refine ⟨rfl, ?_⟩
     exact ⟨(j', (zs.set (j' + 1) zb).set j' za), ⟨by show j' ≤ i; omega, by show ((zs.set _ _).set _ _).length = m; simp [hzl], hzb⟩, Nat.lt_succ_self _, .cons rfl (.cons rfl (.cons rfl (.cons rfl (.cons rfl (.cons (look_eq rfl (by simp)) (.nil _)))))), fun w h => h⟩
    ·refine WL.val (V.loadA (vs := za.cells) ⟨Try.isAgg26, Try.sizeOf26⟩ (OV.p rfl) rfl (fun _ => hja)) rfl ?_
     refine WL.nil ?_
     refine WA.o 9 rfl ?_
     refine WL.val (V.loadA (vs := zb.cells) ⟨Try.isAgg26, Try.sizeOf26⟩ (OV.p rfl) rfl (fun _ => hjb')) rfl ?_
     refine WL.nil ?_
     refine WA.t 14 rfl (V.idxB st22 (OV.p rfl) (OV.p rfl) (fun hc => by omega)) ?_
     refine WA.o 15 rfl ?_
     refine WL.store (cs := zb.cells) Try.sizeOf26 (OV.p rfl) (OV.p rfl) rfl rfl rfl (flatF_upd (j := j' + 1) (y := zb) (by omega) (by omega)) ?_
     refine WL.nil ?_
     refine WA.t 16 rfl (V.idxB st22 (OV.p rfl) (OV.p rfl) (fun hc => by omega)) ?_
     refine WA.o 17 rfl ?_
     refine WL.store (cs := za.cells) Try.sizeOf26 (OV.p rfl) (OV.p rfl) rfl rfl rfl (flatF_upd (j := j') (y := za) (by rw [List.length_set]; omega) (by omega)) ?_
     refine WL.nil ?_
     refine WA.fin ?_
     refine WC.region ?_
     refine WL.mv rfl rfl ?_
     refine WL.sb rfl rfl rfl ?_
     refine WL.sg rfl rfl ?_
     refine WL.nil ?_
     refine ⟨rfl, ?_⟩
     exact ⟨(j', (zs.set (j' + 1) zb).set j' za), ⟨by show j' ≤ i; omega, by show ((zs.set _ _).set _ _).length = m; simp [hzl], hzb⟩, Nat.lt_succ_self _, .cons rfl (.cons rfl (.cons rfl (.cons rfl (.cons rfl (.cons (look_eq rfl (by simp)) (.nil _)))))), fun w h => h⟩
   ·simp only [Bool.and_eq_true, Bool.and_eq_false_iff, decide_eq_true_eq, decide_eq_false_iff_not] at hc1
    have h1 := hc1
    have hdone : isTo lt ys (i + 1) = zs := by
      rw [← hzb]
      cases j with
      | zero => rfl
      | succ j' =>
        rw [Nat.add_sub_cancel] at hzb'
        have hltj : lt za zb = false := by
          rw [hlt]
          rcases h1 with h | h
          · omega
          · exact decide_eq_false h
        rw [bub, ← hza, ← hzb', if_neg (by rw [hltj]; decide)]
    refine WC.exit ?_
    refine WC.region ?_
    refine WL.mv rfl rfl ?_
    refine WL.ad rfl rfl rfl ?_
    refine WL.sg rfl rfl ?_
    refine WL.nil ?_
    refine ⟨rfl, ?_⟩
    exact ⟨i + 1, ⟨by show 1 ≤ i + 1; omega, .inr hi2⟩, (by show m + 1 - (i + 1) < m + 1 - i; omega), .cons rfl (.cons rfl (.cons rfl (.cons rfl (.cons (look_eq rfl (by simp)) (.nil _))))), fun w h => Sat.cells_eq h (by rw [hdone])⟩
  ·simp only [decide_eq_true_eq, decide_eq_false_iff_not] at hc0
   refine WC.exit ?_
   have hfin : isTo lt ys i = isort lt ys := by
     rw [← isTo_sort, hm]
     rcases Nat.eq_zero_or_pos m with h0 | h0
     · have : ys = [] := List.eq_nil_of_length_eq_zero (by omega)
       subst this
       have key : ∀ k, isTo lt [] k = [] := fun k => List.eq_nil_of_length_eq_zero (by rw [isTo_length]; rfl)
       rw [key, key]
     · obtain rfl : i = m := by omega
       rfl
   exact BodyQ.normal (H' := Cells b _ _ :: F) (Res.none rfl) (fun w h => Sat.cells_eq h (by rw [hfin])) rfl
end
end Go.Proofs.Ytcmojpiokjhmhaa
