import Derived.Test.YtohkefolnmcjnaaGreatP18
namespace Go.Sl
open Go.RowKit
section
variable {Mo : Mode} {P : Program} {K : World} {n : Nat} {Q : Post} {e : Env} {H : List Assn} {R : Env → Prop} {ty : TypeId} {pos : String} {af : Array Edge} {ops : Array Oper} {rest : List Oper}
theorem WQ.callGV {d j dj : Nat} {want : Bool} {oj : Oper} {f : FuncId} {y : Operand} {first captured : List Value} {xs : List Operand} {vs : List Value} {ats : Array TypeId} {v gv : Value} {c : Bool}
    (hj : ops[j]? = some oj) (hdj : oj.dst = some dj) (hl : look e dj = some gv) (hG : GC gv want c) (hf : Callable P f) (hy : OV c e y (.func (.func f) first.toArray captured.toArray)) (hxs : OVs c e xs vs) (hF : c = true → Tells P f (first ++ vs ++ captured).toArray K H v) (hd : Nat.blt d n = true)
    (h : WQ Mo P K n ops rest R ((d, cv c v) :: e) H) : WQ Mo P K n ops (⟨some d, .call ⟨.value y, xs.toArray, ats⟩, ty, pos, af, some (j, want)⟩ :: rest) R e H := fun a ha => by
  refine wpQuiet_step fun S hS => ?_
  rw [Region.wanted_iff (o := ⟨some d, .call ⟨.value y, xs.toArray, ats⟩, ty, pos, af, some (j, want)⟩) rfl hj hdj hl ha hG]
  cases c with
  | false => exact hS _ (h _ (ha.put d hd _))
  | true =>
    simp only [if_true]
    refine ⟨v, fun w hw => ?_, hS _ (h _ (ha.put d hd v))⟩
    unfold Oper.quietAt
    rw [run_callV hf (hy.ev rfl ha) (hxs.ev ha rfl)]
    exact ⟨rfl, (hF rfl).call hw⟩
theorem WQ.callV {d : Nat} {f : FuncId} {y : Operand} {first captured : List Value} {xs : List Operand} {vs : List Value} {ats : Array TypeId} {v : Value}
    (hf : Callable P f) (hy : OV true e y (.func (.func f) first.toArray captured.toArray)) (hxs : OVs true e xs vs) (hF : Tells P f (first ++ vs ++ captured).toArray K H v) (hd : Nat.blt d n = true)
    (h : WQ Mo P K n ops rest R ((d, v) :: e) H) : WQ Mo P K n ops (⟨some d, .call ⟨.value y, xs.toArray, ats⟩, ty, pos, af, none⟩ :: rest) R e H := fun a ha => by
  refine wpQuiet_step fun S hS => ?_
  simp only [Region.wanted, if_true]
  refine ⟨v, fun w hw => ?_, hS _ (h _ (ha.put d hd v))⟩
  unfold Oper.quietAt
  rw [run_callV hf (hy.ev rfl ha) (hxs.ev ha rfl)]
  exact ⟨rfl, hF.call hw⟩
end
theorem setL_app : ∀ (vs cs r : List Value) (o : Nat), o + vs.length ≤ cs.length → setL (cs ++ r) o vs = setL cs o vs ++ r
  | [], _, _, _, _ => rfl
  | v :: vs, cs, r, o, h => by
    rw [List.length_cons] at h
    show setL ((cs ++ r).set o v) (o + 1) vs = setL (cs.set o v) (o + 1) vs ++ r
    rw [List.set_append_left _ _ (by omega)]
    exact setL_app vs (cs.set o v) r (o + 1) (by rw [List.length_set]; omega)
end Go.Sl
namespace Go.Proofs.YtohkefolnmcjnaaGreat
open Go.Sl Go.RowKit
set_option linter.unusedVariables false
set_option linter.unusedSimpArgs false
set_option maxRecDepth 20000
structure Fd where
  block : Int
  hd : Hd
  whole : Bool
  deriving DecidableEq
abbrev Fd.cells (x : Fd) : List Value := [.int .i64 x.block, .int .i64 x.hd.leb, .int .i64 x.hd.len, .int .i64 x.hd.num, .bool x.whole]
abbrev Fd.v (x : Fd) : Value := .agg #[.int .i64 x.block, .int .i64 x.hd.leb, .int .i64 x.hd.len, .int .i64 x.hd.num, .bool x.whole]
theorem Fd.len (x : Fd) : x.cells.length = 5 := rfl
def fd0 : Fd := ⟨0, ⟨0, 0, 0⟩, false⟩
abbrev flatF (l : List Fd) : List Value := l.flatMap Fd.cells
theorem flatF_length (l : List Fd) : (flatF l).length = l.length * 5 := flat_length Fd.len l
theorem flatF_rds {b T : Nat} {l : List Fd} {r : List Value} {j : Nat} {K : World} {H : List Assn} (hj : j < l.length) : Rds K (Cells b T (flatF l ++ r) :: H) b (j * 5) (l.getD j fd0).cells := fun i v hi => by
  have hg : l[j]? = some (l.getD j fd0) := by simp [List.getD, hj]
  have h1 := flat_get (s := 5) Fd.len l j i _ v hg hi
  refine Rd.here ?_
  rw [List.getElem?_append_left (List.getElem?_eq_some_iff.1 h1).1]
  exact h1
theorem flatF_put {l : List Fd} {r : List Value} {j : Nat} (hj : j < l.length) (y : Fd) : setL (flatF l ++ r) (j * 5) y.cells = flatF (l.set j y) ++ r := by
  have hg : l[j]? = some (l.getD j fd0) := by simp [List.getD, hj]
  rw [setL_app _ _ _ _ (by rw [flatF_length, Fd.len]; omega), flat_put (s := 5) Fd.len l j _ y hg]
theorem flatF_upd {b T j o : Nat} {l : List Fd} {r : List Value} {y : Fd} {K : World} {H : List Assn} (hj : j < l.length) (ho : o = j * 5) : Upd K (Cells b T (flatF l ++ r) :: H) b o y.cells (Cells b T (flatF (l.set j y) ++ r) :: H) :=
  Upd.here (Nat.ble_eq_true_of_le (by rw [ho, List.length_append, flatF_length, Fd.len]; omega)) (by rw [ho]; exact flatF_put hj y)
theorem flatF_one (y : Fd) : y.cells.all (·.oneCell') = true := rfl
section
variable (lt : Fd → Fd → Bool)
def bub (ys : List Fd) : Nat → List Fd
  | 0 => ys
  | j + 1 => if lt (ys.getD (j + 1) fd0) (ys.getD j fd0) then bub ((ys.set (j + 1) (ys.getD j fd0)).set j (ys.getD (j + 1) fd0)) j else ys
def isTo (ys : List Fd) : Nat → List Fd
  | 0 => ys
  | i + 1 => bub lt (isTo ys i) i
def insF : List Fd → Fd → List Fd
  | [], x => [x]
  | y :: q, x => if lt x y then y :: insF q x else x :: y :: q
def isort (ys : List Fd) : List Fd := (ys.foldl (insF lt) []).reverse
end
section
variable {lt : Fd → Fd → Bool}
theorem bub_length : ∀ (j : Nat) (ys : List Fd), (bub lt ys j).length = ys.length
  | 0, _ => rfl
  | j + 1, ys => by
    rw [bub]; split
    · rw [bub_length j]; simp
    · rfl
theorem isTo_length (ys : List Fd) : ∀ i, (isTo lt ys i).length = ys.length
  | 0 => rfl
  | i + 1 => by rw [isTo, bub_length, isTo_length]
theorem bub_ins : ∀ (q : List Fd) (x : Fd) (r : List Fd), bub lt (q.reverse ++ x :: r) q.length = (insF lt q x).reverse ++ r
  | [], x, r => rfl
  | y :: q, x, r => by
    rw [List.length_cons, bub, insF]
    have hq : q.reverse.length = q.length := List.length_reverse
    have e1 : ((y :: q).reverse ++ x :: r).getD (q.length + 1) fd0 = x := by
      rw [List.reverse_cons, List.append_assoc, List.getD, List.getElem?_append_right (by omega), hq]; simp
    have e2 : ((y :: q).reverse ++ x :: r).getD q.length fd0 = y := by
      rw [List.reverse_cons, List.append_assoc, List.getD, List.getElem?_append_right (by omega), hq]; simp
    rw [e1, e2]
    split
    · have e3 : (((y :: q).reverse ++ x :: r).set (q.length + 1) y).set q.length x = q.reverse ++ x :: (y :: r) := by
        rw [List.reverse_cons, List.append_assoc, List.set_append_right _ _ (by omega), List.set_append_right _ _ (by omega), hq]; simp
      rw [e3, bub_ins q x (y :: r), List.reverse_cons, List.append_assoc]; rfl
    · rw [List.reverse_cons, List.reverse_cons]; simp
theorem isTo_ins (ys : List Fd) : ∀ i, i ≤ ys.length → isTo lt ys i = ((ys.take i).foldl (insF lt) []).reverse ++ ys.drop i ∧ ((ys.take i).foldl (insF lt) []).length = i
  | 0, _ => ⟨by simp [isTo], rfl⟩
  | i + 1, h => by
    obtain ⟨ih, il⟩ := isTo_ins ys i (by omega)
    have hlen : ∀ (q : List Fd) (x : Fd), (insF lt q x).length = q.length + 1 := fun q x => by
      induction q with
      | nil => rfl
      | cons y q ih => rw [insF]; split <;> simp [ih]
    have ht : ys.take (i + 1) = ys.take i ++ [ys[i]'(by omega)] := by rw [List.take_add_one, List.getElem?_eq_getElem (by omega)]; rfl
    have hd : ys.drop i = ys[i]'(by omega) :: ys.drop (i + 1) := List.drop_eq_getElem_cons (by omega)
    have hb := bub_ins (lt := lt) ((ys.take i).foldl (insF lt) []) (ys[i]'(by omega)) (ys.drop (i + 1))
    rw [il, ← hd] at hb
    rw [isTo, ih, hb, ht, List.foldl_append]
    exact ⟨rfl, by show (insF lt _ _).length = _; rw [hlen, il]⟩
theorem isTo_sort (ys : List Fd) : isTo lt ys ys.length = isort lt ys := by
  rw [(isTo_ins ys ys.length (Nat.le_refl _)).1, List.take_length, List.drop_length, List.append_nil]; rfl
theorem isort_length (ys : List Fd) : (isort lt ys).length = ys.length := by rw [← isTo_sort, isTo_length]
theorem insF_perm : ∀ (q : List Fd) (x : Fd), List.Perm (insF lt q x) (x :: q)
  | [], x => List.Perm.refl _
  | y :: q, x => by
    rw [insF]; split
    · exact (List.Perm.cons y (insF_perm q x)).trans (List.Perm.swap x y q)
    · exact List.Perm.refl _
theorem foldl_perm : ∀ (ys q : List Fd), List.Perm (ys.foldl (insF lt) q) (ys ++ q)
  | [], q => List.Perm.refl _
  | x :: ys, q => by
    rw [List.foldl_cons]
    refine (foldl_perm ys (insF lt q x)).trans ?_
    refine (List.Perm.append_left ys (insF_perm q x)).trans ?_
    exact List.perm_middle
theorem isort_perm (ys : List Fd) : List.Perm (isort lt ys) ys := by
  unfold isort
  refine (List.reverse_perm _).trans ?_
  have := foldl_perm (lt := lt) ys []
  rwa [List.append_nil] at this
theorem mem_isort {ys : List Fd} {x : Fd} : x ∈ isort lt ys ↔ x ∈ ys := (isort_perm ys).mem_iff
theorem insF_sorted (htr : ∀ a b c, lt a b = false → lt b c = false → lt a c = false) (has : ∀ a b, lt a b = true → lt b a = false) : ∀ (q : List Fd) (x : Fd), q.Pairwise (fun a b => lt a b = false) → (insF lt q x).Pairwise (fun a b => lt a b = false)
  | [], x, _ => List.pairwise_singleton _ _
  | y :: q, x, h => by
    have hp := List.pairwise_cons.1 h
    rw [insF]
    by_cases hx : lt x y = true
    · rw [if_pos hx]
      refine List.pairwise_cons.2 ⟨fun z hz => ?_, insF_sorted htr has q x hp.2⟩
      rcases List.mem_cons.1 ((insF_perm q x).mem_iff.1 hz) with rfl | hz
      · exact has _ _ hx
      · exact hp.1 z hz
    · rw [if_neg hx]
      have hx' : lt x y = false := by simpa using hx
      refine List.pairwise_cons.2 ⟨fun z hz => ?_, h⟩
      rcases List.mem_cons.1 hz with rfl | hz
      · exact hx'
      · exact htr _ _ _ hx' (hp.1 z hz)
theorem foldl_sorted (htr : ∀ a b c, lt a b = false → lt b c = false → lt a c = false) (has : ∀ a b, lt a b = true → lt b a = false) : ∀ (ys q : List Fd), q.Pairwise (fun a b => lt a b = false) → (ys.foldl (insF lt) q).Pairwise (fun a b => lt a b = false)
  | [], _, h => h
  | x :: ys, q, h => foldl_sorted htr has ys _ (insF_sorted htr has q x h)
theorem isort_sorted (htr : ∀ a b c, lt a b = false → lt b c = false → lt a c = false) (has : ∀ a b, lt a b = true → lt b a = false) (ys : List Fd) : (isort lt ys).Pairwise (fun a b => lt b a = false) := by
  unfold isort
  rw [List.pairwise_reverse]
  exact foldl_sorted htr has ys [] List.Pairwise.nil
end
def CmpIs (f : Nat) (c : Fd → Fd → Int) : Prop := Callable Tryz.prog f ∧ ∀ (K : World) (F : List Assn) (x y : Fd), Tells Tryz.prog f #[x.v, y.v] K F (.int .i64 (c x y))
section
variable {K : World} {F : List Assn}
theorem insertion_found {f : Nat} {c : Fd → Fd → Int} (hf : CmpIs f c) {b m cap : Nat} {ys : List Fd} {r : List Value} (hm : ys.length = m) (hb : m ≤ 1000000) :
    Does Tryz.prog 197 #[.slice (some ⟨b, 0, none⟩) m cap, .int .i64 0, .int .i64 (m : Int), .func (.func f) #[] #[]] K (Cells b 167 (flatF ys ++ r) :: F)
      (fun v H' => H' = Cells b 167 (flatF (isort (fun x y => decide (c x y < 0)) ys) ++ r) :: F) := by
  obtain ⟨lt, hlt⟩ : ∃ lt : Fd → Fd → Bool, lt = fun x y => decide (c x y < 0) := ⟨_, rfl⟩
  rw [← hlt]
  refine Does.enter Tryz.func197 rfl Tryz.ntmps197 rfl ?_
  simp only [env0, Nat.reduceAdd]
  refine WC.sr ?_
  refine WL.mv rfl rfl ?_
  refine WL.ad rfl rfl rfl ?_
  refine WL.sg rfl rfl ?_
  refine WL.nil ?_
  refine WC.block ?_
  refine WC.loop (σ := Nat) (fun i => [(0, .slice (some ⟨b, 0, none⟩) m cap), (1, .int .i64 0), (2, .int .i64 (m : Int)), (3, .func (.func f) #[] #[]), (8, .int .i64 (i : Int))]) (fun i => Cells b 167 (flatF (isTo lt ys i) ++ r) :: F) (fun i => 1 ≤ i ∧ (i = 1 ∨ i ≤ m)) (fun i => m + 1 - i) 1 ⟨Nat.le_refl _, .inl rfl⟩ (.cons rfl (.cons rfl (.cons rfl (.cons rfl (.cons rfl (.nil _)))))) (fun w h => h) ?_
  rintro i ⟨hi1, him⟩
  refine WC.seq ?_
  refine WC.sr ?_
  refine WL.mv rfl rfl ?_
  refine WL.mv rfl rfl ?_
  refine WL.val (V.lss (OV.p rfl) (OV.p rfl)) rfl ?_
  refine WL.nil ?_
  refine WC.cond rfl (fun hc0 => ?_) (fun hc0 => ?_)
  ·simp only [decide_eq_true_eq, decide_eq_false_iff_not] at hc0
   have hi2 : i < m := by omega
   refine WC.skip ?_
   refine WC.seq ?_
   refine WC.block ?_
   refine WC.sr ?_
   refine WL.mv rfl rfl ?_
   refine WL.sg rfl rfl ?_
   refine WL.nil ?_
   refine WC.block ?_
   refine WC.loop (σ := Nat × List Fd) (fun s => [(0, .slice (some ⟨b, 0, none⟩) m cap), (1, .int .i64 0), (2, .int .i64 (m : Int)), (3, .func (.func f) #[] #[]), (8, .int .i64 (i : Int)), (9, .int .i64 (s.1 : Int))]) (fun s => Cells b 167 (flatF s.2 ++ r) :: F) (fun s => s.1 ≤ i ∧ s.2.length = m ∧ bub lt s.2 s.1 = isTo lt ys (i + 1)) (fun s => s.1) (i, isTo lt ys i) ⟨Nat.le_refl _, by rw [isTo_length, hm], rfl⟩ (.cons rfl (.cons rfl (.cons rfl (.cons rfl (.cons rfl (.cons rfl (.nil _))))))) (fun w h => h) ?_
   rintro ⟨j, zs⟩ ⟨hji, hzl, hzb⟩
   dsimp only at hji hzl hzb ⊢
   obtain ⟨za, hza⟩ : ∃ za, za = zs.getD j fd0 := ⟨_, rfl⟩
   obtain ⟨zb, hzb'⟩ : ∃ zb, zb = zs.getD (j - 1) fd0 := ⟨_, rfl⟩
   have hja : Rds K (Cells b 167 (flatF zs ++ r) :: F) b (0 + (j : Int).toNat * 5) za.cells := by
     rw [show 0 + (j : Int).toNat * 5 = j * 5 by omega, hza]; exact flatF_rds (by omega)
   have hjb : j ≠ 0 → Rds K (Cells b 167 (flatF zs ++ r) :: F) b (0 + ((j : Int) - 1).toNat * 5) zb.cells := fun h0 => by
     rw [show 0 + ((j : Int) - 1).toNat * 5 = (j - 1) * 5 by omega, hzb']; exact flatF_rds (by omega)
   refine WC.seq ?_
   refine WC.seq ?_
   refine WC.regionQ (by kernel_rfl) (by kernel_rfl) ?_
   refine WQ.val (V.move (OV.p rfl)) rfl ?_
   refine WQ.val (V.move (OV.p rfl)) rfl ?_
   refine WQ.val (V.gtr (OV.p rfl) (OV.p rfl)) rfl ?_
   refine WQ.val (V.move (OV.p rfl)) rfl ?_
   refine WQ.valG (oj := _) rfl rfl rfl GC.t (V.move (OV.p rfl)) rfl ?_
   refine WQ.valG (oj := _) rfl rfl rfl GC.t (V.move (OV.p rfl)) rfl ?_
   refine WQ.valG (oj := _) rfl rfl rfl GC.t (V.move (OV.p rfl)) rfl ?_
   refine WQ.valG (oj := _) rfl rfl rfl GC.t (V.idxB st133 (OV.g rfl id) (OV.g rfl id) (fun hc => by omega)) rfl ?_
   refine WQ.valG (oj := _) rfl rfl rfl GC.t (V.loadA (vs := za.cells) ⟨Tryz.isAgg167, Tryz.sizeOf167⟩ (OV.g rfl id) rfl (fun _ => hja)) rfl ?_
   refine WQ.valG (oj := _) rfl rfl rfl GC.t (V.move (OV.p rfl)) rfl ?_
   refine WQ.valG (oj := _) rfl rfl rfl GC.t (V.move (OV.p rfl)) rfl ?_
   refine WQ.valG (oj := _) rfl rfl rfl GC.t (V.subI (OV.g rfl id) (OV.p rfl) (fun hc => by first | omega | (simp at hc; omega))) rfl ?_
   refine WQ.valG (oj := _) rfl rfl rfl GC.t (V.idxB st133 (OV.g rfl id) (OV.g rfl id) (fun hc => by simp at hc; omega)) rfl ?_
   refine WQ.valG (oj := _) rfl rfl rfl GC.t (V.loadA (vs := zb.cells) ⟨Tryz.isAgg167, Tryz.sizeOf167⟩ (OV.g rfl id) rfl (fun hc => hjb (by simp at hc; omega))) rfl ?_
   refine WQ.callGV (oj := _) (first := []) (vs := [_, _]) (captured := []) rfl rfl rfl GC.t hf.1 (OV.g rfl id) ⟨OV.g rfl id, OV.g rfl id, trivial⟩ (fun _ => hf.2 _ _ za zb) rfl ?_
   refine WQ.valG (oj := _) rfl rfl rfl GC.t (V.lss (OV.g rfl id) (OV.p rfl)) rfl ?_
   refine WQ.val (V.pickAnd (OV.p rfl) (OV.g rfl id)) rfl ?_
   refine WQ.nil ?_
   refine WC.cond rfl (fun hc1 => ?_) (fun hc1 => ?_)
   ·simp only [Bool.and_eq_true, Bool.and_eq_false_iff, decide_eq_true_eq, decide_eq_false_iff_not] at hc1
    have h1 := hc1
    obtain ⟨j', rfl⟩ : ∃ j', j = j' + 1 := ⟨j - 1, by omega⟩
    rw [Nat.add_sub_cancel] at hzb'
    have hltj : lt za zb = true := by rw [hlt]; exact decide_eq_true h1.2
    rw [bub, ← hza, ← hzb', if_pos hltj] at hzb
    have hjb' := hjb (by omega)
    refine WC.skip ?_
    refine WC.seq ?_
    refine WC.block ?_
    refine WC.regionA F (by kernel_rfl) ?_
    refine WA.t 0 rfl (V.move (OV.p rfl)) ?_
    refine WA.t 1 rfl (V.move (OV.p rfl)) ?_
    refine WA.t 2 rfl (V.move (OV.p rfl)) ?_
    refine WA.t 3 rfl (V.move (OV.p rfl)) ?_
    refine WA.t 4 rfl (V.subI (OV.p rfl) (OV.p rfl) (fun hc => by first | omega | (simp at hc; omega))) ?_
    refine WA.t 5 rfl (V.move (OV.p rfl)) ?_
    refine WA.t 6 rfl (V.move (OV.p rfl)) ?_
    refine WA.t 7 rfl (V.subI (OV.p rfl) (OV.p rfl) (fun hc => by first | omega | (simp at hc; omega))) ?_
    refine WA.t 8 rfl (V.idxB st133 (OV.p rfl) (OV.p rfl) (fun hc => by omega)) ?_
    refine WA.t 10 rfl (V.move (OV.p rfl)) ?_
    refine WA.t 11 rfl (V.move (OV.p rfl)) ?_
    refine WA.t 12 rfl (V.idxB st133 (OV.p rfl) (OV.p rfl) (fun hc => by omega)) ?_
    refine WA.two (i := 9) (j := 13) (fun w h => by repeat (first | exact h | replace h := h.tail)) (by kernel_rfl) rfl rfl ?_ ?_
    ·refine WL.val (V.loadA (vs := zb.cells) ⟨Tryz.isAgg167, Tryz.sizeOf167⟩ (OV.p rfl) rfl (fun _ => hjb')) rfl ?_
     refine WL.nil ?_
     refine WA.o 13 rfl ?_
     refine WL.val (V.loadA (vs := za.cells) ⟨Tryz.isAgg167, Tryz.sizeOf167⟩ (OV.p rfl) rfl (fun _ => hja)) rfl ?_
     refine WL.nil ?_
     refine WA.t 14 rfl (V.idxB st133 (OV.p rfl) (OV.p rfl) (fun hc => by omega)) ?_
     refine WA.o 15 rfl ?_
     refine WL.store (cs := zb.cells) Tryz.sizeOf167 (OV.p rfl) (OV.p rfl) rfl rfl rfl (flatF_upd (j := j' + 1) (y := zb) (by omega) (by omega)) ?_
     refine WL.nil ?_
     refine WA.t 16 rfl (V.idxB st133 (OV.p rfl) (OV.p rfl) (fun hc => by omega)) ?_
     refine WA.o 17 rfl ?_
     refine WL.store (cs := za.cells) Tryz.sizeOf167 (OV.p rfl) (OV.p rfl) rfl rfl rfl (flatF_upd (j := j') (y := za) (by rw [List.length_set]; omega) (by omega)) ?_
     refine WL.nil ?_
     refine WA.fin ?_
     refine WC.region ?_
     refine WL.mv rfl rfl ?_
     refine WL.sb rfl rfl rfl ?_
     refine WL.sg rfl rfl ?_
     refine WL.nil ?_
     refine ⟨rfl, ?_⟩
     exact ⟨(j', (zs.set (j' + 1) zb).set j' za), ⟨by show j' ≤ i; omega, by show ((zs.set _ _).set _ _).length = m; simp [hzl], hzb⟩, Nat.lt_succ_self _, .cons rfl (.cons rfl (.cons rfl (.cons rfl (.cons rfl (.cons (look_eq rfl (by simp)) (.nil _)))))), fun w h => h⟩
    ·refine WL.val (V.loadA (vs := za.cells) ⟨Tryz.isAgg167, Tryz.sizeOf167⟩ (OV.p rfl) rfl (fun _ => hja)) rfl ?_
     refine WL.nil ?_
     refine WA.o 9 rfl ?_
     refine WL.val (V.loadA (vs := zb.cells) ⟨Tryz.isAgg167, Tryz.sizeOf167⟩ (OV.p rfl) rfl (fun _ => hjb')) rfl ?_
     refine WL.nil ?_
     refine WA.t 14 rfl (V.idxB st133 (OV.p rfl) (OV.p rfl) (fun hc => by omega)) ?_
     refine WA.o 15 rfl ?_
     refine WL.store (cs := zb.cells) Tryz.sizeOf167 (OV.p rfl) (OV.p rfl) rfl rfl rfl (flatF_upd (j := j' + 1) (y := zb) (by omega) (by omega)) ?_
     refine WL.nil ?_
     refine WA.t 16 rfl (V.idxB st133 (OV.p rfl) (OV.p rfl) (fun hc => by omega)) ?_
     refine WA.o 17 rfl ?_
     refine WL.store (cs := za.cells) Tryz.sizeOf167 (OV.p rfl) (OV.p rfl) rfl rfl rfl (flatF_upd (j := j') (y := za) (by rw [List.length_set]; omega) (by omega)) ?_
     refine WL.nil ?_
     refine WA.fin ?_
     refine WC.region ?_
     refine WL.mv rfl rfl ?_
     refine WL.sb rfl rfl rfl ?_
     refine WL.sg rfl rfl ?_
     refine WL.nil ?_
     refine ⟨rfl, ?_⟩
     exact ⟨(j', (zs.set (j' + 1) zb).set j' za), ⟨by show j' ≤ i; omega, by show ((zs.set _ _).set _ _).length = m; simp [hzl], hzb⟩, Nat.lt_succ_self _, .cons rfl (.cons rfl (.cons rfl (.cons rfl (.cons rfl (.cons (look_eq rfl (by simp)) (.nil _)))))), fun w h => h⟩
   ·simp only [Bool.and_eq_true, Bool.and_eq_false_iff, decide_eq_true_eq, decide_eq_false_iff_not] at hc1
    have h1 := hc1
    have hdone : isTo lt ys (i + 1) = zs := by
      rw [← hzb]
      cases j with
      | zero => rfl
      | succ j' =>
        rw [Nat.add_sub_cancel] at hzb'
        have hltj : lt za zb = false := by
          rw [hlt]
          rcases h1 with h | h
          · omega
          · exact decide_eq_false h
        rw [bub, ← hza, ← hzb', if_neg (by rw [hltj]; decide)]
    refine WC.exit ?_
    refine WC.region ?_
    refine WL.mv rfl rfl ?_
    refine WL.ad rfl rfl rfl ?_
    refine WL.sg rfl rfl ?_
    refine WL.nil ?_
    refine ⟨rfl, ?_⟩
    exact ⟨i + 1, ⟨by show 1 ≤ i + 1; omega, .inr hi2⟩, (by show m + 1 - (i + 1) < m + 1 - i; omega), .cons rfl (.cons rfl (.cons rfl (.cons rfl (.cons (look_eq rfl (by simp)) (.nil _))))), fun w h => Sat.cells_eq h (by rw [hdone])⟩
  ·simp only [decide_eq_true_eq, decide_eq_false_iff_not] at hc0
   refine WC.exit ?_
   have hfin : isTo lt ys i = isort lt ys := by
     rw [← isTo_sort, hm]
     rcases Nat.eq_zero_or_pos m with h0 | h0
     · have : ys = [] := List.eq_nil_of_length_eq_zero (by omega)
       subst this
       have key : ∀ k, isTo lt [] k = [] := fun k => List.eq_nil_of_length_eq_zero (by rw [isTo_length]; rfl)
       rw [key, key]
     · obtain rfl : i = m := by omega
       rfl
   exact BodyQ.normal (H' := Cells b _ _ :: F) (Res.none rfl) (fun w h => Sat.cells_eq h (by rw [hfin])) rfl
end
end Go.Proofs.YtohkefolnmcjnaaGreat
namespace Go.Proofs.YtohkefolnmcjnaaGreat
open Go.Sl Go.RowKit
set_option linter.unusedVariables false
set_option linter.unusedSimpArgs false
set_option maxRecDepth 20000
def cmpI (x y : Int) : Int := if x < y then -1 else if y < x then 1 else 0
def orI (a b : Int) : Int := if a ≠ 0 then a else b
def cmpN (x y : Fd) : Int := orI (cmpI x.hd.num y.hd.num) (cmpI y.block x.block)
def cmpS (x y : Fd) : Int := orI (cmpI x.hd.num y.hd.num) (cmpI x.block y.block)
def cmpM (x y : Fd) : Int := cmpI x.hd.num y.hd.num
section
variable {K : World} {F : List Assn}
theorem cmp_isNaN (x : Int) : Tells Tryz.prog 174 #[.int .i64 x] K F (.bool false) := by
  refine Does.enter Tryz.func174 rfl Tryz.ntmps174 rfl ?_
  simp only [env0, Nat.reduceAdd]
  refine WC.sr ?_
  refine WL.sg rfl rfl ?_
  refine WL.nil ?_
  refine WC.sr ?_
  refine WL.mv rfl rfl ?_
  refine WL.mv rfl rfl ?_
  refine WL.val (V.neq (OV.p rfl) (OV.p rfl)) rfl ?_
  refine WL.sg rfl rfl ?_
  refine WL.nil ?_
  refine WC.ret ?_
  exact BodyQ.ret (H' := F) (Res.tmp rfl rfl) (fun w h => h) ⟨by simp, rfl⟩
theorem cmp_Compare (x y : Int) : Tells Tryz.prog 132 #[.int .i64 x, .int .i64 y] K F (.int .i64 (cmpI x y)) := by
  refine Does.enter Tryz.func132 rfl Tryz.ntmps132 rfl ?_
  simp only [env0, Nat.reduceAdd]
  refine WC.sr ?_
  refine WL.sg rfl rfl ?_
  refine WL.nil ?_
  refine WC.sr ?_
  refine WL.mv rfl rfl ?_
  refine WL.call (vs := [_]) Tryz.call174 ⟨OV.p rfl, trivial⟩ (cmp_isNaN _) rfl ?_
  rintro _ H0 ⟨rfl, h0⟩
  subst H0
  refine WL.sg rfl rfl ?_
  refine WL.nil ?_
  refine WC.sr ?_
  refine WL.mv rfl rfl ?_
  refine WL.call (vs := [_]) Tryz.call174 ⟨OV.p rfl, trivial⟩ (cmp_isNaN _) rfl ?_
  rintro _ H0 ⟨rfl, h0⟩
  subst H0
  refine WL.sg rfl rfl ?_
  refine WL.nil ?_
  refine WC.seq ?_
  refine WC.sr ?_
  refine WL.mv rfl rfl ?_
  refine WL.nil ?_
  refine WC.condF' rfl (by first | rfl | (simp; done) | (simp; omega)) ?_
  refine WC.skip ?_
  refine WC.seq ?_
  refine WC.sr ?_
  refine WL.mv rfl rfl ?_
  refine WL.nil ?_
  refine WC.condF' rfl (by first | rfl | (simp; done) | (simp; omega)) ?_
  refine WC.skip ?_
  refine WC.seq ?_
  refine WC.sr ?_
  refine WL.mv rfl rfl ?_
  refine WL.mv rfl rfl ?_
  refine WL.val (V.lss (OV.p rfl) (OV.p rfl)) rfl ?_
  refine WL.nil ?_
  refine WC.cond rfl (fun hc3 => ?_) (fun hc3 => ?_)
  ·simp only [decide_eq_true_eq, decide_eq_false_iff_not] at hc3
   have h3 := hc3
   refine WC.sr ?_
   refine WL.sg rfl rfl ?_
   refine WL.nil ?_
   refine WC.ret ?_
   exact BodyQ.ret (H' := F) (Res.tmp rfl rfl) (fun w h => h) ⟨by unfold cmpI; rw [if_pos h3], rfl⟩
  ·simp only [decide_eq_true_eq, decide_eq_false_iff_not] at hc3
   have h3 := hc3
   refine WC.skip ?_
   refine WC.seq ?_
   refine WC.sr ?_
   refine WL.mv rfl rfl ?_
   refine WL.mv rfl rfl ?_
   refine WL.val (V.gtr (OV.p rfl) (OV.p rfl)) rfl ?_
   refine WL.nil ?_
   refine WC.cond rfl (fun hc4 => ?_) (fun hc4 => ?_)
   ·simp only [decide_eq_true_eq, decide_eq_false_iff_not] at hc4
    have h4 := hc4
    refine WC.sr ?_
    refine WL.sg rfl rfl ?_
    refine WL.nil ?_
    refine WC.ret ?_
    exact BodyQ.ret (H' := F) (Res.tmp rfl rfl) (fun w h => h) ⟨by unfold cmpI; rw [if_neg h3, if_pos (by omega)], rfl⟩
   ·simp only [decide_eq_true_eq, decide_eq_false_iff_not] at hc4
    have h4 := hc4
    refine WC.skip ?_
    refine WC.sr ?_
    refine WL.sg rfl rfl ?_
    refine WL.nil ?_
    refine WC.ret ?_
    exact BodyQ.ret (H' := F) (Res.tmp rfl rfl) (fun w h => h) ⟨by unfold cmpI; rw [if_neg h3, if_neg (by omega)], rfl⟩
theorem cmp_Or2 {B : Option Addr} {cap : Nat} {x y : Int} (hq : Seq K F B 2 1 [.int .i64 x, .int .i64 y]) : Tells Tryz.prog 135 #[.slice B 2 cap] K F (.int .i64 (orI x y)) := by
  have rd : ∀ (i : Nat) v, [Value.int .i64 x, .int .i64 y][i]? = some v → Rd K F (B.map (·.add (i * 1))) v := fun i v hi => by rw [Nat.mul_one]; exact hq.rd i v hi
  refine Does.enter Tryz.func135 rfl Tryz.ntmps135 rfl ?_
  simp only [env0, Nat.reduceAdd]
  refine WC.sr ?_
  refine WL.sg rfl rfl ?_
  refine WL.nil ?_
  refine WC.sr ?_
  refine WL.sg rfl rfl ?_
  refine WL.nil ?_
  refine WC.seq ?_
  refine WC.sr ?_
  refine WL.mv rfl rfl ?_
  refine WL.val (V.len (t := 42) Tryz.runUnderlying42 (OV.p rfl)) rfl ?_
  refine WL.mv rfl rfl ?_
  refine WL.nil ?_
  refine WC.block ?_
  refine WC.rounds 3 ?_
  refine WC.sr ?_
  refine WL.val (V.lss (OV.p rfl) (OV.p rfl)) rfl ?_
  refine WL.nil ?_
  refine WC.seq ?_
  refine WC.condT' rfl (by first | rfl | (simp; done) | (simp; omega)) ?_
  refine WC.skip ?_
  refine WC.seq ?_
  refine WC.block ?_
  refine WC.sr ?_
  refine WL.val (V.idxS st42 (OV.p rfl) (OV.p rfl) (fun _ => by decide) (fun _ => by first | exact rd 0 _ rfl | exact rd 1 _ rfl)) rfl ?_
  refine WL.val (V.load Tryz.isAgg3 (OV.p rfl) (fun _ => by first | exact rd 0 _ rfl | exact rd 1 _ rfl)) rfl ?_
  refine WL.sg rfl rfl ?_
  refine WL.nil ?_
  refine WC.sr ?_
  refine WL.mv rfl rfl ?_
  refine WL.mv rfl rfl ?_
  refine WL.val (V.neq (OV.p rfl) (OV.p rfl)) rfl ?_
  refine WL.nil ?_
  refine WC.cond rfl (fun hc1 => ?_) (fun hc1 => ?_)
  ·simp only [Bool.not_eq_true', Bool.not_eq_false', decide_eq_true_eq, decide_eq_false_iff_not] at hc1
   have h1 := hc1
   refine WC.sr ?_
   refine WL.mv rfl rfl ?_
   refine WL.sg rfl rfl ?_
   refine WL.nil ?_
   refine WC.ret ?_
   first
   | exact BodyQ.ret (H' := F) (Res.tmp rfl rfl) (fun w h => h) ⟨by unfold orI; rw [if_pos h1], rfl⟩
   | (refine BodyQ.ret (H' := F) (Res.tmp rfl rfl) (fun w h => h) ⟨?_, rfl⟩
      unfold orI
      rw [if_neg (by omega)])
  ·simp only [Bool.not_eq_true', Bool.not_eq_false', decide_eq_true_eq, decide_eq_false_iff_not] at hc1
   have h1 := hc1
   refine WC.skip ?_
   refine WC.region ?_
   refine WL.val (V.val_eq (v' := .int .i64 (1)) (V.add (OV.p rfl) (OV.p rfl)) (fun _ => rfl)) rfl ?_
   refine WL.mv rfl rfl ?_
   refine WL.nil ?_
   refine WC.sr ?_
   refine WL.val (V.lss (OV.p rfl) (OV.p rfl)) rfl ?_
   refine WL.nil ?_
   refine WC.seq ?_
   refine WC.condT' rfl (by first | rfl | (simp; done) | (simp; omega)) ?_
   refine WC.skip ?_
   refine WC.seq ?_
   refine WC.block ?_
   refine WC.sr ?_
   refine WL.val (V.idxS st42 (OV.p rfl) (OV.p rfl) (fun _ => by decide) (fun _ => by first | exact rd 0 _ rfl | exact rd 1 _ rfl)) rfl ?_
   refine WL.val (V.load Tryz.isAgg3 (OV.p rfl) (fun _ => by first | exact rd 0 _ rfl | exact rd 1 _ rfl)) rfl ?_
   refine WL.sg rfl rfl ?_
   refine WL.nil ?_
   refine WC.sr ?_
   refine WL.mv rfl rfl ?_
   refine WL.mv rfl rfl ?_
   refine WL.val (V.neq (OV.p rfl) (OV.p rfl)) rfl ?_
   refine WL.nil ?_
   refine WC.cond rfl (fun hc1' => ?_) (fun hc1' => ?_)
   ·simp only [Bool.not_eq_true', Bool.not_eq_false', decide_eq_true_eq, decide_eq_false_iff_not] at hc1'
    have h1 := hc1'
    refine WC.sr ?_
    refine WL.mv rfl rfl ?_
    refine WL.sg rfl rfl ?_
    refine WL.nil ?_
    refine WC.ret ?_
    first
    | exact BodyQ.ret (H' := F) (Res.tmp rfl rfl) (fun w h => h) ⟨by unfold orI; rw [if_pos h1], rfl⟩
    | (refine BodyQ.ret (H' := F) (Res.tmp rfl rfl) (fun w h => h) ⟨?_, rfl⟩
       unfold orI
       rw [if_neg (by omega)])
   ·simp only [Bool.not_eq_true', Bool.not_eq_false', decide_eq_true_eq, decide_eq_false_iff_not] at hc1'
    have h1 := hc1'
    refine WC.skip ?_
    refine WC.region ?_
    refine WL.val (V.val_eq (v' := .int .i64 (2)) (V.add (OV.p rfl) (OV.p rfl)) (fun _ => rfl)) rfl ?_
    refine WL.mv rfl rfl ?_
    refine WL.nil ?_
    refine WC.sr ?_
    refine WL.val (V.lss (OV.p rfl) (OV.p rfl)) rfl ?_
    refine WL.nil ?_
    refine WC.seq ?_
    refine WC.condF' rfl (by first | rfl | (simp; done) | (simp; omega)) ?_
    refine WC.exit ?_
    refine WC.sr ?_
    refine WL.mv rfl rfl ?_
    refine WL.sg rfl rfl ?_
    refine WL.nil ?_
    refine WC.ret ?_
    refine BodyQ.ret (H' := F) (Res.tmp rfl rfl) (fun w h => h) ⟨?_, rfl⟩
    unfold orI
    rw [if_neg (by omega)]
    congr 1; omega
theorem byNumber_is : CmpIs 129 cmpN := ⟨Tryz.call129, fun K F x y => by
  refine Does.enter Tryz.func129 rfl Tryz.ntmps129 rfl ?_
  simp only [env0, Nat.reduceAdd]
  refine WC.sr ?_
  refine WL.box (cs := [_, _, _, _, _]) (OV.p rfl) rfl rfl (fun b2 => ?_)
  refine WL.box (cs := [_, _, _, _, _]) (OV.p rfl) rfl rfl (fun b3 => ?_)
  refine WL.sg rfl rfl ?_
  refine WL.nil ?_
  refine WC.seq ?_
  refine WC.regionH (by kernel_rfl) ?_
  refine WA.t 0 rfl (V.fieldAddr fo167_1 (OV.p rfl)) ?_
  refine WA.t 1 rfl (V.fieldAddr fo129_2 (OV.p rfl)) ?_
  refine WA.t 2 rfl (V.load Tryz.isAgg3 (OV.p rfl) (fun _ => by repeat (first | exact Rd.here rfl | apply Rd.up))) ?_
  refine WA.t 3 rfl (V.fieldAddr fo167_1 (OV.p rfl)) ?_
  refine WA.t 4 rfl (V.fieldAddr fo129_2 (OV.p rfl)) ?_
  refine WA.t 5 rfl (V.load Tryz.isAgg3 (OV.p rfl) (fun _ => by repeat (first | exact Rd.here rfl | apply Rd.up))) ?_
  refine WA.t 7 rfl (V.fieldAddr fo167_0 (OV.p rfl)) ?_
  refine WA.t 8 rfl (V.load Tryz.isAgg3 (OV.p rfl) (fun _ => by repeat (first | exact Rd.here rfl | apply Rd.up))) ?_
  refine WA.t 9 rfl (V.fieldAddr fo167_0 (OV.p rfl)) ?_
  refine WA.t 10 rfl (V.load Tryz.isAgg3 (OV.p rfl) (fun _ => by repeat (first | exact Rd.here rfl | apply Rd.up))) ?_
  refine WA.o 6 rfl ?_
  refine WL.call (vs := [_, _]) Tryz.call132 ⟨OV.p rfl, OV.p rfl, trivial⟩ (cmp_Compare _ _) rfl ?_
  rintro _ H0 ⟨rfl, h0⟩
  subst H0
  refine WL.nil ?_
  refine WA.o 11 rfl ?_
  refine WL.call (vs := [_, _]) Tryz.call132 ⟨OV.p rfl, OV.p rfl, trivial⟩ (cmp_Compare _ _) rfl ?_
  rintro _ H0 ⟨rfl, h0⟩
  subst H0
  refine WL.nil ?_
  refine WA.o 12 rfl ?_
  refine WL.buildSlice (E := 3) (cs := [_, _]) (vs := [(0, _), (1, _)]) ⟨OV.p rfl, OV.p rfl, trivial⟩ rfl (bsl42_2_0_1 _ _) rfl (fun b17 => ?_)
  refine WL.nil ?_
  refine WA.o 13 rfl ?_
  refine WL.call (vs := [_]) Tryz.call135 ⟨OV.p rfl, trivial⟩ (cmp_Or2 (Seq.all rfl)) rfl ?_
  rintro _ H0 ⟨rfl, h0⟩
  subst H0
  refine WL.nil ?_
  refine WA.t 14 rfl (V.assign (OV.p rfl)) ?_
  refine WA.fin ?_
  refine WC.ret ?_
  exact BodyQ.ret (H' := F) (Res.tmp rfl rfl) (fun w h => h.drop 3) ⟨rfl, rfl⟩
  ⟩
theorem stale1_is : CmpIs 134 cmpS := ⟨Tryz.call134, fun K F x y => by
  refine Does.enter Tryz.func134 rfl Tryz.ntmps134 rfl ?_
  simp only [env0, Nat.reduceAdd]
  refine WC.sr ?_
  refine WL.box (cs := [_, _, _, _, _]) (OV.p rfl) rfl rfl (fun b2 => ?_)
  refine WL.box (cs := [_, _, _, _, _]) (OV.p rfl) rfl rfl (fun b3 => ?_)
  refine WL.sg rfl rfl ?_
  refine WL.nil ?_
  refine WC.seq ?_
  refine WC.regionH (by kernel_rfl) ?_
  refine WA.t 0 rfl (V.fieldAddr fo167_1 (OV.p rfl)) ?_
  refine WA.t 1 rfl (V.fieldAddr fo129_2 (OV.p rfl)) ?_
  refine WA.t 2 rfl (V.load Tryz.isAgg3 (OV.p rfl) (fun _ => by repeat (first | exact Rd.here rfl | apply Rd.up))) ?_
  refine WA.t 3 rfl (V.fieldAddr fo167_1 (OV.p rfl)) ?_
  refine WA.t 4 rfl (V.fieldAddr fo129_2 (OV.p rfl)) ?_
  refine WA.t 5 rfl (V.load Tryz.isAgg3 (OV.p rfl) (fun _ => by repeat (first | exact Rd.here rfl | apply Rd.up))) ?_
  refine WA.t 7 rfl (V.fieldAddr fo167_0 (OV.p rfl)) ?_
  refine WA.t 8 rfl (V.load Tryz.isAgg3 (OV.p rfl) (fun _ => by repeat (first | exact Rd.here rfl | apply Rd.up))) ?_
  refine WA.t 9 rfl (V.fieldAddr fo167_0 (OV.p rfl)) ?_
  refine WA.t 10 rfl (V.load Tryz.isAgg3 (OV.p rfl) (fun _ => by repeat (first | exact Rd.here rfl | apply Rd.up))) ?_
  refine WA.o 6 rfl ?_
  refine WL.call (vs := [_, _]) Tryz.call132 ⟨OV.p rfl, OV.p rfl, trivial⟩ (cmp_Compare _ _) rfl ?_
  rintro _ H0 ⟨rfl, h0⟩
  subst H0
  refine WL.nil ?_
  refine WA.o 11 rfl ?_
  refine WL.call (vs := [_, _]) Tryz.call132 ⟨OV.p rfl, OV.p rfl, trivial⟩ (cmp_Compare _ _) rfl ?_
  rintro _ H0 ⟨rfl, h0⟩
  subst H0
  refine WL.nil ?_
  refine WA.o 12 rfl ?_
  refine WL.buildSlice (E := 3) (cs := [_, _]) (vs := [(0, _), (1, _)]) ⟨OV.p rfl, OV.p rfl, trivial⟩ rfl (bsl42_2_0_1 _ _) rfl (fun b17 => ?_)
  refine WL.nil ?_
  refine WA.o 13 rfl ?_
  refine WL.call (vs := [_]) Tryz.call135 ⟨OV.p rfl, trivial⟩ (cmp_Or2 (Seq.all rfl)) rfl ?_
  rintro _ H0 ⟨rfl, h0⟩
  subst H0
  refine WL.nil ?_
  refine WA.t 14 rfl (V.assign (OV.p rfl)) ?_
  refine WA.fin ?_
  refine WC.ret ?_
  exact BodyQ.ret (H' := F) (Res.tmp rfl rfl) (fun w h => h.drop 3) ⟨rfl, rfl⟩
  ⟩
theorem pick1_is : CmpIs 131 cmpM := ⟨Tryz.call131, fun K F x y => by
  refine Does.enter Tryz.func131 rfl Tryz.ntmps131 rfl ?_
  simp only [env0, Nat.reduceAdd]
  refine WC.sr ?_
  refine WL.box (cs := [_, _, _, _, _]) (OV.p rfl) rfl rfl (fun b2 => ?_)
  refine WL.box (cs := [_, _, _, _, _]) (OV.p rfl) rfl rfl (fun b3 => ?_)
  refine WL.sg rfl rfl ?_
  refine WL.nil ?_
  refine WC.sr ?_
  refine WL.val (V.fieldAddr fo167_1 (OV.p rfl)) rfl ?_
  refine WL.val (V.fieldAddr fo129_2 (OV.p rfl)) rfl ?_
  refine WL.ld Tryz.isAgg3 rfl rfl ?_
  refine WL.val (V.fieldAddr fo167_1 (OV.p rfl)) rfl ?_
  refine WL.val (V.fieldAddr fo129_2 (OV.p rfl)) rfl ?_
  refine WL.ld Tryz.isAgg3 rfl rfl ?_
  refine WL.call (vs := [_, _]) Tryz.call132 ⟨OV.p rfl, OV.p rfl, trivial⟩ (cmp_Compare _ _) rfl ?_
  rintro _ H0 ⟨rfl, h0⟩
  subst H0
  refine WL.sg rfl rfl ?_
  refine WL.nil ?_
  refine WC.ret ?_
  exact BodyQ.ret (H' := F) (Res.tmp rfl rfl) (fun w h => h.drop 2) ⟨rfl, rfl⟩
  ⟩
abbrev ltOf (c : Fd → Fd → Int) : Fd → Fd → Bool := fun x y => decide (c x y < 0)
theorem insertion_nil {f : Nat} : Does Tryz.prog 197 #[.slice none 0 0, .int .i64 0, .int .i64 0, .func (.func f) #[] #[]] K F (fun v H' => H' = F) := by
  refine Does.enter Tryz.func197 rfl Tryz.ntmps197 rfl ?_
  simp only [env0, Nat.reduceAdd]
  refine WC.sr ?_
  refine WL.mv rfl rfl ?_
  refine WL.ad rfl rfl rfl ?_
  refine WL.sg rfl rfl ?_
  refine WL.nil ?_
  refine WC.block ?_
  refine WC.rounds 1 ?_
  refine WC.seq ?_
  refine WC.sr ?_
  refine WL.mv rfl rfl ?_
  refine WL.mv rfl rfl ?_
  refine WL.val (V.lss (OV.p rfl) (OV.p rfl)) rfl ?_
  refine WL.nil ?_
  refine WC.condF' rfl (by first | rfl | (simp; done) | (simp; omega)) ?_
  refine WC.exit ?_
  exact BodyQ.normal (H' := F) (Res.none rfl) (fun w h => h) rfl
theorem stable_found {f m : Nat} {S : Value} {H2 : List Assn} (hins : Does Tryz.prog 197 #[S, .int .i64 0, .int .i64 (m : Int), .func (.func f) #[] #[]] K F (fun v H' => H' = H2)) (hm : m < 20) :
    Does Tryz.prog 175 #[S, .int .i64 (m : Int), .func (.func f) #[] #[]] K F (fun v H' => H' = H2) := by
  refine Does.enter Tryz.func175 rfl Tryz.ntmps175 rfl ?_
  simp only [env0, Nat.reduceAdd]
  refine WC.sr ?_
  refine WL.sg rfl rfl ?_
  refine WL.nil ?_
  refine WC.sr ?_
  refine WL.mv rfl rfl ?_
  refine WL.sg rfl rfl ?_
  refine WL.sg rfl rfl ?_
  refine WL.nil ?_
  refine WC.seq ?_
  refine WC.block ?_
  refine WC.rounds 1 ?_
  refine WC.seq ?_
  refine WC.sr ?_
  refine WL.mv rfl rfl ?_
  refine WL.mv rfl rfl ?_
  refine WL.val (V.leq (OV.p rfl) (OV.p rfl)) rfl ?_
  refine WL.nil ?_
  refine WC.condF' rfl (by first | rfl | (simp; done) | (simp; omega)) ?_
  refine WC.exit ?_
  refine WC.sr ?_
  refine WL.mv rfl rfl ?_
  refine WL.mv rfl rfl ?_
  refine WL.mv rfl rfl ?_
  refine WL.mv rfl rfl ?_
  refine WL.call (vs := [_, _, _, _]) Tryz.call197 ⟨OV.p rfl, OV.p rfl, OV.p rfl, OV.p rfl, trivial⟩ (hins) rfl ?_
  rintro v H0 h0
  subst h0
  refine WL.nil ?_
  refine WC.block ?_
  refine WC.rounds 1 ?_
  refine WC.seq ?_
  refine WC.sr ?_
  refine WL.mv rfl rfl ?_
  refine WL.mv rfl rfl ?_
  refine WL.val (V.lss (OV.p rfl) (OV.p rfl)) rfl ?_
  refine WL.nil ?_
  refine WC.condF' rfl (by first | rfl | (simp; done) | (simp; omega)) ?_
  refine WC.exit ?_
  exact BodyQ.normal (H' := H0) (Res.none rfl) (fun w h => h) rfl
theorem sort_found {f : Nat} {c : Fd → Fd → Int} (hf : CmpIs f c) {A : Option Addr} {m cap : Nat} {ys : List Fd} (hm : ys.length = m) (h20 : m < 20) :
    Does Tryz.prog 133 #[.slice A m cap, .func (.func f) #[] #[]] K (SlA (.slice A m cap) 167 5 m (flatF ys) :: F)
      (fun v H' => ∀ w, Sat K w H' → Sat K w (SlA (.slice A m cap) 167 5 m (flatF (isort (ltOf c) ys)) :: F)) := by
  cases A with
  | none =>
    refine Does.have_ (p := m = 0 ∧ cap = 0) (fun w hw => ⟨(SlA.nilCs hw).1, (SlA.nilCs hw).2.1⟩) (fun h0 => ?_)
    obtain ⟨h1, h2⟩ := h0
    subst h2
    have hy : ys = [] := List.eq_nil_of_length_eq_zero (by omega)
    subst hy
    obtain rfl : m = 0 := by omega
    have hst := stable_found (K := K) (F := SlA (.slice none 0 0) 167 5 0 (flatF []) :: F) (f := f) (m := 0) (S := .slice none 0 0) insertion_nil (by decide)
    refine Does.enter Tryz.func133 rfl Tryz.ntmps133 rfl ?_
    simp only [env0, Nat.reduceAdd]
    refine WC.region ?_
    refine WL.mv rfl rfl ?_
    refine WL.mv rfl rfl ?_
    refine WL.val (V.len (t := 133) Tryz.runUnderlying133 (OV.p rfl)) rfl ?_
    refine WL.mv rfl rfl ?_
    refine WL.call (vs := [_, _, _]) Tryz.call175 ⟨OV.p rfl, OV.p rfl, OV.p rfl, trivial⟩ (hst) rfl ?_
    rintro v H0 h0
    subst h0
    refine WL.nil ?_
    exact BodyQ.normal (H' := SlA (.slice none 0 0) 167 5 0 (flatF []) :: F) (Res.none rfl) (fun w h => h) (fun w h => h)
  | some a =>
    refine Does.have_ (p := ∃ g, a = ⟨g, 0, none⟩) (fun w hw => SlA.addr hw) (fun ⟨g, hg⟩ => ?_)
    subst hg
    refine Does.ex (fun w hw => Sat.slCells hw) (fun r hr => ?_)
    obtain ⟨r1, r2, r3, r4⟩ := hr
    have hst := stable_found (insertion_found (K := K) (F := F) hf (b := g) (m := m) (cap := cap) (ys := ys) (r := r) hm (by omega)) h20
    refine Does.enter Tryz.func133 rfl Tryz.ntmps133 rfl ?_
    simp only [env0, Nat.reduceAdd]
    refine WC.region ?_
    refine WL.mv rfl rfl ?_
    refine WL.mv rfl rfl ?_
    refine WL.val (V.len (t := 133) Tryz.runUnderlying133 (OV.p rfl)) rfl ?_
    refine WL.mv rfl rfl ?_
    refine WL.call (vs := [_, _, _]) Tryz.call175 ⟨OV.p rfl, OV.p rfl, OV.p rfl, trivial⟩ (hst) rfl ?_
    rintro v H0 h0
    subst h0
    refine WL.nil ?_
    refine BodyQ.normal (H' := Cells g 167 (flatF (isort (ltOf c) ys) ++ r) :: F) (Res.none rfl) (fun w h => h) (fun w h => ?_)
    have hfl : (flatF (isort (ltOf c) ys)).length = m * 5 := by rw [flatF_length, isort_length, hm]
    have hfl0 : (flatF ys).length = m * 5 := by rw [flatF_length, hm]
    have h' := Sat.toSl (m := m) (cap := cap) (s := 5) h (by rw [List.length_append] at r1 ⊢; omega) r3 r4
    rw [List.take_left' hfl] at h'
    exact h'
end
structure FRow where
  A : Option Addr
  c : Nat
  l : List Fd
abbrev FRow.v (x : FRow) : Value := .slice x.A x.l.length x.c
def FRow.row (x : FRow) : Assn := SlA (.slice x.A x.l.length x.c) 167 5 x.l.length (flatF x.l)
def isOf (leb : Nat) (x : Fd) : Bool := x.whole && decide (x.hd.leb = (leb : Int))
def rowsF (lebs : Nat) (fs : List Fd) : List (List Fd) := (List.range lebs).map fun leb => fs.filter (isOf leb)
theorem rowsF_length (lebs : Nat) (fs : List Fd) : (rowsF lebs fs).length = lebs := by simp [rowsF]
theorem rowsF_add {lebs : Nat} {fs : List Fd} {x : Fd} {leb : Nat} (hl : leb < lebs) (hx : x.whole = true) (hxl : x.hd.leb = (leb : Int)) : rowsF lebs (fs ++ [x]) = (rowsF lebs fs).set leb (fs.filter (isOf leb) ++ [x]) := by
  apply List.ext_getElem
  · simp [rowsF]
  · intro i h1 h2
    rw [List.getElem_set]
    simp only [rowsF, List.getElem_map, List.getElem_range, List.filter_append]
    by_cases h : leb = i
    · subst h
      rw [if_pos rfl]
      congr 1
      rw [List.filter_cons, if_pos (by unfold isOf; rw [hx, hxl]; simp)]; rfl
    · rw [if_neg h, List.filter_cons, if_neg (by unfold isOf; rw [hx, hxl]; simp; omega)]
      simp
theorem rowsF_skip {lebs : Nat} {fs : List Fd} {x : Fd} (h : ∀ leb, leb < lebs → isOf leb x = false) : rowsF lebs (fs ++ [x]) = rowsF lebs fs := by
  unfold rowsF
  apply List.map_congr_left
  intro i hi
  rw [List.filter_append, List.filter_cons, if_neg (by rw [h i (List.mem_range.1 hi)]; decide)]
  simp
end Go.Proofs.YtohkefolnmcjnaaGreat
