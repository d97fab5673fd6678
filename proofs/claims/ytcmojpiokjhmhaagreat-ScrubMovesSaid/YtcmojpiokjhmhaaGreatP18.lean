import Derived.Test.YtcmojpiokjhmhaaGreatP17
namespace Go.Sl
open Go.RowKit
section
variable {Mo : Mode} {P : Program} {K : World} {n : Nat} {Q : Post} {e : Env} {H : List ak} {R : Env → Prop} {ty : TypeId} {pos : String} {af : Array Edge} {ops : Array Oper} {rest : List Oper}
theorem WQ.O1 {d j dj : Nat} {want : Bool} {oj : Oper} {f : FuncId} {y : Operand} {first captured : List Value} {xs : List Operand} {vs : List Value} {ats : Array TypeId} {v gv : Value} {c : Bool}
    (hj : ops[j]? = some oj) (hdj : oj.dst = some dj) (hl : look e dj = some gv) (hG : GC gv want c) (hf : dY P f) (hy : OV c e y (.func (.func f) first.toArray captured.toArray)) (hxs : Gp c e xs vs) (hF : c = true → aL P f (first ++ vs ++ captured).toArray K H v) (hd : Nat.blt d n = true)
    (h : WQ Mo P K n ops rest R ((d, cv c v) :: e) H) : WQ Mo P K n ops (⟨some d, .call ⟨.value y, xs.toArray, ats⟩, ty, pos, af, some (j, want)⟩ :: rest) R e H := fun a ha => by
  refine wpQuiet_step fun S hS => ?_
  rw [Region.iU (o := ⟨some d, .call ⟨.value y, xs.toArray, ats⟩, ty, pos, af, some (j, want)⟩) rfl hj hdj hl ha hG]
  cases c with
  | false => exact hS _ (h _ (ha.put d hd _))
  | true =>
    simp only [if_true]
    refine ⟨v, fun w hw => ?_, hS _ (h _ (ha.put d hd v))⟩
    unfold Oper.quietAt
    rw [vW hf (hy.ev rfl ha) (hxs.ev ha rfl)]
    exact ⟨rfl, (hF rfl).call hw⟩
theorem WQ.mg {d : Nat} {f : FuncId} {y : Operand} {first captured : List Value} {xs : List Operand} {vs : List Value} {ats : Array TypeId} {v : Value}
    (hf : dY P f) (hy : OV true e y (.func (.func f) first.toArray captured.toArray)) (hxs : Gp true e xs vs) (hF : aL P f (first ++ vs ++ captured).toArray K H v) (hd : Nat.blt d n = true)
    (h : WQ Mo P K n ops rest R ((d, v) :: e) H) : WQ Mo P K n ops (⟨some d, .call ⟨.value y, xs.toArray, ats⟩, ty, pos, af, none⟩ :: rest) R e H := fun a ha => by
  refine wpQuiet_step fun S hS => ?_
  simp only [Region.wanted, if_true]
  refine ⟨v, fun w hw => ?_, hS _ (h _ (ha.put d hd v))⟩
  unfold Oper.quietAt
  rw [vW hf (hy.ev rfl ha) (hxs.ev ha rfl)]
  exact ⟨rfl, hF.call hw⟩
end
theorem ET : ∀ (vs cs r : List Value) (o : Nat), o + vs.length ≤ cs.length → o9 (cs ++ r) o vs = o9 cs o vs ++ r
  | [], _, _, _, _ => rfl
  | v :: vs, cs, r, o, h => by
    rw [List.length_cons] at h
    show o9 ((cs ++ r).set o v) (o + 1) vs = o9 (cs.set o v) (o + 1) vs ++ r
    rw [List.set_append_left _ _ (by omega)]
    exact ET vs (cs.set o v) r (o + 1) (by rw [List.length_set]; omega)
end Go.Sl
namespace Go.Proofs.YtcmojpiokjhmhaaGreat
open Go.Sl Go.RowKit
set_option linter.unusedVariables false
set_option linter.unusedSimpArgs false
set_option maxRecDepth 20000
structure Fd where
  block : Int
  hd : Hd
  whole : Bool
  deriving DecidableEq
abbrev Fd.cells (x : Fd) : List Value := [.int .i64 x.block, .int .i64 x.hd.aB, .int .i64 x.hd.len, .int .i64 x.hd.num, .bool x.whole]
abbrev Fd.v (x : Fd) : Value := .agg #[.int .i64 x.block, .int .i64 x.hd.aB, .int .i64 x.hd.len, .int .i64 x.hd.num, .bool x.whole]
theorem Fd.len (x : Fd) : x.cells.length = 5 := rfl
def fd0 : Fd := ⟨0, ⟨0, 0, 0⟩, false⟩
abbrev bP (l : List Fd) : List Value := l.flatMap Fd.cells
theorem dN (l : List Fd) : (bP l).length = l.length * 5 := lY Fd.len l
theorem CJ {b T : Nat} {l : List Fd} {r : List Value} {j : Nat} {K : World} {H : List ak} (hj : j < l.length) : bD K (Cells b T (bP l ++ r) :: H) b (j * 5) (l.getD j fd0).cells := fun i v hi => by
  have hg : l[j]? = some (l.getD j fd0) := by simp [List.getD, hj]
  have h1 := flat_get (s := 5) Fd.len l j i _ v hg hi
  refine Rd.here ?_
  rw [List.getElem?_append_left (List.getElem?_eq_some_iff.1 h1).1]
  exact h1
theorem Ju {l : List Fd} {r : List Value} {j : Nat} (hj : j < l.length) (y : Fd) : o9 (bP l ++ r) (j * 5) y.cells = bP (l.set j y) ++ r := by
  have hg : l[j]? = some (l.getD j fd0) := by simp [List.getD, hj]
  rw [ET _ _ _ _ (by rw [dN, Fd.len]; omega), K9 (s := 5) Fd.len l j _ y hg]
theorem rH {b T j o : Nat} {l : List Fd} {r : List Value} {y : Fd} {K : World} {H : List ak} (hj : j < l.length) (ho : o = j * 5) : bA K (Cells b T (bP l ++ r) :: H) b o y.cells (Cells b T (bP (l.set j y) ++ r) :: H) :=
  bA.here (Nat.ble_eq_true_of_le (by rw [ho, List.length_append, dN, Fd.len]; omega)) (by rw [ho]; exact Ju hj y)
theorem wE (y : Fd) : y.cells.all (·.oneCell') = true := rfl
section
variable (lt : Fd → Fd → Bool)
def NV (ys : List Fd) : Nat → List Fd
  | 0 => ys
  | j + 1 => if lt (ys.getD (j + 1) fd0) (ys.getD j fd0) then NV ((ys.set (j + 1) (ys.getD j fd0)).set j (ys.getD (j + 1) fd0)) j else ys
def wX (ys : List Fd) : Nat → List Fd
  | 0 => ys
  | i + 1 => NV lt (wX ys i) i
def pF : List Fd → Fd → List Fd
  | [], x => [x]
  | y :: q, x => if lt x y then y :: pF q x else x :: y :: q
def dz (ys : List Fd) : List Fd := (ys.foldl (pF lt) []).reverse
end
section
variable {lt : Fd → Fd → Bool}
theorem zA : ∀ (j : Nat) (ys : List Fd), (NV lt ys j).length = ys.length
  | 0, _ => rfl
  | j + 1, ys => by
    rw [NV]; split
    · rw [zA j]; simp
    · rfl
theorem lV (ys : List Fd) : ∀ i, (wX lt ys i).length = ys.length
  | 0 => rfl
  | i + 1 => by rw [wX, zA, lV]
theorem IE : ∀ (q : List Fd) (x : Fd) (r : List Fd), NV lt (q.reverse ++ x :: r) q.length = (pF lt q x).reverse ++ r
  | [], x, r => rfl
  | y :: q, x, r => by
    rw [List.length_cons, NV, pF]
    have hq : q.reverse.length = q.length := List.length_reverse
    have e1 : ((y :: q).reverse ++ x :: r).getD (q.length + 1) fd0 = x := by
      rw [List.reverse_cons, List.append_assoc, List.getD, List.getElem?_append_right (by omega), hq]; simp
    have e2 : ((y :: q).reverse ++ x :: r).getD q.length fd0 = y := by
      rw [List.reverse_cons, List.append_assoc, List.getD, List.getElem?_append_right (by omega), hq]; simp
    rw [e1, e2]
    split
    · have e3 : (((y :: q).reverse ++ x :: r).set (q.length + 1) y).set q.length x = q.reverse ++ x :: (y :: r) := by
        rw [List.reverse_cons, List.append_assoc, List.set_append_right _ _ (by omega), List.set_append_right _ _ (by omega), hq]; simp
      rw [e3, IE q x (y :: r), List.reverse_cons, List.append_assoc]; rfl
    · rw [List.reverse_cons, List.reverse_cons]; simp
theorem FM (ys : List Fd) : ∀ i, i ≤ ys.length → wX lt ys i = ((ys.take i).foldl (pF lt) []).reverse ++ ys.drop i ∧ ((ys.take i).foldl (pF lt) []).length = i
  | 0, _ => ⟨by simp [wX], rfl⟩
  | i + 1, h => by
    obtain ⟨ih, il⟩ := FM ys i (by omega)
    have hlen : ∀ (q : List Fd) (x : Fd), (pF lt q x).length = q.length + 1 := fun q x => by
      induction q with
      | nil => rfl
      | cons y q ih => rw [pF]; split <;> simp [ih]
    have ht : ys.take (i + 1) = ys.take i ++ [ys[i]'(by omega)] := by rw [List.take_add_one, List.getElem?_eq_getElem (by omega)]; rfl
    have hd : ys.drop i = ys[i]'(by omega) :: ys.drop (i + 1) := List.drop_eq_getElem_cons (by omega)
    have hb := IE (lt := lt) ((ys.take i).foldl (pF lt) []) (ys[i]'(by omega)) (ys.drop (i + 1))
    rw [il, ← hd] at hb
    rw [wX, ih, hb, ht, List.foldl_append]
    exact ⟨rfl, by show (pF lt _ _).length = _; rw [hlen, il]⟩
theorem CV (ys : List Fd) : wX lt ys ys.length = dz lt ys := by
  rw [(FM ys ys.length (Nat.le_refl _)).1, List.take_length, List.drop_length, List.append_nil]; rfl
theorem fA (ys : List Fd) : (dz lt ys).length = ys.length := by rw [← CV, lV]
theorem wR : ∀ (q : List Fd) (x : Fd), List.Perm (pF lt q x) (x :: q)
  | [], x => List.Perm.refl _
  | y :: q, x => by
    rw [pF]; split
    · exact (List.Perm.cons y (wR q x)).trans (List.Perm.swap x y q)
    · exact List.Perm.refl _
theorem Au : ∀ (ys q : List Fd), List.Perm (ys.foldl (pF lt) q) (ys ++ q)
  | [], q => List.Perm.refl _
  | x :: ys, q => by
    rw [List.foldl_cons]
    refine (Au ys (pF lt q x)).trans ((List.Perm.append_left ys (wR q x)).trans ?_)
    exact List.perm_middle
theorem AJ (ys : List Fd) : List.Perm (dz lt ys) ys := by
  unfold dz
  refine (List.reverse_perm _).trans ?_
  have := Au (lt := lt) ys []
  rwa [List.append_nil] at this
theorem rE {ys : List Fd} {x : Fd} : x ∈ dz lt ys ↔ x ∈ ys := (AJ ys).mem_iff
theorem xA (htr : ∀ a b c, lt a b = false → lt b c = false → lt a c = false) (has : ∀ a b, lt a b = true → lt b a = false) : ∀ (q : List Fd) (x : Fd), q.Pairwise (fun a b => lt a b = false) → (pF lt q x).Pairwise (fun a b => lt a b = false)
  | [], x, _ => List.pairwise_singleton _ _
  | y :: q, x, h => by
    have hp := List.pairwise_cons.1 h
    rw [pF]
    by_cases hx : lt x y = true
    · rw [if_pos hx]
      refine List.pairwise_cons.2 ⟨fun z hz => ?_, xA htr has q x hp.2⟩
      rcases List.mem_cons.1 ((wR q x).mem_iff.1 hz) with rfl | hz
      · exact has _ _ hx
      · exact hp.1 z hz
    · rw [if_neg hx]
      have hx' : lt x y = false := by simpa using hx
      refine List.pairwise_cons.2 ⟨fun z hz => ?_, h⟩
      rcases List.mem_cons.1 hz with rfl | hz
      · exact hx'
      · exact htr _ _ _ hx' (hp.1 z hz)
theorem uW (htr : ∀ a b c, lt a b = false → lt b c = false → lt a c = false) (has : ∀ a b, lt a b = true → lt b a = false) : ∀ (ys q : List Fd), q.Pairwise (fun a b => lt a b = false) → (ys.foldl (pF lt) q).Pairwise (fun a b => lt a b = false)
  | [], _, h => h
  | x :: ys, q, h => uW htr has ys _ (xA htr has q x h)
theorem DZ (htr : ∀ a b c, lt a b = false → lt b c = false → lt a c = false) (has : ∀ a b, lt a b = true → lt b a = false) (ys : List Fd) : (dz lt ys).Pairwise (fun a b => lt b a = false) := by
  unfold dz
  rw [List.pairwise_reverse]
  exact uW htr has ys [] List.Pairwise.nil
end
def Bc (f : Nat) (c : Fd → Fd → Int) : Prop := dY Tryz.prog f ∧ ∀ (K : World) (F : List ak) (x y : Fd), aL Tryz.prog f #[x.v, y.v] K F (.int .i64 (c x y))
section
variable {K : World} {F : List ak}
theorem yE {f : Nat} {c : Fd → Fd → Int} (hf : Bc f c) {b m cap : Nat} {ys : List Fd} {r : List Value} (hm : ys.length = m) (hb : m ≤ 1000000) :
    Does Tryz.prog 144 #[.slice (some ⟨b, 0, none⟩) m cap, .int .i64 0, .int .i64 (m : Int), .func (.func f) #[] #[]] K (Cells b 139 (bP ys ++ r) :: F)
      (fun v H' => H' = Cells b 139 (bP (dz (fun x y => decide (c x y < 0)) ys) ++ r) :: F) := by
  obtain ⟨lt, hlt⟩ : ∃ lt : Fd → Fd → Bool, lt = fun x y => decide (c x y < 0) := ⟨_, rfl⟩
  rw [← hlt]
  refine Does.enter Tryz.func144 rfl Tryz.ntmps144 rfl ?_
  simp only [aI, Nat.reduceAdd]
  refine WC.sr (WL.mv rfl rfl (WL.ad rfl rfl rfl ?_))
  refine WL.sg rfl rfl (WL.nil (WC.block ?_))
  refine WC.loop (σ := Nat) (fun i => [(0, .slice (some ⟨b, 0, none⟩) m cap), (1, .int .i64 0), (2, .int .i64 (m : Int)), (3, .func (.func f) #[] #[]), (8, .int .i64 (i : Int))]) (fun i => Cells b 139 (bP (wX lt ys i) ++ r) :: F) (fun i => 1 ≤ i ∧ (i = 1 ∨ i ≤ m)) (fun i => m + 1 - i) 1 ⟨Nat.le_refl _, .inl rfl⟩ (.cons rfl (.cons rfl (.cons rfl (.cons rfl (.cons rfl (.nil _)))))) (fun w h => h) ?_
  rintro i ⟨hi1, him⟩
  refine WC.seq (WC.sr (WL.mv rfl rfl (WL.mv rfl rfl (WL.val (V.lss (OV.p rfl) (OV.p rfl)) rfl (WL.nil ?_)))))
  refine WC.cond rfl (fun hc0 => ?_) (fun hc0 => ?_)
  ·simp only [decide_eq_true_eq, decide_eq_false_iff_not] at hc0
   have hi2 : i < m := by omega
   refine WC.skip (WC.seq (WC.block (WC.sr (WL.mv rfl rfl (WL.sg rfl rfl (WL.nil (WC.block ?_)))))))
   refine WC.loop (σ := Nat × List Fd) (fun s => [(0, .slice (some ⟨b, 0, none⟩) m cap), (1, .int .i64 0), (2, .int .i64 (m : Int)), (3, .func (.func f) #[] #[]), (8, .int .i64 (i : Int)), (9, .int .i64 (s.1 : Int))]) (fun s => Cells b 139 (bP s.2 ++ r) :: F) (fun s => s.1 ≤ i ∧ s.2.length = m ∧ NV lt s.2 s.1 = wX lt ys (i + 1)) (fun s => s.1) (i, wX lt ys i) ⟨Nat.le_refl _, by rw [lV, hm], rfl⟩ (.cons rfl (.cons rfl (.cons rfl (.cons rfl (.cons rfl (.cons rfl (.nil _))))))) (fun w h => h) ?_
   rintro ⟨j, zs⟩ ⟨hji, hzl, hzb⟩
   dsimp only at hji hzl hzb ⊢
   obtain ⟨za, hza⟩ : ∃ za, za = zs.getD j fd0 := ⟨_, rfl⟩
   obtain ⟨zb, LA⟩ : ∃ zb, zb = zs.getD (j - 1) fd0 := ⟨_, rfl⟩
   have hja : bD K (Cells b 139 (bP zs ++ r) :: F) b (0 + (j : Int).toNat * 5) za.cells := by
     rw [show 0 + (j : Int).toNat * 5 = j * 5 by omega, hza]; exact CJ (by omega)
   have hjb : j ≠ 0 → bD K (Cells b 139 (bP zs ++ r) :: F) b (0 + ((j : Int) - 1).toNat * 5) zb.cells := fun h0 => by
     rw [show 0 + ((j : Int) - 1).toNat * 5 = (j - 1) * 5 by omega, LA]; exact CJ (by omega)
   refine WC.seq (WC.seq ?_)
   refine WC.eG (by kernel_rfl) (by kernel_rfl) ?_
   refine WQ.val (V.move (OV.p rfl)) rfl (WQ.val (V.move (OV.p rfl)) rfl (WQ.val (V.gtr (OV.p rfl) (OV.p rfl)) rfl (WQ.val (V.move (OV.p rfl)) rfl (WQ.av (oj := _) rfl rfl rfl GC.t (V.move (OV.p rfl)) rfl (WQ.av (oj := _) rfl rfl rfl GC.t (V.move (OV.p rfl)) rfl (WQ.av (oj := _) rfl rfl rfl GC.t (V.move (OV.p rfl)) rfl ?_))))))
   refine WQ.av (oj := _) rfl rfl rfl GC.t (V.bR lM (OV.g rfl id) (OV.g rfl id) (fun hc => by omega)) rfl ?_
   refine WQ.av (oj := _) rfl rfl rfl GC.t (V.bB (vs := za.cells) ⟨Tryz.isAgg139, Tryz.sizeOf139⟩ (OV.g rfl id) rfl (fun _ => hja)) rfl ?_
   refine WQ.av (oj := _) rfl rfl rfl GC.t (V.move (OV.p rfl)) rfl (WQ.av (oj := _) rfl rfl rfl GC.t (V.move (OV.p rfl)) rfl ?_)
   refine WQ.av (oj := _) rfl rfl rfl GC.t (V.tu (OV.g rfl id) (OV.p rfl) (fun hc => by first | omega | (simp at hc; omega))) rfl ?_
   refine WQ.av (oj := _) rfl rfl rfl GC.t (V.bR lM (OV.g rfl id) (OV.g rfl id) (fun hc => by simp at hc; omega)) rfl ?_
   refine WQ.av (oj := _) rfl rfl rfl GC.t (V.bB (vs := zb.cells) ⟨Tryz.isAgg139, Tryz.sizeOf139⟩ (OV.g rfl id) rfl (fun hc => hjb (by simp at hc; omega))) rfl ?_
   refine WQ.O1 (oj := _) (first := []) (vs := [_, _]) (captured := []) rfl rfl rfl GC.t hf.1 (OV.g rfl id) ⟨OV.g rfl id, OV.g rfl id, trivial⟩ (fun _ => hf.2 _ _ za zb) rfl ?_
   refine WQ.av (oj := _) rfl rfl rfl GC.t (V.lss (OV.g rfl id) (OV.p rfl)) rfl (WQ.val (V.aJ (OV.p rfl) (OV.g rfl id)) rfl (WQ.nil ?_))
   refine WC.cond rfl (fun hc1 => ?_) (fun hc1 => ?_)
   ·simp only [Bool.and_eq_true, Bool.and_eq_false_iff, decide_eq_true_eq, decide_eq_false_iff_not] at hc1
    have h1 := hc1
    obtain ⟨j', rfl⟩ : ∃ j', j = j' + 1 := ⟨j - 1, by omega⟩
    rw [Nat.add_sub_cancel] at LA
    have Pw : lt za zb = true := by rw [hlt]; exact decide_eq_true h1.2
    rw [NV, ← hza, ← LA, if_pos Pw] at hzb
    have hjb' := hjb (by omega)
    refine WC.skip (WC.seq (WC.block ?_))
    refine WC.dR F (by kernel_rfl) ?_
    refine WA.t 0 rfl (V.move (OV.p rfl)) (WA.t 1 rfl (V.move (OV.p rfl)) (WA.t 2 rfl (V.move (OV.p rfl)) (WA.t 3 rfl (V.move (OV.p rfl)) ?_)))
    refine WA.t 4 rfl (V.tu (OV.p rfl) (OV.p rfl) (fun hc => by first | omega | (simp at hc; omega))) ?_
    refine WA.t 5 rfl (V.move (OV.p rfl)) (WA.t 6 rfl (V.move (OV.p rfl)) ?_)
    refine WA.t 7 rfl (V.tu (OV.p rfl) (OV.p rfl) (fun hc => by first | omega | (simp at hc; omega))) ?_
    refine WA.t 8 rfl (V.bR lM (OV.p rfl) (OV.p rfl) (fun hc => by omega)) ?_
    refine WA.t 10 rfl (V.move (OV.p rfl)) (WA.t 11 rfl (V.move (OV.p rfl)) ?_)
    refine WA.t 12 rfl (V.bR lM (OV.p rfl) (OV.p rfl) (fun hc => by omega)) ?_
    refine WA.two (i := 9) (j := 13) (fun w h => by repeat (first | exact h | replace h := h.tail)) (by kernel_rfl) rfl rfl ?_ ?_
    ·refine WL.val (V.bB (vs := zb.cells) ⟨Tryz.isAgg139, Tryz.sizeOf139⟩ (OV.p rfl) rfl (fun _ => hjb')) rfl ?_
     refine WL.nil (WA.o 13 rfl ?_)
     refine WL.val (V.bB (vs := za.cells) ⟨Tryz.isAgg139, Tryz.sizeOf139⟩ (OV.p rfl) rfl (fun _ => hja)) rfl ?_
     refine WL.nil ?_
     refine WA.t 14 rfl (V.bR lM (OV.p rfl) (OV.p rfl) (fun hc => by omega)) ?_
     refine WA.o 15 rfl ?_
     refine WL.store (cs := zb.cells) Tryz.sizeOf139 (OV.p rfl) (OV.p rfl) rfl rfl rfl (rH (j := j' + 1) (y := zb) (by omega) (by omega)) ?_
     refine WL.nil ?_
     refine WA.t 16 rfl (V.bR lM (OV.p rfl) (OV.p rfl) (fun hc => by omega)) ?_
     refine WA.o 17 rfl ?_
     refine WL.store (cs := za.cells) Tryz.sizeOf139 (OV.p rfl) (OV.p rfl) rfl rfl rfl (rH (j := j') (y := za) (by rw [List.length_set]; omega) (by omega)) ?_
     refine WL.nil (WA.fin (WC.region (WL.mv rfl rfl (WL.sb rfl rfl rfl ?_))))
     refine WL.sg rfl rfl (WL.nil ?_)
     refine ⟨rfl, ?_⟩
     exact ⟨(j', (zs.set (j' + 1) zb).set j' za), ⟨by show j' ≤ i; omega, by show ((zs.set _ _).set _ _).length = m; simp [hzl], hzb⟩, Nat.lt_succ_self _, .cons rfl (.cons rfl (.cons rfl (.cons rfl (.cons rfl (.cons (look_eq rfl (by simp)) (.nil _)))))), fun w h => h⟩
    ·refine WL.val (V.bB (vs := za.cells) ⟨Tryz.isAgg139, Tryz.sizeOf139⟩ (OV.p rfl) rfl (fun _ => hja)) rfl ?_
     refine WL.nil (WA.o 9 rfl ?_)
     refine WL.val (V.bB (vs := zb.cells) ⟨Tryz.isAgg139, Tryz.sizeOf139⟩ (OV.p rfl) rfl (fun _ => hjb')) rfl ?_
     refine WL.nil ?_
     refine WA.t 14 rfl (V.bR lM (OV.p rfl) (OV.p rfl) (fun hc => by omega)) ?_
     refine WA.o 15 rfl ?_
     refine WL.store (cs := zb.cells) Tryz.sizeOf139 (OV.p rfl) (OV.p rfl) rfl rfl rfl (rH (j := j' + 1) (y := zb) (by omega) (by omega)) ?_
     refine WL.nil ?_
     refine WA.t 16 rfl (V.bR lM (OV.p rfl) (OV.p rfl) (fun hc => by omega)) ?_
     refine WA.o 17 rfl ?_
     refine WL.store (cs := za.cells) Tryz.sizeOf139 (OV.p rfl) (OV.p rfl) rfl rfl rfl (rH (j := j') (y := za) (by rw [List.length_set]; omega) (by omega)) ?_
     refine WL.nil (WA.fin (WC.region (WL.mv rfl rfl (WL.sb rfl rfl rfl ?_))))
     refine WL.sg rfl rfl (WL.nil ?_)
     refine ⟨rfl, ?_⟩
     exact ⟨(j', (zs.set (j' + 1) zb).set j' za), ⟨by show j' ≤ i; omega, by show ((zs.set _ _).set _ _).length = m; simp [hzl], hzb⟩, Nat.lt_succ_self _, .cons rfl (.cons rfl (.cons rfl (.cons rfl (.cons rfl (.cons (look_eq rfl (by simp)) (.nil _)))))), fun w h => h⟩
   ·simp only [Bool.and_eq_true, Bool.and_eq_false_iff, decide_eq_true_eq, decide_eq_false_iff_not] at hc1
    have h1 := hc1
    have hdone : wX lt ys (i + 1) = zs := by
      rw [← hzb]
      cases j with
      | zero => rfl
      | succ j' =>
        rw [Nat.add_sub_cancel] at LA
        have Pw : lt za zb = false := by
          rw [hlt]
          rcases h1 with h | h
          · omega
          · exact decide_eq_false h
        rw [NV, ← hza, ← LA, if_neg (by rw [Pw]; decide)]
    refine WC.exit (WC.region (WL.mv rfl rfl (WL.ad rfl rfl rfl ?_)))
    refine WL.sg rfl rfl (WL.nil ?_)
    refine ⟨rfl, ?_⟩
    exact ⟨i + 1, ⟨by show 1 ≤ i + 1; omega, .inr hi2⟩, (by show m + 1 - (i + 1) < m + 1 - i; omega), .cons rfl (.cons rfl (.cons rfl (.cons rfl (.cons (look_eq rfl (by simp)) (.nil _))))), fun w h => Sat.aV h (by rw [hdone])⟩
  ·simp only [decide_eq_true_eq, decide_eq_false_iff_not] at hc0
   refine WC.exit ?_
   have hfin : wX lt ys i = dz lt ys := by
     rw [← CV, hm]
     rcases Nat.eq_zero_or_pos m with h0 | h0
     · have : ys = [] := List.eq_nil_of_length_eq_zero (by omega)
       subst this
       have key : ∀ k, wX lt [] k = [] := fun k => List.eq_nil_of_length_eq_zero (by rw [lV]; rfl)
       rw [key, key]
     · obtain rfl : i = m := by omega
       rfl
   exact au.normal (H' := Cells b _ _ :: F) (aO.none rfl) (fun w h => Sat.aV h (by rw [hfin])) rfl
end
def ug (x y : Int) : Int := if x < y then -1 else if y < x then 1 else 0
def Nh (a b : Int) : Int := if a ≠ 0 then a else b
def lS (x y : Fd) : Int := Nh (ug x.hd.num y.hd.num) (ug y.block x.block)
def Lx (x y : Fd) : Int := Nh (ug x.hd.num y.hd.num) (ug x.block y.block)
def yt (x y : Fd) : Int := ug x.hd.num y.hd.num
section
variable {K : World} {F : List ak}
theorem Ct (x : Int) : aL Tryz.prog 134 #[.int .i64 x] K F (.bool false) := by
  refine Does.enter Tryz.func134 rfl Tryz.ntmps134 rfl ?_
  simp only [aI, Nat.reduceAdd]
  refine WC.sr (WL.sg rfl rfl (WL.nil (WC.sr (WL.mv rfl rfl (WL.mv rfl rfl (WL.val (V.neq (OV.p rfl) (OV.p rfl)) rfl (WL.sg rfl rfl (WL.nil (WC.ret ?_)))))))))
  exact au.ret (H' := F) (aO.tmp rfl rfl) (fun w h => h) ⟨by simp, rfl⟩
theorem jS (x y : Int) : aL Tryz.prog 104 #[.int .i64 x, .int .i64 y] K F (.int .i64 (ug x y)) := by
  refine Does.enter Tryz.func104 rfl Tryz.ntmps104 rfl ?_
  simp only [aI, Nat.reduceAdd]
  refine WC.sr (WL.sg rfl rfl (WL.nil (WC.sr (WL.mv rfl rfl (WL.call (vs := [_]) Tryz.call134 ⟨OV.p rfl, trivial⟩ (Ct _) rfl ?_)))))
  rintro _ H0 ⟨rfl, h0⟩
  subst H0
  refine WL.sg rfl rfl (WL.nil (WC.sr (WL.mv rfl rfl (WL.call (vs := [_]) Tryz.call134 ⟨OV.p rfl, trivial⟩ (Ct _) rfl ?_))))
  rintro _ H0 ⟨rfl, h0⟩
  subst H0
  refine WL.sg rfl rfl (WL.nil (WC.seq (WC.sr (WL.mv rfl rfl (WL.nil ?_)))))
  refine WC.aQ rfl (by first | rfl | (simp; done) | (simp; omega)) ?_
  refine WC.skip (WC.seq (WC.sr (WL.mv rfl rfl (WL.nil ?_))))
  refine WC.aQ rfl (by first | rfl | (simp; done) | (simp; omega)) ?_
  refine WC.skip (WC.seq (WC.sr (WL.mv rfl rfl (WL.mv rfl rfl (WL.val (V.lss (OV.p rfl) (OV.p rfl)) rfl (WL.nil ?_))))))
  refine WC.cond rfl (fun hc3 => ?_) (fun hc3 => ?_)
  ·simp only [decide_eq_true_eq, decide_eq_false_iff_not] at hc3
   have h3 := hc3
   refine WC.sr (WL.sg rfl rfl (WL.nil (WC.ret ?_)))
   exact au.ret (H' := F) (aO.tmp rfl rfl) (fun w h => h) ⟨by unfold ug; rw [if_pos h3], rfl⟩
  ·simp only [decide_eq_true_eq, decide_eq_false_iff_not] at hc3
   have h3 := hc3
   refine WC.skip (WC.seq (WC.sr (WL.mv rfl rfl (WL.mv rfl rfl (WL.val (V.gtr (OV.p rfl) (OV.p rfl)) rfl (WL.nil ?_))))))
   refine WC.cond rfl (fun hc4 => ?_) (fun hc4 => ?_)
   ·simp only [decide_eq_true_eq, decide_eq_false_iff_not] at hc4
    have h4 := hc4
    refine WC.sr (WL.sg rfl rfl (WL.nil (WC.ret ?_)))
    exact au.ret (H' := F) (aO.tmp rfl rfl) (fun w h => h) ⟨by unfold ug; rw [if_neg h3, if_pos (by omega)], rfl⟩
   ·simp only [decide_eq_true_eq, decide_eq_false_iff_not] at hc4
    have h4 := hc4
    refine WC.skip (WC.sr (WL.sg rfl rfl (WL.nil (WC.ret ?_))))
    exact au.ret (H' := F) (aO.tmp rfl rfl) (fun w h => h) ⟨by unfold ug; rw [if_neg h3, if_neg (by omega)], rfl⟩
theorem IJ {B : Option Addr} {cap : Nat} {x y : Int} (hq : Seq K F B 2 1 [.int .i64 x, .int .i64 y]) : aL Tryz.prog 107 #[.slice B 2 cap] K F (.int .i64 (Nh x y)) := by
  have rd : ∀ (i : Nat) v, [Value.int .i64 x, .int .i64 y][i]? = some v → Rd K F (B.map (·.add (i * 1))) v := fun i v hi => by rw [Nat.mul_one]; exact hq.rd i v hi
  refine Does.enter Tryz.func107 rfl Tryz.ntmps107 rfl ?_
  simp only [aI, Nat.reduceAdd]
  refine WC.sr (WL.sg rfl rfl (WL.nil (WC.sr (WL.sg rfl rfl (WL.nil (WC.seq (WC.sr (WL.mv rfl rfl (WL.val (V.len (t := 24) Tryz.runUnderlying24 (OV.p rfl)) rfl (WL.mv rfl rfl (WL.nil (WC.block (WC.rounds 3 (WC.sr (WL.val (V.lss (OV.p rfl) (OV.p rfl)) rfl (WL.nil (WC.seq ?_)))))))))))))))))
  refine WC.dV rfl (by first | rfl | (simp; done) | (simp; omega)) ?_
  refine WC.skip (WC.seq (WC.block (WC.sr ?_)))
  refine WL.val (V.dS bZ (OV.p rfl) (OV.p rfl) (fun _ => by decide) (fun _ => by first | exact rd 0 _ rfl | exact rd 1 _ rfl)) rfl ?_
  refine WL.val (V.load Tryz.isAgg3 (OV.p rfl) (fun _ => by first | exact rd 0 _ rfl | exact rd 1 _ rfl)) rfl ?_
  refine WL.sg rfl rfl (WL.nil (WC.sr (WL.mv rfl rfl (WL.mv rfl rfl (WL.val (V.neq (OV.p rfl) (OV.p rfl)) rfl (WL.nil ?_))))))
  refine WC.cond rfl (fun hc1 => ?_) (fun hc1 => ?_)
  ·simp only [Bool.not_eq_true', Bool.not_eq_false', decide_eq_true_eq, decide_eq_false_iff_not] at hc1
   have h1 := hc1
   refine WC.sr (WL.mv rfl rfl (WL.sg rfl rfl (WL.nil (WC.ret ?_))))
   first
   | exact au.ret (H' := F) (aO.tmp rfl rfl) (fun w h => h) ⟨by unfold Nh; rw [if_pos h1], rfl⟩
   | (refine au.ret (H' := F) (aO.tmp rfl rfl) (fun w h => h) ⟨?_, rfl⟩
      unfold Nh
      rw [if_neg (by omega)])
  ·simp only [Bool.not_eq_true', Bool.not_eq_false', decide_eq_true_eq, decide_eq_false_iff_not] at hc1
   have h1 := hc1
   refine WC.skip (WC.region ?_)
   refine WL.val (V.aC (v' := .int .i64 (1)) (V.add (OV.p rfl) (OV.p rfl)) (fun _ => rfl)) rfl ?_
   refine WL.mv rfl rfl (WL.nil (WC.sr (WL.val (V.lss (OV.p rfl) (OV.p rfl)) rfl (WL.nil (WC.seq ?_)))))
   refine WC.dV rfl (by first | rfl | (simp; done) | (simp; omega)) ?_
   refine WC.skip (WC.seq (WC.block (WC.sr ?_)))
   refine WL.val (V.dS bZ (OV.p rfl) (OV.p rfl) (fun _ => by decide) (fun _ => by first | exact rd 0 _ rfl | exact rd 1 _ rfl)) rfl ?_
   refine WL.val (V.load Tryz.isAgg3 (OV.p rfl) (fun _ => by first | exact rd 0 _ rfl | exact rd 1 _ rfl)) rfl ?_
   refine WL.sg rfl rfl (WL.nil (WC.sr (WL.mv rfl rfl (WL.mv rfl rfl (WL.val (V.neq (OV.p rfl) (OV.p rfl)) rfl (WL.nil ?_))))))
   refine WC.cond rfl (fun hc1' => ?_) (fun hc1' => ?_)
   ·simp only [Bool.not_eq_true', Bool.not_eq_false', decide_eq_true_eq, decide_eq_false_iff_not] at hc1'
    have h1 := hc1'
    refine WC.sr (WL.mv rfl rfl (WL.sg rfl rfl (WL.nil (WC.ret ?_))))
    first
    | exact au.ret (H' := F) (aO.tmp rfl rfl) (fun w h => h) ⟨by unfold Nh; rw [if_pos h1], rfl⟩
    | (refine au.ret (H' := F) (aO.tmp rfl rfl) (fun w h => h) ⟨?_, rfl⟩
       unfold Nh
       rw [if_neg (by omega)])
   ·simp only [Bool.not_eq_true', Bool.not_eq_false', decide_eq_true_eq, decide_eq_false_iff_not] at hc1'
    have h1 := hc1'
    refine WC.skip (WC.region ?_)
    refine WL.val (V.aC (v' := .int .i64 (2)) (V.add (OV.p rfl) (OV.p rfl)) (fun _ => rfl)) rfl ?_
    refine WL.mv rfl rfl (WL.nil (WC.sr (WL.val (V.lss (OV.p rfl) (OV.p rfl)) rfl (WL.nil (WC.seq ?_)))))
    refine WC.aQ rfl (by first | rfl | (simp; done) | (simp; omega)) ?_
    refine WC.exit (WC.sr (WL.mv rfl rfl (WL.sg rfl rfl (WL.nil (WC.ret ?_)))))
    refine au.ret (H' := F) (aO.tmp rfl rfl) (fun w h => h) ⟨?_, rfl⟩
    unfold Nh
    rw [if_neg (by omega)]
    congr 1; omega
theorem xE : Bc 101 lS := ⟨Tryz.call101, fun K F x y => by
  refine Does.enter Tryz.func101 rfl Tryz.ntmps101 rfl ?_
  simp only [aI, Nat.reduceAdd]
  refine WC.sr ?_
  refine WL.box (cs := [_, _, _, _, _]) (OV.p rfl) rfl rfl (fun b2 => ?_)
  refine WL.box (cs := [_, _, _, _, _]) (OV.p rfl) rfl rfl (fun b3 => ?_)
  refine WL.sg rfl rfl (WL.nil (WC.seq ?_))
  refine WC.Ea (by kernel_rfl) ?_
  refine WA.t 0 rfl (V.fieldAddr mI (OV.p rfl)) (WA.t 1 rfl (V.fieldAddr jK (OV.p rfl)) ?_)
  refine WA.t 2 rfl (V.load Tryz.isAgg3 (OV.p rfl) (fun _ => by repeat (first | exact Rd.here rfl | apply Rd.up))) ?_
  refine WA.t 3 rfl (V.fieldAddr mI (OV.p rfl)) (WA.t 4 rfl (V.fieldAddr jK (OV.p rfl)) ?_)
  refine WA.t 5 rfl (V.load Tryz.isAgg3 (OV.p rfl) (fun _ => by repeat (first | exact Rd.here rfl | apply Rd.up))) ?_
  refine WA.t 7 rfl (V.fieldAddr q9 (OV.p rfl)) ?_
  refine WA.t 8 rfl (V.load Tryz.isAgg3 (OV.p rfl) (fun _ => by repeat (first | exact Rd.here rfl | apply Rd.up))) ?_
  refine WA.t 9 rfl (V.fieldAddr q9 (OV.p rfl)) ?_
  refine WA.t 10 rfl (V.load Tryz.isAgg3 (OV.p rfl) (fun _ => by repeat (first | exact Rd.here rfl | apply Rd.up))) ?_
  refine WA.o 6 rfl (WL.call (vs := [_, _]) Tryz.call104 ⟨OV.p rfl, OV.p rfl, trivial⟩ (jS _ _) rfl ?_)
  rintro _ H0 ⟨rfl, h0⟩
  subst H0
  refine WL.nil (WA.o 11 rfl (WL.call (vs := [_, _]) Tryz.call104 ⟨OV.p rfl, OV.p rfl, trivial⟩ (jS _ _) rfl ?_))
  rintro _ H0 ⟨rfl, h0⟩
  subst H0
  refine WL.nil (WA.o 12 rfl ?_)
  refine WL.buildSlice (E := 3) (cs := [_, _]) (vs := [(0, _), (1, _)]) ⟨OV.p rfl, OV.p rfl, trivial⟩ rfl (qL _ _) rfl (fun b17 => ?_)
  refine WL.nil (WA.o 13 rfl (WL.call (vs := [_]) Tryz.call107 ⟨OV.p rfl, trivial⟩ (IJ (Seq.all rfl)) rfl ?_))
  rintro _ H0 ⟨rfl, h0⟩
  subst H0
  refine WL.nil (WA.t 14 rfl (V.assign (OV.p rfl)) (WA.fin (WC.ret ?_)))
  exact au.ret (H' := F) (aO.tmp rfl rfl) (fun w h => h.drop 3) ⟨rfl, rfl⟩
  ⟩
theorem J4 : Bc 106 Lx := ⟨Tryz.call106, fun K F x y => by
  refine Does.enter Tryz.func106 rfl Tryz.ntmps106 rfl ?_
  simp only [aI, Nat.reduceAdd]
  refine WC.sr ?_
  refine WL.box (cs := [_, _, _, _, _]) (OV.p rfl) rfl rfl (fun b2 => ?_)
  refine WL.box (cs := [_, _, _, _, _]) (OV.p rfl) rfl rfl (fun b3 => ?_)
  refine WL.sg rfl rfl (WL.nil (WC.seq ?_))
  refine WC.Ea (by kernel_rfl) ?_
  refine WA.t 0 rfl (V.fieldAddr mI (OV.p rfl)) (WA.t 1 rfl (V.fieldAddr jK (OV.p rfl)) ?_)
  refine WA.t 2 rfl (V.load Tryz.isAgg3 (OV.p rfl) (fun _ => by repeat (first | exact Rd.here rfl | apply Rd.up))) ?_
  refine WA.t 3 rfl (V.fieldAddr mI (OV.p rfl)) (WA.t 4 rfl (V.fieldAddr jK (OV.p rfl)) ?_)
  refine WA.t 5 rfl (V.load Tryz.isAgg3 (OV.p rfl) (fun _ => by repeat (first | exact Rd.here rfl | apply Rd.up))) ?_
  refine WA.t 7 rfl (V.fieldAddr q9 (OV.p rfl)) ?_
  refine WA.t 8 rfl (V.load Tryz.isAgg3 (OV.p rfl) (fun _ => by repeat (first | exact Rd.here rfl | apply Rd.up))) ?_
  refine WA.t 9 rfl (V.fieldAddr q9 (OV.p rfl)) ?_
  refine WA.t 10 rfl (V.load Tryz.isAgg3 (OV.p rfl) (fun _ => by repeat (first | exact Rd.here rfl | apply Rd.up))) ?_
  refine WA.o 6 rfl (WL.call (vs := [_, _]) Tryz.call104 ⟨OV.p rfl, OV.p rfl, trivial⟩ (jS _ _) rfl ?_)
  rintro _ H0 ⟨rfl, h0⟩
  subst H0
  refine WL.nil (WA.o 11 rfl (WL.call (vs := [_, _]) Tryz.call104 ⟨OV.p rfl, OV.p rfl, trivial⟩ (jS _ _) rfl ?_))
  rintro _ H0 ⟨rfl, h0⟩
  subst H0
  refine WL.nil (WA.o 12 rfl ?_)
  refine WL.buildSlice (E := 3) (cs := [_, _]) (vs := [(0, _), (1, _)]) ⟨OV.p rfl, OV.p rfl, trivial⟩ rfl (qL _ _) rfl (fun b17 => ?_)
  refine WL.nil (WA.o 13 rfl (WL.call (vs := [_]) Tryz.call107 ⟨OV.p rfl, trivial⟩ (IJ (Seq.all rfl)) rfl ?_))
  rintro _ H0 ⟨rfl, h0⟩
  subst H0
  refine WL.nil (WA.t 14 rfl (V.assign (OV.p rfl)) (WA.fin (WC.ret ?_)))
  exact au.ret (H' := F) (aO.tmp rfl rfl) (fun w h => h.drop 3) ⟨rfl, rfl⟩
  ⟩
theorem KI : Bc 103 yt := ⟨Tryz.call103, fun K F x y => by
  refine Does.enter Tryz.func103 rfl Tryz.ntmps103 rfl ?_
  simp only [aI, Nat.reduceAdd]
  refine WC.sr ?_
  refine WL.box (cs := [_, _, _, _, _]) (OV.p rfl) rfl rfl (fun b2 => ?_)
  refine WL.box (cs := [_, _, _, _, _]) (OV.p rfl) rfl rfl (fun b3 => ?_)
  refine WL.sg rfl rfl (WL.nil (WC.sr (WL.val (V.fieldAddr mI (OV.p rfl)) rfl (WL.val (V.fieldAddr jK (OV.p rfl)) rfl (WL.ld Tryz.isAgg3 rfl rfl ?_)))))
  refine WL.val (V.fieldAddr mI (OV.p rfl)) rfl (WL.val (V.fieldAddr jK (OV.p rfl)) rfl (WL.ld Tryz.isAgg3 rfl rfl ?_))
  refine WL.call (vs := [_, _]) Tryz.call104 ⟨OV.p rfl, OV.p rfl, trivial⟩ (jS _ _) rfl ?_
  rintro _ H0 ⟨rfl, h0⟩
  subst H0
  refine WL.sg rfl rfl (WL.nil (WC.ret ?_))
  exact au.ret (H' := F) (aO.tmp rfl rfl) (fun w h => h.drop 2) ⟨rfl, rfl⟩
  ⟩
abbrev ltOf (c : Fd → Fd → Int) : Fd → Fd → Bool := fun x y => decide (c x y < 0)
theorem BK {f : Nat} : Does Tryz.prog 144 #[.slice none 0 0, .int .i64 0, .int .i64 0, .func (.func f) #[] #[]] K F (fun v H' => H' = F) := by
  refine Does.enter Tryz.func144 rfl Tryz.ntmps144 rfl ?_
  simp only [aI, Nat.reduceAdd]
  refine WC.sr (WL.mv rfl rfl (WL.ad rfl rfl rfl ?_))
  refine WL.sg rfl rfl (WL.nil (WC.block (WC.rounds 1 (WC.seq (WC.sr (WL.mv rfl rfl (WL.mv rfl rfl (WL.val (V.lss (OV.p rfl) (OV.p rfl)) rfl (WL.nil ?_)))))))))
  refine WC.aQ rfl (by first | rfl | (simp; done) | (simp; omega)) ?_
  refine WC.exit ?_
  exact au.normal (H' := F) (aO.none rfl) (fun w h => h) rfl
theorem vP {f m : Nat} {S : Value} {H2 : List ak} (hins : Does Tryz.prog 144 #[S, .int .i64 0, .int .i64 (m : Int), .func (.func f) #[] #[]] K F (fun v H' => H' = H2)) (hm : m < 20) :
    Does Tryz.prog 135 #[S, .int .i64 (m : Int), .func (.func f) #[] #[]] K F (fun v H' => H' = H2) := by
  refine Does.enter Tryz.func135 rfl Tryz.ntmps135 rfl ?_
  simp only [aI, Nat.reduceAdd]
  refine WC.sr (WL.sg rfl rfl (WL.nil (WC.sr (WL.mv rfl rfl (WL.sg rfl rfl (WL.sg rfl rfl (WL.nil (WC.seq (WC.block (WC.rounds 1 (WC.seq (WC.sr (WL.mv rfl rfl (WL.mv rfl rfl (WL.val (V.leq (OV.p rfl) (OV.p rfl)) rfl (WL.nil ?_))))))))))))))))
  refine WC.aQ rfl (by first | rfl | (simp; done) | (simp; omega)) ?_
  refine WC.exit (WC.sr (WL.mv rfl rfl (WL.mv rfl rfl (WL.mv rfl rfl (WL.mv rfl rfl (WL.call (vs := [_, _, _, _]) Tryz.call144 ⟨OV.p rfl, OV.p rfl, OV.p rfl, OV.p rfl, trivial⟩ (hins) rfl ?_))))))
  rintro v H0 h0
  subst h0
  refine WL.nil (WC.block (WC.rounds 1 (WC.seq (WC.sr (WL.mv rfl rfl (WL.mv rfl rfl (WL.val (V.lss (OV.p rfl) (OV.p rfl)) rfl (WL.nil ?_))))))))
  refine WC.aQ rfl (by first | rfl | (simp; done) | (simp; omega)) ?_
  refine WC.exit ?_
  exact au.normal (H' := H0) (aO.none rfl) (fun w h => h) rfl
theorem A8 {f : Nat} {c : Fd → Fd → Int} (hf : Bc f c) {A : Option Addr} {m cap : Nat} {ys : List Fd} (hm : ys.length = m) (h20 : m < 20) :
    Does Tryz.prog 105 #[.slice A m cap, .func (.func f) #[] #[]] K (aU (.slice A m cap) 139 5 m (bP ys) :: F)
      (fun v H' => ∀ w, Sat K w H' → Sat K w (aU (.slice A m cap) 139 5 m (bP (dz (ltOf c) ys)) :: F)) := by
  cases A with
  | none =>
    refine Does.have_ (p := m = 0 ∧ cap = 0) (fun w hw => ⟨(aU.sM hw).1, (aU.sM hw).2.1⟩) (fun h0 => ?_)
    obtain ⟨h1, h2⟩ := h0
    subst h2
    have hy : ys = [] := List.eq_nil_of_length_eq_zero (by omega)
    subst hy
    obtain rfl : m = 0 := by omega
    have hst := vP (K := K) (F := aU (.slice none 0 0) 139 5 0 (bP []) :: F) (f := f) (m := 0) (S := .slice none 0 0) BK (by decide)
    refine Does.enter Tryz.func105 rfl Tryz.ntmps105 rfl ?_
    simp only [aI, Nat.reduceAdd]
    refine WC.region (WL.mv rfl rfl (WL.mv rfl rfl (WL.val (V.len (t := 111) Tryz.runUnderlying111 (OV.p rfl)) rfl (WL.mv rfl rfl (WL.call (vs := [_, _, _]) Tryz.call135 ⟨OV.p rfl, OV.p rfl, OV.p rfl, trivial⟩ (hst) rfl ?_)))))
    rintro v H0 h0
    subst h0
    refine WL.nil ?_
    exact au.normal (H' := aU (.slice none 0 0) 139 5 0 (bP []) :: F) (aO.none rfl) (fun w h => h) (fun w h => h)
  | some a =>
    refine Does.have_ (p := ∃ g, a = ⟨g, 0, none⟩) (fun w hw => aU.addr hw) (fun ⟨g, hg⟩ => ?_)
    subst hg
    refine Does.ex (fun w hw => Sat.kH hw) (fun r hr => ?_)
    obtain ⟨r1, r2, r3, r4⟩ := hr
    have hst := vP (yE (K := K) (F := F) hf (b := g) (m := m) (cap := cap) (ys := ys) (r := r) hm (by omega)) h20
    refine Does.enter Tryz.func105 rfl Tryz.ntmps105 rfl ?_
    simp only [aI, Nat.reduceAdd]
    refine WC.region (WL.mv rfl rfl (WL.mv rfl rfl (WL.val (V.len (t := 111) Tryz.runUnderlying111 (OV.p rfl)) rfl (WL.mv rfl rfl (WL.call (vs := [_, _, _]) Tryz.call135 ⟨OV.p rfl, OV.p rfl, OV.p rfl, trivial⟩ (hst) rfl ?_)))))
    rintro v H0 h0
    subst h0
    refine WL.nil ?_
    refine au.normal (H' := Cells g 139 (bP (dz (ltOf c) ys) ++ r) :: F) (aO.none rfl) (fun w h => h) (fun w h => ?_)
    have hfl : (bP (dz (ltOf c) ys)).length = m * 5 := by rw [dN, fA, hm]
    have UJ : (bP ys).length = m * 5 := by rw [dN, hm]
    have h' := Sat.Dq (m := m) (cap := cap) (s := 5) h (by rw [List.length_append] at r1 ⊢; omega) r3 r4
    rw [List.take_left' hfl] at h'
    exact h'
end
structure bq where
  A : Option Addr
  c : Nat
  l : List Fd
abbrev bq.v (x : bq) : Value := .slice x.A x.l.length x.c
def bq.row (x : bq) : ak := aU (.slice x.A x.l.length x.c) 139 5 x.l.length (bP x.l)
def jW (aB : Nat) (x : Fd) : Bool := x.whole && decide (x.hd.aB = (aB : Int))
def gF (aj : Nat) (fs : List Fd) : List (List Fd) := (List.range aj).map fun aB => fs.filter (jW aB)
theorem vH (aj : Nat) (fs : List Fd) : (gF aj fs).length = aj := by simp [gF]
theorem wW {aj : Nat} {fs : List Fd} {x : Fd} {aB : Nat} (hl : aB < aj) (hx : x.whole = true) (hxl : x.hd.aB = (aB : Int)) : gF aj (fs ++ [x]) = (gF aj fs).set aB (fs.filter (jW aB) ++ [x]) := by
  apply List.ext_getElem
  · simp [gF]
  · intro i h1 h2
    rw [List.getElem_set]
    simp only [gF, List.getElem_map, List.getElem_range, List.filter_append]
    by_cases h : aB = i
    · subst h
      rw [if_pos rfl]
      congr 1
      rw [List.filter_cons, if_pos (by unfold jW; rw [hx, hxl]; simp)]; rfl
    · rw [if_neg h, List.filter_cons, if_neg (by unfold jW; rw [hx, hxl]; simp; omega)]
      simp
theorem uf {aj : Nat} {fs : List Fd} {x : Fd} (h : ∀ aB, aB < aj → jW aB x = false) : gF aj (fs ++ [x]) = gF aj fs := by
  unfold gF
  apply List.map_congr_left
  intro i hi
  rw [List.filter_append, List.filter_cons, if_neg (by rw [h i (List.mem_range.1 hi)]; decide)]
  simp
end Go.Proofs.YtcmojpiokjhmhaaGreat
