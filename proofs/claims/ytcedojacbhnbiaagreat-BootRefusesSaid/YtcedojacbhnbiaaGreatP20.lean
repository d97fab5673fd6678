import Derived.Test.YtcedojacbhnbiaaGreatP8
import Derived.Test.YtcedojacbhnbiaaGreatP19
namespace Go.Sl
open Go.RowKit Go.BigFrame
set_option linter.unusedVariables false
set_option linter.unusedSimpArgs false
theorem uO {α : Type} : ∀ (l : List α) (k : Nat) (hk : k < l.length), List.Perm (l[k] :: l.eraseIdx k) l
  | [], k, hk => absurd hk (Nat.not_lt_zero _)
  | a :: l, 0, _ => List.Perm.refl _
  | a :: l, k + 1, hk => (List.Perm.swap _ _ _).trans ((uO l k (Nat.lt_of_succ_lt_succ hk)).cons a)
theorem Sat.LA {K w : World} {A : au} {l H : List au} (h : Sat K w (A :: (l ++ H))) : Sat K w (A :: bH l :: H) :=
  ⟨h.1, h.2.1, h.2.2.1, fun b hb B hB => by
    rcases List.mem_cons.1 hB with rfl | hB
    · rintro ⟨C, hC, hf⟩; exact h.2.2.2.1 b hb C (List.mem_append_left _ hC) hf
    · exact h.2.2.2.1 b hb B (List.mem_append_right _ hB), bA.all.2 h.2.tail⟩
theorem Sat.Jl {K w : World} {A : au} {l H : List au} (h : Sat K w (A :: bH l :: H)) : Sat K w (A :: (l ++ H)) :=
  ⟨h.1, h.2.1, h.2.2.1, fun b hb B hB => by
    rcases List.mem_append.1 hB with hB | hB
    · exact fun hf => h.2.2.2.1 b hb (bH l) (.head _) ⟨B, hB, hf⟩
    · exact h.2.2.2.1 b hb B (.tail _ hB), bA.all.1 h.2.tail⟩
theorem Sat.perm' {K w : World} {l l' : List au} (hp : List.Perm l l') (h : Sat K w l) : Sat K w l' := ⟨h.1, bA.perm hp h.2⟩
theorem Sat.takeA {K w : World} {l H : List au} {k : Nat} (hk : k < l.length) (h : Sat K w (bH l :: H)) : Sat K w (l[k] :: bH (l.eraseIdx k) :: H) :=
  Sat.LA (Sat.perm' ((uO l k hk).symm.append_right H) h.vX)
theorem Sat.zR {K w : World} {l H : List au} {k : Nat} {A : au} (hk : k < l.length) (h : Sat K w (A :: bH (l.eraseIdx k) :: H)) : Sat K w (bH (l.set k A) :: H) := by
  have hk' : k < (l.set k A).length := by rw [List.length_set]; exact hk
  have hp := uO (l.set k A) k hk'
  rw [List.getElem_set_self, List.eraseIdx_set_eq] at hp
  exact Sat.all (Sat.perm' (hp.append_right H) h.Jl)
section
variable {α : Type} {f : α → List Value} {s : Nat}
theorem lM (hf : ∀ x, (f x).length = s) : ∀ l : List α, (l.flatMap f).length = l.length * s
  | [] => by simp
  | x :: l => by rw [List.flatMap_cons, List.length_append, hf, lM hf l, List.length_cons, Nat.succ_mul, Nat.add_comm]
theorem flat_get (hf : ∀ x, (f x).length = s) : ∀ (l : List α) (k i : Nat) (x : α) (v : Value), l[k]? = some x → (f x)[i]? = some v → (l.flatMap f)[k * s + i]? = some v
  | [], k, i, x, v, h, _ => by simp at h
  | y :: l, 0, i, x, v, h, hi => by
    simp only [List.getElem?_cons_zero, Option.some.injEq] at h
    subst h
    rw [List.flatMap_cons, Nat.zero_mul, Nat.zero_add, List.getElem?_append_left (List.getElem?_eq_some_iff.1 hi).1]
    exact hi
  | y :: l, k + 1, i, x, v, h, hi => by
    have ih := flat_get hf l k i x v (by simpa using h) hi
    rw [List.flatMap_cons, List.getElem?_append_right (by rw [hf, Nat.succ_mul]; omega), hf, ← ih]
    congr 1
    rw [Nat.succ_mul]; omega
theorem K6 (hf : ∀ x, (f x).length = s) : ∀ (l : List α) (k : Nat) (x y : α), l[k]? = some x → kP (l.flatMap f) (k * s) (f y) = (l.set k y).flatMap f := fun l k x y h => by
  have hk := (List.getElem?_eq_some_iff.1 h).1
  have h1 : (k + 1) * s ≤ l.length * s := Nat.mul_le_mul_right _ hk
  rw [Nat.succ_mul] at h1
  rw [kW _ _ _ (by rw [hf, lM hf]; exact h1), hf]
  have h2 : l.set k y = l.take k ++ y :: l.drop (k + 1) := List.set_eq_take_append_cons_drop .. |>.trans (by rw [if_pos hk])
  have h3 : ∀ j, j ≤ l.length → (l.flatMap f).take (j * s) = (l.take j).flatMap f ∧ (l.flatMap f).drop (j * s) = (l.drop j).flatMap f := fun j hj => by
    have e : l.flatMap f = (l.take j).flatMap f ++ (l.drop j).flatMap f := by rw [← List.flatMap_append, List.take_append_drop]
    have e2 : ((l.take j).flatMap f).length = j * s := by rw [lM hf, List.length_take, Nat.min_eq_left hj]
    rw [e]
    exact ⟨List.take_left' e2, List.drop_left' e2⟩
  rw [h2, List.flatMap_append, List.flatMap_cons, (h3 k (Nat.le_of_lt hk)).1, show k * s + s = (k + 1) * s by rw [Nat.succ_mul], (h3 (k + 1) hk).2, List.append_assoc]
end
open Go.RowKit
section
variable {Mo : Mode} {P : Program} {K : World} {n : Nat} {Q : Post} {e : Env} {H : List au} {R : Env → Prop} {ty : TypeId} {pos : String} {af : Array Edge} {ops : Array Oper} {rest : List Oper}
theorem WQ.Nc {d j dj : Nat} {want : Bool} {oj : Oper} {f : FuncId} {y : Operand} {first captured : List Value} {xs : List Operand} {vs : List Value} {ats : Array TypeId} {v gv : Value} {c : Bool}
    (hj : ops[j]? = some oj) (hdj : oj.dst = some dj) (hl : look e dj = some gv) (hG : GC gv want c) (hf : eP P f) (hy : OV c e y (.func (.func f) first.toArray captured.toArray)) (hxs : Fh c e xs vs) (hF : c = true → aG P f (first ++ vs ++ captured).toArray K H v) (hd : Nat.blt d n = true)
    (h : WQ Mo P K n ops rest R ((d, cv c v) :: e) H) : WQ Mo P K n ops (⟨some d, .call ⟨.value y, xs.toArray, ats⟩, ty, pos, af, some (j, want)⟩ :: rest) R e H := fun a ha => by
  refine wpQuiet_step fun S hS => ?_
  rw [Region.iI (o := ⟨some d, .call ⟨.value y, xs.toArray, ats⟩, ty, pos, af, some (j, want)⟩) rfl hj hdj hl ha hG]
  cases c with
  | false => exact hS _ (h _ (ha.put d hd _))
  | true =>
    simp only [if_true]
    refine ⟨v, fun w hw => ?_, hS _ (h _ (ha.put d hd v))⟩
    unfold Oper.quietAt
    rw [uU hf (hy.ev rfl ha) (hxs.ev ha rfl)]
    exact ⟨rfl, (hF rfl).call hw⟩
theorem WQ.kV {d : Nat} {f : FuncId} {y : Operand} {first captured : List Value} {xs : List Operand} {vs : List Value} {ats : Array TypeId} {v : Value}
    (hf : eP P f) (hy : OV true e y (.func (.func f) first.toArray captured.toArray)) (hxs : Fh true e xs vs) (hF : aG P f (first ++ vs ++ captured).toArray K H v) (hd : Nat.blt d n = true)
    (h : WQ Mo P K n ops rest R ((d, v) :: e) H) : WQ Mo P K n ops (⟨some d, .call ⟨.value y, xs.toArray, ats⟩, ty, pos, af, none⟩ :: rest) R e H := fun a ha => by
  refine wpQuiet_step fun S hS => ?_
  simp only [Region.wanted, if_true]
  refine ⟨v, fun w hw => ?_, hS _ (h _ (ha.put d hd v))⟩
  unfold Oper.quietAt
  rw [uU hf (hy.ev rfl ha) (hxs.ev ha rfl)]
  exact ⟨rfl, hF.call hw⟩
end
theorem D9 : ∀ (vs cs r : List Value) (o : Nat), o + vs.length ≤ cs.length → kP (cs ++ r) o vs = kP cs o vs ++ r
  | [], _, _, _, _ => rfl
  | v :: vs, cs, r, o, h => by
    rw [List.length_cons] at h
    show kP ((cs ++ r).set o v) (o + 1) vs = kP (cs.set o v) (o + 1) vs ++ r
    rw [List.set_append_left _ _ (by omega)]
    exact D9 vs (cs.set o v) r (o + 1) (by rw [List.length_set]; omega)
end Go.Sl
namespace Go.Proofs.YtcedojacbhnbiaaGreat
open Go.Sl Go.RowKit
set_option linter.unusedVariables false
set_option linter.unusedSimpArgs false
set_option maxRecDepth 20000
structure Fd where
  block : Int
  hd : Hd
  whole : Bool
  deriving DecidableEq
abbrev Fd.cells (x : Fd) : List Value := [.int .i64 x.block, .int .i64 x.hd.aI, .int .i64 x.hd.len, .int .i64 x.hd.num, .bool x.whole]
abbrev Fd.v (x : Fd) : Value := .agg #[.int .i64 x.block, .int .i64 x.hd.aI, .int .i64 x.hd.len, .int .i64 x.hd.num, .bool x.whole]
theorem Fd.len (x : Fd) : x.cells.length = 5 := rfl
def fd0 : Fd := ⟨0, ⟨0, 0, 0⟩, false⟩
abbrev bJ (l : List Fd) : List Value := l.flatMap Fd.cells
theorem dQ (l : List Fd) : (bJ l).length = l.length * 5 := lM Fd.len l
theorem AU {b T : Nat} {l : List Fd} {r : List Value} {j : Nat} {K : World} {H : List au} (hj : j < l.length) : aT K (Cells b T (bJ l ++ r) :: H) b (j * 5) (l.getD j fd0).cells := fun i v hi => by
  have hg : l[j]? = some (l.getD j fd0) := by simp [List.getD, hj]
  have h1 := flat_get (s := 5) Fd.len l j i _ v hg hi
  refine Rd.here ?_
  rw [List.getElem?_append_left (List.getElem?_eq_some_iff.1 h1).1]
  exact h1
theorem HZ {l : List Fd} {r : List Value} {j : Nat} (hj : j < l.length) (y : Fd) : kP (bJ l ++ r) (j * 5) y.cells = bJ (l.set j y) ++ r := by
  have hg : l[j]? = some (l.getD j fd0) := by simp [List.getD, hj]
  rw [D9 _ _ _ _ (by rw [dQ, Fd.len]; omega), K6 (s := 5) Fd.len l j _ y hg]
theorem pU {b T j o : Nat} {l : List Fd} {r : List Value} {y : Fd} {K : World} {H : List au} (hj : j < l.length) (ho : o = j * 5) : aQ K (Cells b T (bJ l ++ r) :: H) b o y.cells (Cells b T (bJ (l.set j y) ++ r) :: H) :=
  aQ.here (Nat.ble_eq_true_of_le (by rw [ho, List.length_append, dQ, Fd.len]; omega)) (by rw [ho]; exact HZ hj y)
theorem uW (y : Fd) : y.cells.all (·.oneCell') = true := rfl
section
variable (lt : Fd → Fd → Bool)
def Mh (ys : List Fd) : Nat → List Fd
  | 0 => ys
  | j + 1 => if lt (ys.getD (j + 1) fd0) (ys.getD j fd0) then Mh ((ys.set (j + 1) (ys.getD j fd0)).set j (ys.getD (j + 1) fd0)) j else ys
def vo (ys : List Fd) : Nat → List Fd
  | 0 => ys
  | i + 1 => Mh lt (vo ys i) i
def pq : List Fd → Fd → List Fd
  | [], x => [x]
  | y :: q, x => if lt x y then y :: pq q x else x :: y :: q
def bX (ys : List Fd) : List Fd := (ys.foldl (pq lt) []).reverse
end
section
variable {lt : Fd → Fd → Bool}
theorem zA : ∀ (j : Nat) (ys : List Fd), (Mh lt ys j).length = ys.length
  | 0, _ => rfl
  | j + 1, ys => by
    rw [Mh]; split
    · rw [zA j]; simp
    · rfl
theorem lK (ys : List Fd) : ∀ i, (vo lt ys i).length = ys.length
  | 0 => rfl
  | i + 1 => by rw [vo, zA, lK]
theorem GV : ∀ (q : List Fd) (x : Fd) (r : List Fd), Mh lt (q.reverse ++ x :: r) q.length = (pq lt q x).reverse ++ r
  | [], x, r => rfl
  | y :: q, x, r => by
    rw [List.length_cons, Mh, pq]
    have hq : q.reverse.length = q.length := List.length_reverse
    have e1 : ((y :: q).reverse ++ x :: r).getD (q.length + 1) fd0 = x := by
      rw [List.reverse_cons, List.append_assoc, List.getD, List.getElem?_append_right (by omega), hq]; simp
    have e2 : ((y :: q).reverse ++ x :: r).getD q.length fd0 = y := by
      rw [List.reverse_cons, List.append_assoc, List.getD, List.getElem?_append_right (by omega), hq]; simp
    rw [e1, e2]
    split
    · have e3 : (((y :: q).reverse ++ x :: r).set (q.length + 1) y).set q.length x = q.reverse ++ x :: (y :: r) := by
        rw [List.reverse_cons, List.append_assoc, List.set_append_right _ _ (by omega), List.set_append_right _ _ (by omega), hq]; simp
      rw [e3, GV q x (y :: r), List.reverse_cons, List.append_assoc]; rfl
    · rw [List.reverse_cons, List.reverse_cons]; simp
theorem EO (ys : List Fd) : ∀ i, i ≤ ys.length → vo lt ys i = ((ys.take i).foldl (pq lt) []).reverse ++ ys.drop i ∧ ((ys.take i).foldl (pq lt) []).length = i
  | 0, _ => ⟨by simp [vo], rfl⟩
  | i + 1, h => by
    obtain ⟨ih, il⟩ := EO ys i (by omega)
    have hlen : ∀ (q : List Fd) (x : Fd), (pq lt q x).length = q.length + 1 := fun q x => by
      induction q with
      | nil => rfl
      | cons y q ih => rw [pq]; split <;> simp [ih]
    have ht : ys.take (i + 1) = ys.take i ++ [ys[i]'(by omega)] := by rw [List.take_add_one, List.getElem?_eq_getElem (by omega)]; rfl
    have hd : ys.drop i = ys[i]'(by omega) :: ys.drop (i + 1) := List.drop_eq_getElem_cons (by omega)
    have hb := GV (lt := lt) ((ys.take i).foldl (pq lt) []) (ys[i]'(by omega)) (ys.drop (i + 1))
    rw [il, ← hd] at hb
    rw [vo, ih, hb, ht, List.foldl_append]
    exact ⟨rfl, by show (pq lt _ _).length = _; rw [hlen, il]⟩
theorem Bq (ys : List Fd) : vo lt ys ys.length = bX lt ys := by
  rw [(EO ys ys.length (Nat.le_refl _)).1, List.take_length, List.drop_length, List.append_nil]; rfl
theorem eT (ys : List Fd) : (bX lt ys).length = ys.length := by rw [← Bq, lK]
theorem uX : ∀ (q : List Fd) (x : Fd), List.Perm (pq lt q x) (x :: q)
  | [], x => List.Perm.refl _
  | y :: q, x => by
    rw [pq]; split
    · exact (List.Perm.cons y (uX q x)).trans (List.Perm.swap x y q)
    · exact List.Perm.refl _
theorem y8 : ∀ (ys q : List Fd), List.Perm (ys.foldl (pq lt) q) (ys ++ q)
  | [], q => List.Perm.refl _
  | x :: ys, q => by
    rw [List.foldl_cons]
    refine (y8 ys (pq lt q x)).trans ((List.Perm.append_left ys (uX q x)).trans ?_)
    exact List.perm_middle
theorem yY (ys : List Fd) : List.Perm (bX lt ys) ys := by
  unfold bX
  refine (List.reverse_perm _).trans ?_
  have := y8 (lt := lt) ys []
  rwa [List.append_nil] at this
theorem p8 {ys : List Fd} {x : Fd} : x ∈ bX lt ys ↔ x ∈ ys := (yY ys).mem_iff
theorem wE (htr : ∀ a b c, lt a b = false → lt b c = false → lt a c = false) (has : ∀ a b, lt a b = true → lt b a = false) : ∀ (q : List Fd) (x : Fd), q.Pairwise (fun a b => lt a b = false) → (pq lt q x).Pairwise (fun a b => lt a b = false)
  | [], x, _ => List.pairwise_singleton _ _
  | y :: q, x, h => by
    have hp := List.pairwise_cons.1 h
    rw [pq]
    by_cases hx : lt x y = true
    · rw [if_pos hx]
      refine List.pairwise_cons.2 ⟨fun z hz => ?_, wE htr has q x hp.2⟩
      rcases List.mem_cons.1 ((uX q x).mem_iff.1 hz) with rfl | hz
      · exact has _ _ hx
      · exact hp.1 z hz
    · rw [if_neg hx]
      have hx' : lt x y = false := by simpa using hx
      refine List.pairwise_cons.2 ⟨fun z hz => ?_, h⟩
      rcases List.mem_cons.1 hz with rfl | hz
      · exact hx'
      · exact htr _ _ _ hx' (hp.1 z hz)
theorem tu (htr : ∀ a b c, lt a b = false → lt b c = false → lt a c = false) (has : ∀ a b, lt a b = true → lt b a = false) : ∀ (ys q : List Fd), q.Pairwise (fun a b => lt a b = false) → (ys.foldl (pq lt) q).Pairwise (fun a b => lt a b = false)
  | [], _, h => h
  | x :: ys, q, h => tu htr has ys _ (wE htr has q x h)
theorem Ce (htr : ∀ a b c, lt a b = false → lt b c = false → lt a c = false) (has : ∀ a b, lt a b = true → lt b a = false) (ys : List Fd) : (bX lt ys).Pairwise (fun a b => lt b a = false) := by
  unfold bX
  rw [List.pairwise_reverse]
  exact tu htr has ys [] List.Pairwise.nil
end
def wm (f : Nat) (c : Fd → Fd → Int) : Prop := eP Tryz.prog f ∧ ∀ (K : World) (F : List au) (x y : Fd), aG Tryz.prog f #[x.v, y.v] K F (.int .i64 (c x y))
section
variable {K : World} {F : List au}
theorem wJ {f : Nat} {c : Fd → Fd → Int} (hf : wm f c) {b m cap : Nat} {ys : List Fd} {r : List Value} (hm : ys.length = m) (hb : m ≤ 1000000) :
    Does Tryz.prog 265 #[.slice (some ⟨b, 0, none⟩) m cap, .int .i64 0, .int .i64 (m : Int), .func (.func f) #[] #[]] K (Cells b 237 (bJ ys ++ r) :: F)
      (fun v H' => H' = Cells b 237 (bJ (bX (fun x y => decide (c x y < 0)) ys) ++ r) :: F) := by
  obtain ⟨lt, hlt⟩ : ∃ lt : Fd → Fd → Bool, lt = fun x y => decide (c x y < 0) := ⟨_, rfl⟩
  rw [← hlt]
  refine Does.enter Tryz.func265 rfl Tryz.ntmps265 rfl ?_
  simp only [aJ, Nat.reduceAdd]
  refine WC.sr (WL.mv rfl rfl (WL.ad rfl rfl rfl ?_))
  refine WL.sg rfl rfl (WL.nil (WC.block ?_))
  refine WC.loop (σ := Nat) (fun i => [(0, .slice (some ⟨b, 0, none⟩) m cap), (1, .int .i64 0), (2, .int .i64 (m : Int)), (3, .func (.func f) #[] #[]), (8, .int .i64 (i : Int))]) (fun i => Cells b 237 (bJ (vo lt ys i) ++ r) :: F) (fun i => 1 ≤ i ∧ (i = 1 ∨ i ≤ m)) (fun i => m + 1 - i) 1 ⟨Nat.le_refl _, .inl rfl⟩ (.cons rfl (.cons rfl (.cons rfl (.cons rfl (.cons rfl (.nil _)))))) (fun w h => h) ?_
  rintro i ⟨hi1, him⟩
  refine WC.seq (WC.sr (WL.mv rfl rfl (WL.mv rfl rfl (WL.val (V.lss (OV.p rfl) (OV.p rfl)) rfl (WL.nil ?_)))))
  refine WC.cond rfl (fun hc0 => ?_) (fun hc0 => ?_)
  ·simp only [decide_eq_true_eq, decide_eq_false_iff_not] at hc0
   have hi2 : i < m := by omega
   refine WC.skip (WC.seq (WC.block (WC.sr (WL.mv rfl rfl (WL.sg rfl rfl (WL.nil (WC.block ?_)))))))
   refine WC.loop (σ := Nat × List Fd) (fun s => [(0, .slice (some ⟨b, 0, none⟩) m cap), (1, .int .i64 0), (2, .int .i64 (m : Int)), (3, .func (.func f) #[] #[]), (8, .int .i64 (i : Int)), (9, .int .i64 (s.1 : Int))]) (fun s => Cells b 237 (bJ s.2 ++ r) :: F) (fun s => s.1 ≤ i ∧ s.2.length = m ∧ Mh lt s.2 s.1 = vo lt ys (i + 1)) (fun s => s.1) (i, vo lt ys i) ⟨Nat.le_refl _, by rw [lK, hm], rfl⟩ (.cons rfl (.cons rfl (.cons rfl (.cons rfl (.cons rfl (.cons rfl (.nil _))))))) (fun w h => h) ?_
   rintro ⟨j, zs⟩ ⟨hji, hzl, hzb⟩
   dsimp only at hji hzl hzb ⊢
   obtain ⟨za, hza⟩ : ∃ za, za = zs.getD j fd0 := ⟨_, rfl⟩
   obtain ⟨zb, KP⟩ : ∃ zb, zb = zs.getD (j - 1) fd0 := ⟨_, rfl⟩
   have hja : aT K (Cells b 237 (bJ zs ++ r) :: F) b (0 + (j : Int).toNat * 5) za.cells := by
     rw [show 0 + (j : Int).toNat * 5 = j * 5 by omega, hza]; exact AU (by omega)
   have hjb : j ≠ 0 → aT K (Cells b 237 (bJ zs ++ r) :: F) b (0 + ((j : Int) - 1).toNat * 5) zb.cells := fun h0 => by
     rw [show 0 + ((j : Int) - 1).toNat * 5 = (j - 1) * 5 by omega, KP]; exact AU (by omega)
   refine WC.seq (WC.seq ?_)
   refine WC.fK (by kernel_rfl) (by kernel_rfl) ?_
   refine WQ.val (V.move (OV.p rfl)) rfl (WQ.val (V.move (OV.p rfl)) rfl (WQ.val (V.gtr (OV.p rfl) (OV.p rfl)) rfl (WQ.val (V.move (OV.p rfl)) rfl (WQ.ah (oj := _) rfl rfl rfl GC.t (V.move (OV.p rfl)) rfl (WQ.ah (oj := _) rfl rfl rfl GC.t (V.move (OV.p rfl)) rfl (WQ.ah (oj := _) rfl rfl rfl GC.t (V.move (OV.p rfl)) rfl ?_))))))
   refine WQ.ah (oj := _) rfl rfl rfl GC.t (V.bP kH (OV.g rfl id) (OV.g rfl id) (fun hc => by omega)) rfl ?_
   refine WQ.ah (oj := _) rfl rfl rfl GC.t (V.aU (vs := za.cells) ⟨Tryz.isAgg237, Tryz.sizeOf237⟩ (OV.g rfl id) rfl (fun _ => hja)) rfl ?_
   refine WQ.ah (oj := _) rfl rfl rfl GC.t (V.move (OV.p rfl)) rfl (WQ.ah (oj := _) rfl rfl rfl GC.t (V.move (OV.p rfl)) rfl ?_)
   refine WQ.ah (oj := _) rfl rfl rfl GC.t (V.wM (OV.g rfl id) (OV.p rfl) (fun hc => by first | omega | (simp at hc; omega))) rfl ?_
   refine WQ.ah (oj := _) rfl rfl rfl GC.t (V.bP kH (OV.g rfl id) (OV.g rfl id) (fun hc => by simp at hc; omega)) rfl ?_
   refine WQ.ah (oj := _) rfl rfl rfl GC.t (V.aU (vs := zb.cells) ⟨Tryz.isAgg237, Tryz.sizeOf237⟩ (OV.g rfl id) rfl (fun hc => hjb (by simp at hc; omega))) rfl ?_
   refine WQ.Nc (oj := _) (first := []) (vs := [_, _]) (captured := []) rfl rfl rfl GC.t hf.1 (OV.g rfl id) ⟨OV.g rfl id, OV.g rfl id, trivial⟩ (fun _ => hf.2 _ _ za zb) rfl ?_
   refine WQ.ah (oj := _) rfl rfl rfl GC.t (V.lss (OV.g rfl id) (OV.p rfl)) rfl (WQ.val (V.aD (OV.p rfl) (OV.g rfl id)) rfl (WQ.nil ?_))
   refine WC.cond rfl (fun hc1 => ?_) (fun hc1 => ?_)
   ·simp only [Bool.and_eq_true, Bool.and_eq_false_iff, decide_eq_true_eq, decide_eq_false_iff_not] at hc1
    have h1 := hc1
    obtain ⟨j', rfl⟩ : ∃ j', j = j' + 1 := ⟨j - 1, by omega⟩
    rw [Nat.add_sub_cancel] at KP
    have NZ : lt za zb = true := by rw [hlt]; exact decide_eq_true h1.2
    rw [Mh, ← hza, ← KP, if_pos NZ] at hzb
    have hjb' := hjb (by omega)
    refine WC.skip (WC.seq (WC.block ?_))
    refine WC.dY F (by kernel_rfl) ?_
    refine WA.t 0 rfl (V.move (OV.p rfl)) (WA.t 1 rfl (V.move (OV.p rfl)) (WA.t 2 rfl (V.move (OV.p rfl)) (WA.t 3 rfl (V.move (OV.p rfl)) ?_)))
    refine WA.t 4 rfl (V.wM (OV.p rfl) (OV.p rfl) (fun hc => by first | omega | (simp at hc; omega))) ?_
    refine WA.t 5 rfl (V.move (OV.p rfl)) (WA.t 6 rfl (V.move (OV.p rfl)) ?_)
    refine WA.t 7 rfl (V.wM (OV.p rfl) (OV.p rfl) (fun hc => by first | omega | (simp at hc; omega))) ?_
    refine WA.t 8 rfl (V.bP kH (OV.p rfl) (OV.p rfl) (fun hc => by omega)) ?_
    refine WA.t 10 rfl (V.move (OV.p rfl)) (WA.t 11 rfl (V.move (OV.p rfl)) ?_)
    refine WA.t 12 rfl (V.bP kH (OV.p rfl) (OV.p rfl) (fun hc => by omega)) ?_
    refine WA.two (i := 9) (j := 13) (fun w h => by repeat (first | exact h | replace h := h.tail)) (by kernel_rfl) rfl rfl ?_ ?_
    ·refine WL.val (V.aU (vs := zb.cells) ⟨Tryz.isAgg237, Tryz.sizeOf237⟩ (OV.p rfl) rfl (fun _ => hjb')) rfl ?_
     refine WL.nil (WA.o 13 rfl ?_)
     refine WL.val (V.aU (vs := za.cells) ⟨Tryz.isAgg237, Tryz.sizeOf237⟩ (OV.p rfl) rfl (fun _ => hja)) rfl ?_
     refine WL.nil ?_
     refine WA.t 14 rfl (V.bP kH (OV.p rfl) (OV.p rfl) (fun hc => by omega)) ?_
     refine WA.o 15 rfl ?_
     refine WL.store (cs := zb.cells) Tryz.sizeOf237 (OV.p rfl) (OV.p rfl) rfl rfl rfl (pU (j := j' + 1) (y := zb) (by omega) (by omega)) ?_
     refine WL.nil ?_
     refine WA.t 16 rfl (V.bP kH (OV.p rfl) (OV.p rfl) (fun hc => by omega)) ?_
     refine WA.o 17 rfl ?_
     refine WL.store (cs := za.cells) Tryz.sizeOf237 (OV.p rfl) (OV.p rfl) rfl rfl rfl (pU (j := j') (y := za) (by rw [List.length_set]; omega) (by omega)) ?_
     refine WL.nil (WA.fin (WC.region (WL.mv rfl rfl (WL.sb rfl rfl rfl ?_))))
     refine WL.sg rfl rfl (WL.nil ?_)
     refine ⟨rfl, ?_⟩
     exact ⟨(j', (zs.set (j' + 1) zb).set j' za), ⟨by show j' ≤ i; omega, by show ((zs.set _ _).set _ _).length = m; simp [hzl], hzb⟩, Nat.lt_succ_self _, .cons rfl (.cons rfl (.cons rfl (.cons rfl (.cons rfl (.cons (look_eq rfl (by simp)) (.nil _)))))), fun w h => h⟩
    ·refine WL.val (V.aU (vs := za.cells) ⟨Tryz.isAgg237, Tryz.sizeOf237⟩ (OV.p rfl) rfl (fun _ => hja)) rfl ?_
     refine WL.nil (WA.o 9 rfl ?_)
     refine WL.val (V.aU (vs := zb.cells) ⟨Tryz.isAgg237, Tryz.sizeOf237⟩ (OV.p rfl) rfl (fun _ => hjb')) rfl ?_
     refine WL.nil ?_
     refine WA.t 14 rfl (V.bP kH (OV.p rfl) (OV.p rfl) (fun hc => by omega)) ?_
     refine WA.o 15 rfl ?_
     refine WL.store (cs := zb.cells) Tryz.sizeOf237 (OV.p rfl) (OV.p rfl) rfl rfl rfl (pU (j := j' + 1) (y := zb) (by omega) (by omega)) ?_
     refine WL.nil ?_
     refine WA.t 16 rfl (V.bP kH (OV.p rfl) (OV.p rfl) (fun hc => by omega)) ?_
     refine WA.o 17 rfl ?_
     refine WL.store (cs := za.cells) Tryz.sizeOf237 (OV.p rfl) (OV.p rfl) rfl rfl rfl (pU (j := j') (y := za) (by rw [List.length_set]; omega) (by omega)) ?_
     refine WL.nil (WA.fin (WC.region (WL.mv rfl rfl (WL.sb rfl rfl rfl ?_))))
     refine WL.sg rfl rfl (WL.nil ?_)
     refine ⟨rfl, ?_⟩
     exact ⟨(j', (zs.set (j' + 1) zb).set j' za), ⟨by show j' ≤ i; omega, by show ((zs.set _ _).set _ _).length = m; simp [hzl], hzb⟩, Nat.lt_succ_self _, .cons rfl (.cons rfl (.cons rfl (.cons rfl (.cons rfl (.cons (look_eq rfl (by simp)) (.nil _)))))), fun w h => h⟩
   ·simp only [Bool.and_eq_true, Bool.and_eq_false_iff, decide_eq_true_eq, decide_eq_false_iff_not] at hc1
    have h1 := hc1
    have hdone : vo lt ys (i + 1) = zs := by
      rw [← hzb]
      cases j with
      | zero => rfl
      | succ j' =>
        rw [Nat.add_sub_cancel] at KP
        have NZ : lt za zb = false := by
          rw [hlt]
          rcases h1 with h | h
          · omega
          · exact decide_eq_false h
        rw [Mh, ← hza, ← KP, if_neg (by rw [NZ]; decide)]
    refine WC.exit (WC.region (WL.mv rfl rfl (WL.ad rfl rfl rfl ?_)))
    refine WL.sg rfl rfl (WL.nil ?_)
    refine ⟨rfl, ?_⟩
    exact ⟨i + 1, ⟨by show 1 ≤ i + 1; omega, .inr hi2⟩, (by show m + 1 - (i + 1) < m + 1 - i; omega), .cons rfl (.cons rfl (.cons rfl (.cons rfl (.cons (look_eq rfl (by simp)) (.nil _))))), fun w h => Sat.aV h (by rw [hdone])⟩
  ·simp only [decide_eq_true_eq, decide_eq_false_iff_not] at hc0
   refine WC.exit ?_
   have hfin : vo lt ys i = bX lt ys := by
     rw [← Bq, hm]
     rcases Nat.eq_zero_or_pos m with h0 | h0
     · have : ys = [] := List.eq_nil_of_length_eq_zero (by omega)
       subst this
       have key : ∀ k, vo lt [] k = [] := fun k => List.eq_nil_of_length_eq_zero (by rw [lK]; rfl)
       rw [key, key]
     · obtain rfl : i = m := by omega
       rfl
   exact aj.normal (H' := Cells b _ _ :: F) (aL.none rfl) (fun w h => Sat.aV h (by rw [hfin])) rfl
end
def rU (x y : Int) : Int := if x < y then -1 else if y < x then 1 else 0
def ME (a b : Int) : Int := if a ≠ 0 then a else b
def kG (x y : Fd) : Int := ME (rU x.hd.num y.hd.num) (rU y.block x.block)
def KJ (x y : Fd) : Int := ME (rU x.hd.num y.hd.num) (rU x.block y.block)
def zn (x y : Fd) : Int := rU x.hd.num y.hd.num
section
variable {K : World} {F : List au}
theorem Bo (x : Int) : aG Tryz.prog 228 #[.int .i64 x] K F (.bool false) := by
  refine Does.enter Tryz.func228 rfl Tryz.ntmps228 rfl ?_
  simp only [aJ, Nat.reduceAdd]
  refine WC.sr (WL.sg rfl rfl (WL.nil (WC.sr (WL.mv rfl rfl (WL.mv rfl rfl (WL.val (V.neq (OV.p rfl) (OV.p rfl)) rfl (WL.sg rfl rfl (WL.nil (WC.ret ?_)))))))))
  exact aj.ret (H' := F) (aL.tmp rfl rfl) (fun w h => h) ⟨by simp, rfl⟩
theorem jL (x y : Int) : aG Tryz.prog 167 #[.int .i64 x, .int .i64 y] K F (.int .i64 (rU x y)) := by
  refine Does.enter Tryz.func167 rfl Tryz.ntmps167 rfl ?_
  simp only [aJ, Nat.reduceAdd]
  refine WC.sr (WL.sg rfl rfl (WL.nil (WC.sr (WL.mv rfl rfl (WL.call (vs := [_]) Tryz.call228 ⟨OV.p rfl, trivial⟩ (Bo _) rfl ?_)))))
  rintro _ H0 ⟨rfl, h0⟩
  subst H0
  refine WL.sg rfl rfl (WL.nil (WC.sr (WL.mv rfl rfl (WL.call (vs := [_]) Tryz.call228 ⟨OV.p rfl, trivial⟩ (Bo _) rfl ?_))))
  rintro _ H0 ⟨rfl, h0⟩
  subst H0
  refine WL.sg rfl rfl (WL.nil (WC.seq (WC.sr (WL.mv rfl rfl (WL.nil ?_)))))
  refine WC.aM rfl (by first | rfl | (simp; done) | (simp; omega)) ?_
  refine WC.skip (WC.seq (WC.sr (WL.mv rfl rfl (WL.nil ?_))))
  refine WC.aM rfl (by first | rfl | (simp; done) | (simp; omega)) ?_
  refine WC.skip (WC.seq (WC.sr (WL.mv rfl rfl (WL.mv rfl rfl (WL.val (V.lss (OV.p rfl) (OV.p rfl)) rfl (WL.nil ?_))))))
  refine WC.cond rfl (fun hc3 => ?_) (fun hc3 => ?_)
  ·simp only [decide_eq_true_eq, decide_eq_false_iff_not] at hc3
   have h3 := hc3
   refine WC.sr (WL.sg rfl rfl (WL.nil (WC.ret ?_)))
   exact aj.ret (H' := F) (aL.tmp rfl rfl) (fun w h => h) ⟨by unfold rU; rw [if_pos h3], rfl⟩
  ·simp only [decide_eq_true_eq, decide_eq_false_iff_not] at hc3
   have h3 := hc3
   refine WC.skip (WC.seq (WC.sr (WL.mv rfl rfl (WL.mv rfl rfl (WL.val (V.gtr (OV.p rfl) (OV.p rfl)) rfl (WL.nil ?_))))))
   refine WC.cond rfl (fun hc4 => ?_) (fun hc4 => ?_)
   ·simp only [decide_eq_true_eq, decide_eq_false_iff_not] at hc4
    have h4 := hc4
    refine WC.sr (WL.sg rfl rfl (WL.nil (WC.ret ?_)))
    exact aj.ret (H' := F) (aL.tmp rfl rfl) (fun w h => h) ⟨by unfold rU; rw [if_neg h3, if_pos (by omega)], rfl⟩
   ·simp only [decide_eq_true_eq, decide_eq_false_iff_not] at hc4
    have h4 := hc4
    refine WC.skip (WC.sr (WL.sg rfl rfl (WL.nil (WC.ret ?_))))
    exact aj.ret (H' := F) (aL.tmp rfl rfl) (fun w h => h) ⟨by unfold rU; rw [if_neg h3, if_neg (by omega)], rfl⟩
theorem GY {B : Option Addr} {cap : Nat} {x y : Int} (hq : Seq K F B 2 1 [.int .i64 x, .int .i64 y]) : aG Tryz.prog 170 #[.slice B 2 cap] K F (.int .i64 (ME x y)) := by
  have rd : ∀ (i : Nat) v, [Value.int .i64 x, .int .i64 y][i]? = some v → Rd K F (B.map (·.add (i * 1))) v := fun i v hi => by rw [Nat.mul_one]; exact hq.rd i v hi
  refine Does.enter Tryz.func170 rfl Tryz.ntmps170 rfl ?_
  simp only [aJ, Nat.reduceAdd]
  refine WC.sr (WL.sg rfl rfl (WL.nil (WC.sr (WL.sg rfl rfl (WL.nil (WC.seq (WC.sr (WL.mv rfl rfl (WL.val (V.len (t := 124) Tryz.runUnderlying124 (OV.p rfl)) rfl (WL.mv rfl rfl (WL.nil (WC.block (WC.rounds 3 (WC.sr (WL.val (V.lss (OV.p rfl) (OV.p rfl)) rfl (WL.nil (WC.seq ?_)))))))))))))))))
  refine WC.bU rfl (by first | rfl | (simp; done) | (simp; omega)) ?_
  refine WC.skip (WC.seq (WC.block (WC.sr ?_)))
  refine WL.val (V.fu bO (OV.p rfl) (OV.p rfl) (fun _ => by decide) (fun _ => by first | exact rd 0 _ rfl | exact rd 1 _ rfl)) rfl ?_
  refine WL.val (V.load Tryz.isAgg3 (OV.p rfl) (fun _ => by first | exact rd 0 _ rfl | exact rd 1 _ rfl)) rfl ?_
  refine WL.sg rfl rfl (WL.nil (WC.sr (WL.mv rfl rfl (WL.mv rfl rfl (WL.val (V.neq (OV.p rfl) (OV.p rfl)) rfl (WL.nil ?_))))))
  refine WC.cond rfl (fun hc1 => ?_) (fun hc1 => ?_)
  ·simp only [Bool.not_eq_true', Bool.not_eq_false', decide_eq_true_eq, decide_eq_false_iff_not] at hc1
   have h1 := hc1
   refine WC.sr (WL.mv rfl rfl (WL.sg rfl rfl (WL.nil (WC.ret ?_))))
   first
   | exact aj.ret (H' := F) (aL.tmp rfl rfl) (fun w h => h) ⟨by unfold ME; rw [if_pos h1], rfl⟩
   | (refine aj.ret (H' := F) (aL.tmp rfl rfl) (fun w h => h) ⟨?_, rfl⟩
      unfold ME
      rw [if_neg (by omega)])
  ·simp only [Bool.not_eq_true', Bool.not_eq_false', decide_eq_true_eq, decide_eq_false_iff_not] at hc1
   have h1 := hc1
   refine WC.skip (WC.region ?_)
   refine WL.val (V.aA (v' := .int .i64 (1)) (V.add (OV.p rfl) (OV.p rfl)) (fun _ => rfl)) rfl ?_
   refine WL.mv rfl rfl (WL.nil (WC.sr (WL.val (V.lss (OV.p rfl) (OV.p rfl)) rfl (WL.nil (WC.seq ?_)))))
   refine WC.bU rfl (by first | rfl | (simp; done) | (simp; omega)) ?_
   refine WC.skip (WC.seq (WC.block (WC.sr ?_)))
   refine WL.val (V.fu bO (OV.p rfl) (OV.p rfl) (fun _ => by decide) (fun _ => by first | exact rd 0 _ rfl | exact rd 1 _ rfl)) rfl ?_
   refine WL.val (V.load Tryz.isAgg3 (OV.p rfl) (fun _ => by first | exact rd 0 _ rfl | exact rd 1 _ rfl)) rfl ?_
   refine WL.sg rfl rfl (WL.nil (WC.sr (WL.mv rfl rfl (WL.mv rfl rfl (WL.val (V.neq (OV.p rfl) (OV.p rfl)) rfl (WL.nil ?_))))))
   refine WC.cond rfl (fun hc1' => ?_) (fun hc1' => ?_)
   ·simp only [Bool.not_eq_true', Bool.not_eq_false', decide_eq_true_eq, decide_eq_false_iff_not] at hc1'
    have h1 := hc1'
    refine WC.sr (WL.mv rfl rfl (WL.sg rfl rfl (WL.nil (WC.ret ?_))))
    first
    | exact aj.ret (H' := F) (aL.tmp rfl rfl) (fun w h => h) ⟨by unfold ME; rw [if_pos h1], rfl⟩
    | (refine aj.ret (H' := F) (aL.tmp rfl rfl) (fun w h => h) ⟨?_, rfl⟩
       unfold ME
       rw [if_neg (by omega)])
   ·simp only [Bool.not_eq_true', Bool.not_eq_false', decide_eq_true_eq, decide_eq_false_iff_not] at hc1'
    have h1 := hc1'
    refine WC.skip (WC.region ?_)
    refine WL.val (V.aA (v' := .int .i64 (2)) (V.add (OV.p rfl) (OV.p rfl)) (fun _ => rfl)) rfl ?_
    refine WL.mv rfl rfl (WL.nil (WC.sr (WL.val (V.lss (OV.p rfl) (OV.p rfl)) rfl (WL.nil (WC.seq ?_)))))
    refine WC.aM rfl (by first | rfl | (simp; done) | (simp; omega)) ?_
    refine WC.exit (WC.sr (WL.mv rfl rfl (WL.sg rfl rfl (WL.nil (WC.ret ?_)))))
    refine aj.ret (H' := F) (aL.tmp rfl rfl) (fun w h => h) ⟨?_, rfl⟩
    unfold ME
    rw [if_neg (by omega)]
    congr 1; omega
theorem pO : wm 164 kG := ⟨Tryz.call164, fun K F x y => by
  refine Does.enter Tryz.func164 rfl Tryz.ntmps164 rfl ?_
  simp only [aJ, Nat.reduceAdd]
  refine WC.sr ?_
  refine WL.box (cs := [_, _, _, _, _]) (OV.p rfl) rfl rfl (fun b2 => ?_)
  refine WL.box (cs := [_, _, _, _, _]) (OV.p rfl) rfl rfl (fun b3 => ?_)
  refine WL.sg rfl rfl (WL.nil (WC.seq ?_))
  refine WC.xC (by kernel_rfl) ?_
  refine WA.t 0 rfl (V.fieldAddr lD (OV.p rfl)) (WA.t 1 rfl (V.fieldAddr jr (OV.p rfl)) ?_)
  refine WA.t 2 rfl (V.load Tryz.isAgg3 (OV.p rfl) (fun _ => by repeat (first | exact Rd.here rfl | apply Rd.up))) ?_
  refine WA.t 3 rfl (V.fieldAddr lD (OV.p rfl)) (WA.t 4 rfl (V.fieldAddr jr (OV.p rfl)) ?_)
  refine WA.t 5 rfl (V.load Tryz.isAgg3 (OV.p rfl) (fun _ => by repeat (first | exact Rd.here rfl | apply Rd.up))) ?_
  refine WA.t 7 rfl (V.fieldAddr qD (OV.p rfl)) ?_
  refine WA.t 8 rfl (V.load Tryz.isAgg3 (OV.p rfl) (fun _ => by repeat (first | exact Rd.here rfl | apply Rd.up))) ?_
  refine WA.t 9 rfl (V.fieldAddr qD (OV.p rfl)) ?_
  refine WA.t 10 rfl (V.load Tryz.isAgg3 (OV.p rfl) (fun _ => by repeat (first | exact Rd.here rfl | apply Rd.up))) ?_
  refine WA.o 6 rfl (WL.call (vs := [_, _]) Tryz.call167 ⟨OV.p rfl, OV.p rfl, trivial⟩ (jL _ _) rfl ?_)
  rintro _ H0 ⟨rfl, h0⟩
  subst H0
  refine WL.nil (WA.o 11 rfl (WL.call (vs := [_, _]) Tryz.call167 ⟨OV.p rfl, OV.p rfl, trivial⟩ (jL _ _) rfl ?_))
  rintro _ H0 ⟨rfl, h0⟩
  subst H0
  refine WL.nil (WA.o 12 rfl ?_)
  refine WL.buildSlice (E := 3) (cs := [_, _]) (vs := [(0, _), (1, _)]) ⟨OV.p rfl, OV.p rfl, trivial⟩ rfl (ng _ _) rfl (fun b17 => ?_)
  refine WL.nil (WA.o 13 rfl (WL.call (vs := [_]) Tryz.call170 ⟨OV.p rfl, trivial⟩ (GY (Seq.all rfl)) rfl ?_))
  rintro _ H0 ⟨rfl, h0⟩
  subst H0
  refine WL.nil (WA.t 14 rfl (V.assign (OV.p rfl)) (WA.fin (WC.ret ?_)))
  exact aj.ret (H' := F) (aL.tmp rfl rfl) (fun w h => h.drop 3) ⟨rfl, rfl⟩
  ⟩
theorem Jj : wm 169 KJ := ⟨Tryz.call169, fun K F x y => by
  refine Does.enter Tryz.func169 rfl Tryz.ntmps169 rfl ?_
  simp only [aJ, Nat.reduceAdd]
  refine WC.sr ?_
  refine WL.box (cs := [_, _, _, _, _]) (OV.p rfl) rfl rfl (fun b2 => ?_)
  refine WL.box (cs := [_, _, _, _, _]) (OV.p rfl) rfl rfl (fun b3 => ?_)
  refine WL.sg rfl rfl (WL.nil (WC.seq ?_))
  refine WC.xC (by kernel_rfl) ?_
  refine WA.t 0 rfl (V.fieldAddr lD (OV.p rfl)) (WA.t 1 rfl (V.fieldAddr jr (OV.p rfl)) ?_)
  refine WA.t 2 rfl (V.load Tryz.isAgg3 (OV.p rfl) (fun _ => by repeat (first | exact Rd.here rfl | apply Rd.up))) ?_
  refine WA.t 3 rfl (V.fieldAddr lD (OV.p rfl)) (WA.t 4 rfl (V.fieldAddr jr (OV.p rfl)) ?_)
  refine WA.t 5 rfl (V.load Tryz.isAgg3 (OV.p rfl) (fun _ => by repeat (first | exact Rd.here rfl | apply Rd.up))) ?_
  refine WA.t 7 rfl (V.fieldAddr qD (OV.p rfl)) ?_
  refine WA.t 8 rfl (V.load Tryz.isAgg3 (OV.p rfl) (fun _ => by repeat (first | exact Rd.here rfl | apply Rd.up))) ?_
  refine WA.t 9 rfl (V.fieldAddr qD (OV.p rfl)) ?_
  refine WA.t 10 rfl (V.load Tryz.isAgg3 (OV.p rfl) (fun _ => by repeat (first | exact Rd.here rfl | apply Rd.up))) ?_
  refine WA.o 6 rfl (WL.call (vs := [_, _]) Tryz.call167 ⟨OV.p rfl, OV.p rfl, trivial⟩ (jL _ _) rfl ?_)
  rintro _ H0 ⟨rfl, h0⟩
  subst H0
  refine WL.nil (WA.o 11 rfl (WL.call (vs := [_, _]) Tryz.call167 ⟨OV.p rfl, OV.p rfl, trivial⟩ (jL _ _) rfl ?_))
  rintro _ H0 ⟨rfl, h0⟩
  subst H0
  refine WL.nil (WA.o 12 rfl ?_)
  refine WL.buildSlice (E := 3) (cs := [_, _]) (vs := [(0, _), (1, _)]) ⟨OV.p rfl, OV.p rfl, trivial⟩ rfl (ng _ _) rfl (fun b17 => ?_)
  refine WL.nil (WA.o 13 rfl (WL.call (vs := [_]) Tryz.call170 ⟨OV.p rfl, trivial⟩ (GY (Seq.all rfl)) rfl ?_))
  rintro _ H0 ⟨rfl, h0⟩
  subst H0
  refine WL.nil (WA.t 14 rfl (V.assign (OV.p rfl)) (WA.fin (WC.ret ?_)))
  exact aj.ret (H' := F) (aL.tmp rfl rfl) (fun w h => h.drop 3) ⟨rfl, rfl⟩
  ⟩
theorem Ki : wm 166 zn := ⟨Tryz.call166, fun K F x y => by
  refine Does.enter Tryz.func166 rfl Tryz.ntmps166 rfl ?_
  simp only [aJ, Nat.reduceAdd]
  refine WC.sr ?_
  refine WL.box (cs := [_, _, _, _, _]) (OV.p rfl) rfl rfl (fun b2 => ?_)
  refine WL.box (cs := [_, _, _, _, _]) (OV.p rfl) rfl rfl (fun b3 => ?_)
  refine WL.sg rfl rfl (WL.nil (WC.sr (WL.val (V.fieldAddr lD (OV.p rfl)) rfl (WL.val (V.fieldAddr jr (OV.p rfl)) rfl (WL.ld Tryz.isAgg3 rfl rfl ?_)))))
  refine WL.val (V.fieldAddr lD (OV.p rfl)) rfl (WL.val (V.fieldAddr jr (OV.p rfl)) rfl (WL.ld Tryz.isAgg3 rfl rfl ?_))
  refine WL.call (vs := [_, _]) Tryz.call167 ⟨OV.p rfl, OV.p rfl, trivial⟩ (jL _ _) rfl ?_
  rintro _ H0 ⟨rfl, h0⟩
  subst H0
  refine WL.sg rfl rfl (WL.nil (WC.ret ?_))
  exact aj.ret (H' := F) (aL.tmp rfl rfl) (fun w h => h.drop 2) ⟨rfl, rfl⟩
  ⟩
abbrev ltOf (c : Fd → Fd → Int) : Fd → Fd → Bool := fun x y => decide (c x y < 0)
theorem zQ {f : Nat} : Does Tryz.prog 265 #[.slice none 0 0, .int .i64 0, .int .i64 0, .func (.func f) #[] #[]] K F (fun v H' => H' = F) := by
  refine Does.enter Tryz.func265 rfl Tryz.ntmps265 rfl ?_
  simp only [aJ, Nat.reduceAdd]
  refine WC.sr (WL.mv rfl rfl (WL.ad rfl rfl rfl ?_))
  refine WL.sg rfl rfl (WL.nil (WC.block (WC.rounds 1 (WC.seq (WC.sr (WL.mv rfl rfl (WL.mv rfl rfl (WL.val (V.lss (OV.p rfl) (OV.p rfl)) rfl (WL.nil ?_)))))))))
  refine WC.aM rfl (by first | rfl | (simp; done) | (simp; omega)) ?_
  refine WC.exit ?_
  exact aj.normal (H' := F) (aL.none rfl) (fun w h => h) rfl
theorem sN {f m : Nat} {S : Value} {H2 : List au} (hins : Does Tryz.prog 265 #[S, .int .i64 0, .int .i64 (m : Int), .func (.func f) #[] #[]] K F (fun v H' => H' = H2)) (hm : m < 20) :
    Does Tryz.prog 229 #[S, .int .i64 (m : Int), .func (.func f) #[] #[]] K F (fun v H' => H' = H2) := by
  refine Does.enter Tryz.func229 rfl Tryz.ntmps229 rfl ?_
  simp only [aJ, Nat.reduceAdd]
  refine WC.sr (WL.sg rfl rfl (WL.nil (WC.sr (WL.mv rfl rfl (WL.sg rfl rfl (WL.sg rfl rfl (WL.nil (WC.seq (WC.block (WC.rounds 1 (WC.seq (WC.sr (WL.mv rfl rfl (WL.mv rfl rfl (WL.val (V.leq (OV.p rfl) (OV.p rfl)) rfl (WL.nil ?_))))))))))))))))
  refine WC.aM rfl (by first | rfl | (simp; done) | (simp; omega)) ?_
  refine WC.exit (WC.sr (WL.mv rfl rfl (WL.mv rfl rfl (WL.mv rfl rfl (WL.mv rfl rfl (WL.call (vs := [_, _, _, _]) Tryz.call265 ⟨OV.p rfl, OV.p rfl, OV.p rfl, OV.p rfl, trivial⟩ (hins) rfl ?_))))))
  rintro v H0 h0
  subst h0
  refine WL.nil (WC.block (WC.rounds 1 (WC.seq (WC.sr (WL.mv rfl rfl (WL.mv rfl rfl (WL.val (V.lss (OV.p rfl) (OV.p rfl)) rfl (WL.nil ?_))))))))
  refine WC.aM rfl (by first | rfl | (simp; done) | (simp; omega)) ?_
  refine WC.exit ?_
  exact aj.normal (H' := H0) (aL.none rfl) (fun w h => h) rfl
theorem rD {f : Nat} {c : Fd → Fd → Int} (hf : wm f c) {A : Option Addr} {m cap : Nat} {ys : List Fd} (hm : ys.length = m) (h20 : m < 20) :
    Does Tryz.prog 168 #[.slice A m cap, .func (.func f) #[] #[]] K (bC (.slice A m cap) 237 5 m (bJ ys) :: F)
      (fun v H' => ∀ w, Sat K w H' → Sat K w (bC (.slice A m cap) 237 5 m (bJ (bX (ltOf c) ys)) :: F)) := by
  cases A with
  | none =>
    refine Does.have_ (p := m = 0 ∧ cap = 0) (fun w hw => ⟨(bC.vQ hw).1, (bC.vQ hw).2.1⟩) (fun h0 => ?_)
    obtain ⟨h1, h2⟩ := h0
    subst h2
    have hy : ys = [] := List.eq_nil_of_length_eq_zero (by omega)
    subst hy
    obtain rfl : m = 0 := by omega
    have hst := sN (K := K) (F := bC (.slice none 0 0) 237 5 0 (bJ []) :: F) (f := f) (m := 0) (S := .slice none 0 0) zQ (by decide)
    refine Does.enter Tryz.func168 rfl Tryz.ntmps168 rfl ?_
    simp only [aJ, Nat.reduceAdd]
    refine WC.region (WL.mv rfl rfl (WL.mv rfl rfl (WL.val (V.len (t := 170) Tryz.runUnderlying170 (OV.p rfl)) rfl (WL.mv rfl rfl (WL.call (vs := [_, _, _]) Tryz.call229 ⟨OV.p rfl, OV.p rfl, OV.p rfl, trivial⟩ (hst) rfl ?_)))))
    rintro v H0 h0
    subst h0
    refine WL.nil ?_
    exact aj.normal (H' := bC (.slice none 0 0) 237 5 0 (bJ []) :: F) (aL.none rfl) (fun w h => h) (fun w h => h)
  | some a =>
    refine Does.have_ (p := ∃ g, a = ⟨g, 0, none⟩) (fun w hw => bC.addr hw) (fun ⟨g, hg⟩ => ?_)
    subst hg
    refine Does.ex (fun w hw => Sat.lg hw) (fun r hr => ?_)
    obtain ⟨r1, r2, r3, r4⟩ := hr
    have hst := sN (wJ (K := K) (F := F) hf (b := g) (m := m) (cap := cap) (ys := ys) (r := r) hm (by omega)) h20
    refine Does.enter Tryz.func168 rfl Tryz.ntmps168 rfl ?_
    simp only [aJ, Nat.reduceAdd]
    refine WC.region (WL.mv rfl rfl (WL.mv rfl rfl (WL.val (V.len (t := 170) Tryz.runUnderlying170 (OV.p rfl)) rfl (WL.mv rfl rfl (WL.call (vs := [_, _, _]) Tryz.call229 ⟨OV.p rfl, OV.p rfl, OV.p rfl, trivial⟩ (hst) rfl ?_)))))
    rintro v H0 h0
    subst h0
    refine WL.nil ?_
    refine aj.normal (H' := Cells g 237 (bJ (bX (ltOf c) ys) ++ r) :: F) (aL.none rfl) (fun w h => h) (fun w h => ?_)
    have hfl : (bJ (bX (ltOf c) ys)).length = m * 5 := by rw [dQ, eT, hm]
    have Rb : (bJ ys).length = m * 5 := by rw [dQ, hm]
    have h' := Sat.Dc (m := m) (cap := cap) (s := 5) h (by rw [List.length_append] at r1 ⊢; omega) r3 r4
    rw [List.take_left' hfl] at h'
    exact h'
end
structure aY where
  A : Option Addr
  c : Nat
  l : List Fd
abbrev aY.v (x : aY) : Value := .slice x.A x.l.length x.c
def aY.row (x : aY) : au := bC (.slice x.A x.l.length x.c) 237 5 x.l.length (bJ x.l)
def jh (aI : Nat) (x : Fd) : Bool := x.whole && decide (x.hd.aI = (aI : Int))
def fE (av : Nat) (fs : List Fd) : List (List Fd) := (List.range av).map fun aI => fs.filter (jh aI)
theorem uw (av : Nat) (fs : List Fd) : (fE av fs).length = av := by simp [fE]
theorem vB {av : Nat} {fs : List Fd} {x : Fd} {aI : Nat} (hl : aI < av) (hx : x.whole = true) (hxl : x.hd.aI = (aI : Int)) : fE av (fs ++ [x]) = (fE av fs).set aI (fs.filter (jh aI) ++ [x]) := by
  apply List.ext_getElem
  · simp [fE]
  · intro i h1 h2
    rw [List.getElem_set]
    simp only [fE, List.getElem_map, List.getElem_range, List.filter_append]
    by_cases h : aI = i
    · subst h
      rw [if_pos rfl]
      congr 1
      rw [List.filter_cons, if_pos (by unfold jh; rw [hx, hxl]; simp)]; rfl
    · rw [if_neg h, List.filter_cons, if_neg (by unfold jh; rw [hx, hxl]; simp; omega)]
      simp
theorem rW {av : Nat} {fs : List Fd} {x : Fd} (h : ∀ aI, aI < av → jh aI x = false) : fE av (fs ++ [x]) = fE av fs := by
  unfold fE
  apply List.map_congr_left
  intro i hi
  rw [List.filter_append, List.filter_cons, if_neg (by rw [h i (List.mem_range.1 hi)]; decide)]
  simp
end Go.Proofs.YtcedojacbhnbiaaGreat
