import Derived.Test.YtohkefolnmcjnaaGreatP24
import Derived.Test.YtohkefolnmcjnaaGreatP5
import Derived.OrdersIn
/- store: forget, free, Unmap. -/
namespace Go.Proofs.YtohkefolnmcjnaaGreat
open Go.Sl Go.RowKit
set_option linter.unusedVariables false
set_option linter.unusedSimpArgs false
set_option maxRecDepth 20000

def idxI (b : Int) (xs : List Int) : Int := if b ∈ xs then (xs.idxOf b : Int) else -1
theorem idx_at {b : Int} {xs : List Int} {i : Nat} (h : i < xs.length) (hp : b ∉ xs.take i) (he : b = xs.getD i 0) : idxI b xs = (i : Int) := by
  have hget : xs.getD i 0 = xs[i] := by simp [List.getD, h]
  rw [hget] at he
  have hx : xs = xs.take i ++ b :: xs.drop (i + 1) := by
    rw [he, ← List.drop_eq_getElem_cons h, List.take_append_drop]
  have hb : b ∈ xs := by rw [he]; exact List.getElem_mem _
  unfold idxI
  rw [if_pos hb]
  have : xs.idxOf b = i := by
    rw [hx, List.idxOf_append, if_neg hp, List.idxOf_cons_self, List.length_take]; omega
  rw [this]
theorem idxI_neg {b : Int} {xs : List Int} : decide (idxI b xs ≥ 0) = decide (b ∈ xs) := by
  unfold idxI
  by_cases h : b ∈ xs
  · rw [if_pos h]; simp [h]
  · rw [if_neg h]; simp [h]
section
variable {K : World} {F : List Assn}
theorem index_ints {A : Option Addr} {m cap : Nat} {xs : List Int} (hs : Seq K F A m 1 (ints .i64 xs)) (hm : m ≤ 1000000) (b : Int) :
    Tells Tryz.prog 176 #[.slice A m cap, .int .i64 b] K F (.int .i64 (idxI b xs)) := by
  have hl : xs.length = m := by simpa [ints] using hs.len
  refine Does.enter Tryz.func176 rfl Tryz.ntmps176 rfl ?_
  simp only [env0, Nat.reduceAdd]
  refine WC.sr ?_
  refine WL.val (V.assign (OV.p rfl)) rfl ?_
  refine WL.nil ?_
  refine WC.seq ?_
  refine WC.sr ?_
  refine WL.val (V.move (OV.p rfl)) rfl ?_
  refine WL.val (V.len (t := 42) Tryz.runUnderlying42 (OV.p rfl)) rfl ?_
  refine WL.val (V.move (OV.p rfl)) rfl ?_
  refine WL.nil ?_
  refine WC.block ?_
  refine WC.loop (σ := Nat) (fun i => [(0, .slice A m cap), (1, .int .i64 b), (7, .int .i64 (m : Int)), (8, .int .i64 (i : Int))]) (fun i => F) (fun i => i ≤ m ∧ b ∉ xs.take i) (fun i => m - i) 0 ⟨Nat.zero_le _, by simp⟩ (.cons rfl (.cons rfl (.cons rfl (.cons rfl (.nil _))))) (fun w h => h) ?_
  rintro i ⟨hi, hp⟩
  refine WC.sr ?_
  refine WL.val (V.lss (OV.p rfl) (OV.p rfl)) rfl ?_
  refine WL.nil ?_
  refine WC.seq ?_
  refine WC.cond rfl (fun hc0 => ?_) (fun hc0 => ?_)
  ·simp only [decide_eq_true_eq, decide_eq_false_iff_not] at hc0
   have him : i < m := by omega
   have hti : (i : Int).toNat = i := by omega
   have hget : xs.getD i 0 = xs[i]'(by omega) := by simp [List.getD, show i < xs.length by omega]
   refine WC.skip ?_
   refine WC.seq ?_
   refine WC.block ?_
   refine WC.sr ?_
   refine WL.val (V.move (OV.p rfl)) rfl ?_
   refine WL.val (V.assign (OV.p rfl)) rfl ?_
   refine WL.nil ?_
   refine WC.sr ?_
   refine WL.val (V.move (OV.p rfl)) rfl ?_
   refine WL.val (V.move (OV.p rfl)) rfl ?_
   refine WL.val (V.move (OV.p rfl)) rfl ?_
   refine WL.val (V.idxS st42 (OV.p rfl) (OV.p rfl) (fun hc => by omega) (fun hc => Seq.int_rd hs (by omega))) rfl ?_
   refine WL.val (V.load Tryz.isAgg3 (OV.p rfl) (fun hc => Seq.int_rd hs (by omega))) rfl ?_
   refine WL.val (V.eql (OV.p rfl) (OV.p rfl)) rfl ?_
   refine WL.nil ?_
   refine WC.cond rfl (fun hc1 => ?_) (fun hc1 => ?_)
   ·simp only [decide_eq_true_eq, decide_eq_false_iff_not, hti] at hc1
    have h1 := hc1
    refine WC.sr ?_
    refine WL.val (V.move (OV.p rfl)) rfl ?_
    refine WL.val (V.assign (OV.p rfl)) rfl ?_
    refine WL.nil ?_
    refine WC.ret ?_
    exact BodyQ.ret (H' := F) (Res.tmp rfl rfl) (fun w h => h) ⟨by rw [idx_at (by omega) hp h1], rfl⟩
   ·simp only [decide_eq_true_eq, decide_eq_false_iff_not, hti] at hc1
    have h1 := hc1
    refine WC.skip ?_
    refine WC.region ?_
    refine WL.val (V.addI (OV.p rfl) (OV.p rfl) (fun hc => by first | omega | (simp at hc; omega))) rfl ?_
    refine WL.val (V.move (OV.p rfl)) rfl ?_
    refine WL.nil ?_
    refine ⟨rfl, ?_⟩
    refine ⟨i + 1, ⟨by show i + 1 ≤ m; omega, ?_⟩, (by show m - (i + 1) < m - i; omega), .cons rfl (.cons rfl (.cons rfl (.cons (look_eq rfl (by simp)) (.nil _)))), fun w h => h⟩
    rw [List.take_add_one, List.getElem?_eq_getElem (by omega), ← hget]
    simp only [Option.toList, List.mem_append, List.mem_singleton]
    rintro (h | h)
    · exact hp h
    · exact h1 h
  ·simp only [decide_eq_true_eq, decide_eq_false_iff_not] at hc0
   refine WC.exit ?_
   refine WC.sr ?_
   refine WL.val (V.assign (OV.p rfl)) rfl ?_
   refine WL.nil ?_
   refine WC.ret ?_
   obtain rfl : i = m := by omega
   rw [List.take_of_length_le (by omega)] at hp
   exact BodyQ.ret (H' := F) (Res.tmp rfl rfl) (fun w h => h) ⟨by unfold idxI; rw [if_neg hp], rfl⟩
theorem contains_ints {A : Option Addr} {m cap : Nat} {xs : List Int} (hs : Seq K F A m 1 (ints .i64 xs)) (hm : m ≤ 1000000) (b : Int) :
    Tells Tryz.prog 137 #[.slice A m cap, .int .i64 b] K F (.bool (decide (b ∈ xs))) := by
  refine Does.enter Tryz.func137 rfl Tryz.ntmps137 rfl ?_
  simp only [env0, Nat.reduceAdd]
  refine WC.sr ?_
  refine WL.val (V.assign (OV.p rfl)) rfl ?_
  refine WL.nil ?_
  refine WC.sr ?_
  refine WL.val (V.move (OV.p rfl)) rfl ?_
  refine WL.val (V.move (OV.p rfl)) rfl ?_
  refine WL.call (vs := [_, _]) Tryz.call176 ⟨OV.p rfl, OV.p rfl, trivial⟩ (index_ints hs hm b) rfl ?_
  rintro _ H0 ⟨rfl, h0⟩
  subst H0
  refine WL.val (V.geq (OV.p rfl) (OV.p rfl)) rfl ?_
  refine WL.val (V.assign (OV.p rfl)) rfl ?_
  refine WL.nil ?_
  refine WC.ret ?_
  exact BodyQ.ret (H' := F) (Res.tmp rfl rfl) (fun w h => h) ⟨by rw [idxI_neg], rfl⟩
theorem forget_is {b3 : Nat} {b : Int} (hb : Rd K F (some ⟨b3, 0, none⟩) (.int .i64 b)) (x : Int) : Tells Tryz.prog 138 ([Value.int .i64 x] ++ [ptr b3 0]).toArray K F (.bool (decide (x = b))) := by
  simp only [List.cons_append, List.nil_append]
  refine Does.enter Tryz.func138 rfl Tryz.ntmps138 rfl ?_
  simp only [env0, Nat.reduceAdd]
  refine WC.sr ?_
  refine WL.val (V.assign (OV.p rfl)) rfl ?_
  refine WL.nil ?_
  refine WC.sr ?_
  refine WL.val (V.move (OV.p rfl)) rfl ?_
  refine WL.val (V.load Tryz.isAgg3 (OV.p rfl) (fun hc => hb)) rfl ?_
  refine WL.val (V.eql (OV.p rfl) (OV.p rfl)) rfl ?_
  refine WL.val (V.assign (OV.p rfl)) rfl ?_
  refine WL.nil ?_
  refine WC.ret ?_
  exact BodyQ.ret (H' := F) (Res.tmp rfl rfl) (fun w h => h) ⟨rfl, rfl⟩
end
def forgetL (b : Int) (l : List Int) : List Int := l.filter fun x => !decide (x = b)
def St.forget (T : St) (b : Int) : St := { T with stale := T.stale.map (forgetL b) }
section
variable {bs bd bc : Nat} {g : Geo} {T : Stw} {C : Cw} {K : World} {F : List Assn}
theorem store_forget (hT : T.Ok g) (b : Int) : Does Tryz.prog 97 #[ptr bs 0, .int .i64 b] K (T.A bs bd g :: F)
    (fun v H' => ∃ T' : Stw, T'.Ok g ∧ T'.sem = T.sem.forget b ∧ H' = T'.A bs bd g :: F) := by
  have hn64 : T.irs.length ≤ 64 := by rw [hT.len]; exact hT.lebs.2
  refine Does.openS ?_
  dsimp only [Stw.parts, List.cons_append, List.nil_append]
  refine Does.enter Tryz.func97 rfl Tryz.ntmps97 rfl ?_
  simp only [env0, Nat.reduceAdd]
  refine WC.sr ?_
  refine WL.box (cs := [_]) (OV.p rfl) rfl rfl (fun b3 => ?_)
  refine WL.nil ?_
  refine WC.sr ?_
  refine WL.val (V.move (OV.p rfl)) rfl ?_
  refine WL.val (V.nilCheck (OV.p rfl)) rfl ?_
  refine WL.val (V.fieldAddr fo126_3 (OV.p rfl)) rfl ?_
  refine WL.val (V.load Tryz.isAgg124 (OV.p rfl) (fun _ => by repeat (first | exact Rd.here rfl | apply Rd.up))) rfl ?_
  refine WL.val (V.len (t := 124) Tryz.runUnderlying124 (OV.p rfl)) rfl ?_
  refine WL.val (V.move (OV.p rfl)) rfl ?_
  refine WL.nil ?_
  refine WC.block ?_
  refine WC.loop (σ := Nat × List IRow) (fun s => [(0, ptr bs 0), (3, ptr b3 0), (9, .slice (some ⟨T.b8, 0, none⟩) T.irs.length T.irs.length), (10, .int .i64 (T.irs.length : Int)), (11, .int .i64 (s.1 : Int))]) (fun s => Cells T.b8 42 (s.2.map IRow.v) :: AllA (s.2.map IRow.row) :: Cells b3 3 [.int .i64 b] :: Cells bs 126 (T.cells bd g) :: T.sl :: F) (fun s => s.1 ≤ T.irs.length ∧ s.2.length = T.irs.length ∧ s.2.map IRow.l = (T.irs.take s.1).map (fun r => forgetL b r.l) ++ (T.irs.drop s.1).map IRow.l) (fun s => T.irs.length - s.1) (0, T.irs) ⟨Nat.zero_le _, rfl, by simp⟩ (.cons rfl (.cons rfl (.cons rfl (.cons rfl (.cons rfl (.nil _)))))) (fun w h => h.sel 5 [3, 4, 0, 1, 2] rfl) ?_
  rintro ⟨j, irs⟩ ⟨hj, hil, his⟩
  dsimp only at hj hil his ⊢
  have hcl : (T.cells bd g)[7]? = some (.slice (some ⟨T.b8, 0, none⟩) T.irs.length T.irs.length) := rfl
  refine WC.sr ?_
  refine WL.val (V.lss (OV.p rfl) (OV.p rfl)) rfl ?_
  refine WL.nil ?_
  refine WC.seq ?_
  refine WC.cond rfl (fun hc0 => ?_) (fun hc0 => ?_)
  ·simp only [decide_eq_true_eq, decide_eq_false_iff_not] at hc0
   have hjn : j < T.irs.length := by omega
   obtain ⟨r, hr⟩ : ∃ r, r = irs[j]'(by omega) := ⟨_, rfl⟩
   have hrg : irs[j]? = some r := by rw [hr]; exact List.getElem?_eq_getElem (by omega)
   have hvg : (irs.map IRow.v)[0 + ((j : Nat) : Int).toNat * 1]? = some r.v := by rw [show 0 + ((j : Nat) : Int).toNat * 1 = j by omega, List.getElem?_map, hrg]; rfl
   have hrow : (irs.map IRow.row)[j]'(by rw [List.length_map]; omega) = r.row := by rw [List.getElem_map, hr]
   have hrl : r.l = (T.irs[j]'(by omega)).l := by
     have h1 : (irs.map IRow.l)[j]? = some r.l := by rw [List.getElem?_map, hrg]; rfl
     rw [his, List.getElem?_append_right (by rw [List.length_map, List.length_take]; omega), List.length_map, List.length_take, show j - min j T.irs.length = 0 by omega, List.getElem?_map, List.getElem?_drop, Nat.add_zero, List.getElem?_eq_getElem (by omega)] at h1
     injection h1 with h1
     exact h1.symm
   refine WC.skip ?_
   refine WC.seq ?_
   refine WC.block ?_
   refine WC.sr ?_
   refine WL.val (V.move (OV.p rfl)) rfl ?_
   refine WL.val (V.idxB st124 (OV.p rfl) (OV.p rfl) (fun hc => by omega)) rfl ?_
   refine WL.val (V.load Tryz.isAgg42 (OV.p rfl) (fun _ => Rd.here hvg)) rfl ?_
   refine WL.val (V.assign (OV.p rfl)) rfl ?_
   refine WL.val (V.assign (OV.p rfl)) rfl ?_
   refine WL.nil ?_
   refine WC.sub (H' := SlA (.slice r.A r.l.length r.c) 3 1 r.l.length (ints .i64 r.l) :: Cells T.b8 42 (irs.map IRow.v) :: AllA ((irs.map IRow.row).eraseIdx j) :: Cells b3 3 [.int .i64 b] :: Cells bs 126 (T.cells bd g) :: T.sl :: F) (Sub.refl _) (fun w h => by
     have h4 := Sat.takeA (k := j) (by rw [List.length_map]; omega) (h.sel 2 [1, 0] rfl)
     rw [hrow] at h4
     exact h4.sel 3 [0, 2, 1] rfl) ?_
   refine WC.regionA (AllA ((irs.map IRow.row).eraseIdx j) :: Cells b3 3 [.int .i64 b] :: Cells bs 126 (T.cells bd g) :: T.sl :: F) (by kernel_rfl) ?_
   refine WA.t 0 rfl (V.move (OV.p rfl)) ?_
   refine WA.t 1 rfl (V.nilCheck (OV.p rfl)) ?_
   refine WA.t 2 rfl (V.fieldAddr fo126_3 (OV.p rfl)) ?_
   refine WA.t 3 rfl (V.load Tryz.isAgg124 (OV.p rfl) (fun _ => by repeat (first | exact Rd.here hcl | apply Rd.up))) ?_
   refine WA.t 4 rfl (V.move (OV.p rfl)) ?_
   refine WA.t 5 rfl (V.move (OV.p rfl)) ?_
   refine WA.t 6 rfl (V.makeFunc (us := []) (vs := [_]) trivial ⟨OV.p rfl, trivial⟩) ?_
   refine WA.o 7 rfl ?_
   refine WL.call (vs := [_, _]) Tryz.call81 ⟨OV.p rfl, OV.p rfl, trivial⟩ (deleteFunc (xs := r.l) (p := fun x => decide (x = b)) (capt := [ptr b3 0]) Tryz.call138 (fun x _ X => forget_is (by repeat (first | exact Rd.here rfl | apply Rd.up)) x)) rfl ?_
   rintro _ _ ⟨q, hq, rfl, rfl⟩
   refine WL.nil ?_
   refine WA.t 8 rfl (V.idxB st124 (OV.p rfl) (OV.p rfl) (fun hc => by omega)) ?_
   refine WA.o 9 rfl ?_
   refine WL.store (cs := [_]) Tryz.sizeOf42 (OV.p rfl) (OV.p rfl) rfl rfl rfl (Upd.up (Upd.at_ (by rw [List.length_map]; omega))) ?_
   refine WL.nil ?_
   refine WA.fin ?_
   refine WC.region ?_
   refine WL.val (V.addI (OV.p rfl) (OV.p rfl) (fun hc => by first | omega | (simp at hc; omega))) rfl ?_
   refine WL.val (V.move (OV.p rfl)) rfl ?_
   refine WL.nil ?_
   refine ⟨rfl, ?_⟩
   refine ⟨(j + 1, irs.set j ⟨r.A, r.c, forgetL b r.l⟩), ⟨hjn, by show (irs.set _ _).length = T.irs.length; rw [List.length_set]; exact hil, ?_⟩, (by show T.irs.length - (j + 1) < T.irs.length - j; omega), .cons rfl (.cons rfl (.cons rfl (.cons rfl (.cons (look_eq rfl (by simp)) (.nil _))))), fun w h => ?_⟩
   · show (irs.set j _).map IRow.l = (T.irs.take (j + 1)).map (fun r => forgetL b r.l) ++ (T.irs.drop (j + 1)).map IRow.l
     rw [List.map_set, his, List.set_append_right _ _ (by rw [List.length_map, List.length_take]; omega), List.length_map, List.length_take, show j - min j T.irs.length = 0 by omega, List.drop_eq_getElem_cons (show j < T.irs.length by omega), List.map_cons, List.set_cons_zero, List.take_add_one, List.getElem?_eq_getElem (by omega), List.map_append, List.append_assoc]
     show _ ++ forgetL b r.l :: _ = _ ++ ([forgetL b (T.irs[j]'(by omega)).l] ++ _)
     rw [hrl]; rfl
   · subst hq
     have e1 : SlA (.slice r.A (r.l.filter fun x => !decide (x = b)).length r.c) 3 1 (r.l.filter fun x => !decide (x = b)).length (ints .i64 (r.l.filter fun x => !decide (x = b))) = IRow.row ⟨r.A, r.c, forgetL b r.l⟩ := rfl
     rw [e1] at h
     have h6 := Sat.putA (l := irs.map IRow.row) (k := j) (by rw [List.length_map]; omega) (h.sel 3 [0, 2, 1] rfl)
     have e2 : (irs.map IRow.v).set (0 + (j : Int).toNat * 1) (.slice r.A (r.l.filter fun x => !decide (x = b)).length r.c) = (irs.set j ⟨r.A, r.c, forgetL b r.l⟩).map IRow.v := by
       rw [show 0 + ((j : Nat) : Int).toNat * 1 = j by omega, List.map_set]; rfl
     rw [e2, ← List.map_set] at h6
     exact h6.p1
  ·simp only [decide_eq_true_eq, decide_eq_false_iff_not] at hc0
   refine WC.exit ?_
   obtain rfl : j = T.irs.length := by omega
   obtain ⟨T', hT'⟩ : ∃ T' : Stw, T' = { T with irs := irs } := ⟨_, rfl⟩
   refine BodyQ.normal (H' := T'.A bs bd g :: F) (Res.none rfl) (fun w h => ?_) ⟨T', ?_, ?_, rfl⟩
   · refine Sat.all (l := Stw.parts bs bd g T') (H := F) ?_
     rw [hT']
     unfold Stw.parts Stw.cells
     dsimp only
     rw [hil]
     exact h.sel 5 [3, 4, 0, 1] rfl
   · rw [hT']
     exact ⟨by show irs.length = T.stands.length; rw [hil, hT.len], hT.lebs, hT.next, hT.at_, hT.std⟩
   · rw [hT']
     unfold Stw.sem St.forget
     dsimp only
     rw [his, List.take_of_length_le (by omega), List.drop_eq_nil_of_le (by omega)]
     simp
end
end Go.Proofs.YtohkefolnmcjnaaGreat
/- The symbolic executor: a region that draws its order, in a round of a range over a function or in an iterator. -/
namespace Go.Sl
open Go.RowKit Go.BigFrame
set_option linter.unusedVariables false
set_option linter.unusedSimpArgs false

def noDefer (ops : Array Oper) : Bool := ops.all fun o => match o.op with | .defer _ => false | _ => true
theorem noDefer_spec {ops : Array Oper} (h : noDefer ops = true) {i : Nat} {o : Oper} (hi : ops[i]? = some o) : ∀ c, o.op ≠ .defer c := fun c hc => by
  unfold noDefer at h
  rw [Array.all_eq_true_iff_forall_mem] at h
  have h1 := h o (Array.mem_of_getElem? hi)
  rw [hc] at h1
  cases h1
section
variable {P : Program} {q : Exit → Act → World → Prop} {ops : Array Oper} {md : Region.Mode} {l : Option Nat}
theorem upon_in {o : Oper} {a : Act} {K : Act → World → Prop} {x : Result Next} (h : o.upon P a K q x) : o.uponIn (inF l) 0 P a K q x := by
  cases x with
  | ok nx w' =>
    cases nx <;> simp only [Oper.upon, Oper.uponIn] at h ⊢ <;> first
      | exact h
      | exact ⟨inF_depth l, inF_calls.2 h⟩
      | (refine ⟨inF_depth l, fun c cs _ => ?_⟩
         obtain ⟨v, w'', h1, h2⟩ := h c cs
         refine ⟨v, w'', h1, ?_⟩
         cases l
         · exact stepsIn_wide.2 h2
         · rw [fenced_inRound]; exact stepsIn_wide.2 h2)
  | halt x w' => cases x <;> simp only [Oper.upon, Oper.uponIn] at h ⊢ <;> exact h
theorem wpOp_in (hnd : noDefer ops = true) (hlo : ¬ LetsOut q) {i : Nat} {S S' : Act → World → Prop} (hS : ∀ a w, S a w → S' a w) {a : Act} {w : World} (h : wpOp P ops q i S a w) : wpOpIn (inF l) 0 P ops q i S' a w := by
  unfold wpOp at h
  unfold wpOpIn
  cases ho : ops[i]? with
  | none => rw [ho] at h; exact hS _ _ h
  | some o =>
    rw [ho] at h
    dsimp only at h ⊢
    split at h
    · rename_i hw
      rw [if_pos hw]
      rcases h with h | ⟨_, h⟩
      · refine ⟨fun f _ => inF_fn _ f, ?_⟩
        rw [Oper.semAt_eq _ _ _ (noDefer_spec hnd ho)]
        exact upon_in (Oper.wp_mono hS h)
      · exact absurd h hlo
    · rename_i hw
      rw [if_neg hw]
      exact ⟨fun f _ => inF_fn _ f, hS _ _ h⟩
theorem wpAny_in (hnd : noDefer ops = true) (hlo : ¬ LetsOut q) : ∀ (fuel : Nat) (listed : Array Bool) (a : Act) (w : World), wpAny P md ops q fuel listed a w → wpAnyIn (inF l) 0 P md ops q fuel listed a w
  | 0, _, _, _, h => h
  | fuel + 1, _, _, _, h => ⟨h.1, fun i hi => wpOp_in hnd hlo (fun a w hh => wpAny_in hnd hlo fuel _ a w hh) (h.2 i hi)⟩
end
/-- What stands behind, seen from a run outside of a round. -/
abbrev inR (l : Option Nat) (Q : Post) : Post := fun Mo x e H => Q ⟨some l, Mo.ds⟩ x e H
section
variable {K : World} {H : List Assn} {P : Program} {n : Nat} {e : Env} {Q : Post}
theorem lift_inR {l : Option Nat} {x : Exit} {a : Act} {w : World} (h : lift none K n (inR l Q) x a w) : lift (some l) K n Q x a w := by
  obtain ⟨ds, e, H, h1, h2, h3⟩ := h
  exact ⟨ds, e, H, ⟨h1.defers, h1.size, h1.at_⟩, h2, h3⟩
theorem WC.regionAR {l : Option Nat} {id : Nat} {os : List Oper} {ds : List Deferred} (F0 : List Assn) (hm : P.follows .mixedOrders = true) (h : WA ⟨none, ds⟩ P K n F0 os.toArray (inR l Q) os.length (Array.replicate os.length false) e H)
    (hnd : noDefer os.toArray = true := by kernel_rfl) (hlo : ∀ (p : Mode × Env) H, ¬ Q p.1 .outgrown p.2 H := by exact fun _ _ h => h) : WC ⟨some l, ds⟩ P K n (.region id os.toArray true) Q e H := fun a w ha hw => by
  show (Code.region id os.toArray true).wpIn (inF l) 0 P _ a w
  have hl : ¬ LetsOut (lift none K n (inR l Q)) := by
    rintro ⟨a, w, ds', e', H', _, _, h3⟩
    exact hlo (⟨some l, ds'⟩, e') H' h3
  have h1 := h a _ ⟨ha.defers, ha.size, ha.at_⟩ hw.drew
  have h2 := wpAny_in (l := l) hnd hl _ _ _ _ (wpAny_of_C (C := fun w => Sat K w F0) _ _ _ _ h1)
  have h3 : (Code.region id os.toArray true).wpIn (inF l) 0 P (lift none K n (inR l Q)) a w := wpIn_region_any hm (by simpa using h2)
  exact wpIn_mono h3 fun x a w h => lift_inR h
theorem WC.regionQR {l : Option Nat} {id : Nat} {os : List Oper} {ds : List Deferred} (hm : P.follows .mixedOrders = true) (hB : Region.lexB .any os.toArray = true) (h : WQ ⟨none, ds⟩ P K n os.toArray os (fun e' => Q ⟨some l, ds⟩ .normal e' H) e H)
    (hnd : noDefer os.toArray = true := by kernel_rfl) (hlo : ∀ (p : Mode × Env) H, ¬ Q p.1 .outgrown p.2 H := by exact fun _ _ h => h) : WC ⟨some l, ds⟩ P K n (.region id os.toArray true) Q e H := fun a w ha hw => by
  show (Code.region id os.toArray true).wpIn (inF l) 0 P _ a w
  have hl : ¬ LetsOut (lift none K n (inR l Q)) := by
    rintro ⟨a, w, ds', e', H', _, _, h3⟩
    exact hlo (⟨some l, ds'⟩, e') H' h3
  have h1 := h a ⟨ha.defers, ha.size, ha.at_⟩
  simp only [Region.lexB, Bool.and_eq_true] at hB
  have h2 : wpAny P .any os.toArray (lift none K n (inR l Q)) os.toArray.size (Array.replicate os.toArray.size false) a { w with drawn := w.drawn + 1 } := by
    refine wpAny_of_quiet (C := fun w => Sat K w H) (Q := fun a' => ∃ e', Agree ⟨none, ds⟩ n e' a' ∧ Q ⟨some l, ds⟩ .normal e' H) (fun a' w' hw' ⟨e', k1, k2⟩ => ⟨ds, e', H, k1, hw', k2⟩) _ _ _ _ hw.drew ?_
    have := wpAnyQ_lex (C := fun w => Sat K w H) (md := .any) hB.1 os.toArray.toList 0 (Array.replicate os.toArray.size false) a (by simp) (by simpa using hB.2) (by simpa using h1)
    simpa using this
  have h3 : (Code.region id os.toArray true).wpIn (inF l) 0 P (lift none K n (inR l Q)) a w := wpIn_region_any hm (wpAny_in hnd hl _ _ _ _ h2)
  exact wpIn_mono h3 fun x a w h => lift_inR h
end
end Go.Sl
/- store: the blocks that may be written on (a range over a function); Unmap. -/
namespace Go.Proofs.YtohkefolnmcjnaaGreat
open Go.Sl Go.RowKit
set_option linter.unusedVariables false
set_option linter.unusedSimpArgs false
set_option maxRecDepth 20000

section
variable {bs bd bc : Nat} {g : Geo} {K : World} {F : List Assn}
theorem free_make : Does Tryz.prog 96 #[ptr bs 0] K F (fun v H' => ∃ b1, v = .func (.func 136) #[] #[ptr b1 0] ∧ H' = Cells b1 56 [ptr bs 0] :: F) := by
  refine Does.enter Tryz.func96 rfl Tryz.ntmps96 rfl ?_
  simp only [env0, Nat.reduceAdd]
  refine WC.sr ?_
  refine WL.box (cs := [_]) (OV.p rfl) rfl rfl (fun b1 => ?_)
  refine WL.val (V.assign (OV.p rfl)) rfl ?_
  refine WL.nil ?_
  refine WC.sr ?_
  refine WL.val (V.makeFunc (us := []) (vs := [_]) trivial ⟨OV.p rfl, trivial⟩) rfl ?_
  refine WL.val (V.assign (OV.p rfl)) rfl ?_
  refine WL.nil ?_
  refine WC.ret ?_
  exact BodyQ.ret (H' := Cells b1 _ _ :: F) (Res.tmp rfl rfl) (fun w h => h) ⟨b1, rfl, rfl⟩
/-- The iterator: each block in its turn that is good and stands for none. -/
theorem free_does {l b1 : Nat} {Y1 Y2 : Assn} {gd std : List Int} {at0 : Int} {n : Nat} (hn : g.bl = (n : Int)) (hgm : g.mays) (hat : 0 ≤ at0 ∧ at0 < g.bl) (I : Nat → Cw → Stw → Prop) (Stop : Assn → List Assn → Prop)
    (hI : ∀ j C T, I j C T → C.Ok ∧ C.g = g ∧ T.Ok g ∧ T.stands = std ∧ T.at_ = at0)
    (hskip : ∀ j C T, j < n → ¬ ((at0 + (j : Int)) % g.bl ∈ gd ∧ ¬ (at0 + (j : Int)) % g.bl ∈ std) → I j C T → I (j + 1) C T)
    (hround : ∀ j C T X, j < n → ((at0 + (j : Int)) % g.bl ∈ gd ∧ ¬ (at0 + (j : Int)) % g.bl ∈ std) → I j C T → YieldsTo Tryz.prog K none l #[.int .i64 ((at0 + (j : Int)) % g.bl)] (Y1 :: Y2 :: X :: C.A bc :: DvA bd bc g :: T.A bs bd g :: Cells b1 56 [ptr bs 0] :: F)
      (fun b H' => (b = true ∧ ∃ C' T', I (j + 1) C' T' ∧ H' = Y1 :: Y2 :: X :: C'.A bc :: DvA bd bc g :: T'.A bs bd g :: Cells b1 56 [ptr bs 0] :: F) ∨ (b = false ∧ Stop X H')))
    {C0 : Cw} {T0 : Stw} (hgd : gd = C0.sem.good) (h0 : I 0 C0 T0) :
    Does Tryz.prog 136 #[.func (.yield l) #[] #[], ptr b1 0] K (Y1 :: Y2 :: C0.A bc :: DvA bd bc g :: T0.A bs bd g :: Cells b1 56 [ptr bs 0] :: F)
      (fun v H' => ∃ X, (∃ C T, I n C T ∧ H' = Y1 :: Y2 :: X :: C.A bc :: DvA bd bc g :: T.A bs bd g :: Cells b1 56 [ptr bs 0] :: F) ∨ Stop X H') := by
  have hgb := hgm
  unfold Geo.mays at hgb
  obtain ⟨hC0, hCg0, hT0, hst0, hat0⟩ := hI _ _ _ h0
  have hgl : gd.length ≤ 256 := by
    have h1 := Chip.goodTo_length C0.sem C0.sem.g.bl.toNat
    have h2 : C0.sem.g.bl.toNat ≤ 256 := by rw [show C0.sem.g = C0.g from rfl, hCg0]; omega
    rw [hgd]; unfold Chip.good; omega
  refine Does.enterY Tryz.func136 rfl Tryz.ntmps136 rfl ?_
  simp only [env0, Nat.reduceAdd]
  refine WC.sr ?_
  refine WL.val (V.load Tryz.isAgg56 (OV.p rfl) (fun hc => by repeat (first | exact Rd.here rfl | apply Rd.up))) rfl ?_
  refine WL.val (V.nilCheck (OV.p rfl)) rfl ?_
  refine WL.val (V.fieldAddr fo126_0 (OV.p rfl)) rfl ?_
  refine WL.val (V.load Tryz.isAgg31 (OV.p rfl) (fun _ => by repeat (first | exact Stw.rds 0 _ rfl | apply Rd.up))) rfl ?_
  refine WL.sub (Sub.refl _) (fun w h => h.sel 6 [2, 3, 0, 1, 4, 5] rfl) ?_
  refine WL.call (vs := [_]) Tryz.call18 ⟨OV.p rfl, trivial⟩ (drive_GoodG hC0 hCg0) rfl ?_
  rintro _ _ ⟨Ag, cg, rfl, rfl⟩
  rw [← hgd]
  refine WL.val (V.assign (OV.p rfl)) rfl ?_
  refine WL.nil ?_
  refine WC.sr ?_
  refine WL.val (V.load Tryz.isAgg56 (OV.p rfl) (fun hc => by repeat (first | exact Rd.here rfl | apply Rd.up))) rfl ?_
  refine WL.val (V.nilCheck (OV.p rfl)) rfl ?_
  refine WL.val (V.fieldAddr fo126_1 (OV.p rfl)) rfl ?_
  refine WL.val (V.fieldAddr fo23_0 (OV.p rfl)) rfl ?_
  refine WL.val (V.load Tryz.isAgg3 (OV.p rfl) (fun _ => by repeat (first | exact Stw.rds 1 _ rfl | apply Rd.up))) rfl ?_
  refine WL.val (V.move (OV.p rfl)) rfl ?_
  refine WL.nil ?_
  refine WC.block ?_
  obtain ⟨X, hX⟩ : ∃ X, X = SlA (.slice Ag gd.length cg) 3 1 gd.length (ints .i64 gd) := ⟨_, rfl⟩
  rw [← hX]
  have hsq : ∀ {H : List Assn}, Seq K (X :: H) Ag gd.length 1 (ints .i64 gd) := fun {H} => by rw [hX]; exact SlA.seq (by rw [ints_length, Nat.mul_one])
  refine WC.loop (σ := Nat × Cw × Stw) (fun s => [(0, .func (.yield l) #[] #[]), (1, ptr b1 0), (3, .slice Ag gd.length cg), (15, .int .i64 (n : Int)), (16, .int .i64 (s.1 : Int))]) (fun s => Y1 :: Y2 :: X :: s.2.1.A bc :: DvA bd bc g :: s.2.2.A bs bd g :: Cells b1 56 [ptr bs 0] :: F) (fun s => s.1 ≤ n ∧ I s.1 s.2.1 s.2.2) (fun s => n - s.1) (0, C0, T0) ⟨Nat.zero_le _, h0⟩ (.cons rfl (.cons rfl (.cons rfl (.cons (look_eq rfl (by rw [hn])) (.cons rfl (.nil _)))))) (fun w h => h.sel 7 [3, 4, 0, 1, 2, 5, 6] rfl) ?_
  rintro ⟨j, C, T⟩ ⟨hj, hIj⟩
  dsimp only at hj hIj ⊢
  obtain ⟨hC, hCg, hT, hst, hat⟩ := hI _ _ _ hIj
  refine WC.sr ?_
  refine WL.val (V.lss (OV.p rfl) (OV.p rfl)) rfl ?_
  refine WL.nil ?_
  refine WC.seq ?_
  refine WC.cond rfl (fun hc0 => ?_) (fun hc0 => ?_)
  ·simp only [decide_eq_true_eq, decide_eq_false_iff_not] at hc0
   have hjn : j < n := by omega
   obtain ⟨b, hb⟩ : ∃ b, b = (at0 + (j : Int)) % g.bl := ⟨_, rfl⟩
   have hro := hround j C T X hjn
   have hsk := hskip j C T hjn
   rw [← hb] at hro hsk
   refine WC.skip ?_
   refine WC.seq ?_
   refine WC.block ?_
   refine WC.sr ?_
   refine WL.val (V.move (OV.p rfl)) rfl ?_
   refine WL.val (V.assign (OV.p rfl)) rfl ?_
   refine WL.nil ?_
   refine WC.seq ?_
   refine WC.regionQR (by kernel_rfl) (by kernel_rfl) ?_
   refine WQ.val (V.load Tryz.isAgg56 (OV.p rfl) (fun hc => by repeat (first | exact Rd.here rfl | apply Rd.up))) rfl ?_
   refine WQ.val (V.nilCheck (OV.p rfl)) rfl ?_
   refine WQ.val (V.fieldAddr fo126_5 (OV.p rfl)) rfl ?_
   refine WQ.val (V.val_eq (v' := .int .i64 at0) (V.load Tryz.isAgg3 (OV.p rfl) (fun _ => by repeat (first | exact Stw.rds 9 _ rfl | apply Rd.up))) (fun _ => by rw [hat])) rfl ?_
   refine WQ.val (V.move (OV.p rfl)) rfl ?_
   refine WQ.val (V.addI (OV.p rfl) (OV.p rfl) (fun hc => by first | omega | (simp at hc; omega))) rfl ?_
   refine WQ.val (V.load Tryz.isAgg56 (OV.p rfl) (fun hc => by repeat (first | exact Rd.here rfl | apply Rd.up))) rfl ?_
   refine WQ.val (V.nilCheck (OV.p rfl)) rfl ?_
   refine WQ.val (V.fieldAddr fo126_1 (OV.p rfl)) rfl ?_
   refine WQ.val (V.fieldAddr fo23_0 (OV.p rfl)) rfl ?_
   refine WQ.val (V.load Tryz.isAgg3 (OV.p rfl) (fun _ => by repeat (first | exact Stw.rds 1 _ rfl | apply Rd.up))) rfl ?_
   refine WQ.val (V.val_eq (v' := .int .i64 b) (V.remI (OV.p rfl) (OV.p rfl) (fun _ => by omega)) (fun _ => by rw [hb])) rfl ?_
   refine WQ.val (V.assign (OV.p rfl)) rfl ?_
   refine WQ.nil ?_
   refine WC.seq ?_
   refine WC.sr ?_
   refine WL.val (V.move (OV.p rfl)) rfl ?_
   refine WL.val (V.move (OV.p rfl)) rfl ?_
   refine WL.call (vs := [_, _]) Tryz.call137 ⟨OV.p rfl, OV.p rfl, trivial⟩ (contains_ints (by repeat (first | exact hsq | apply Seq.up)) (by omega) b) rfl ?_
   rintro _ H0 ⟨rfl, h0⟩
   subst H0
   refine WL.val (V.not (OV.p rfl)) rfl ?_
   refine WL.val (V.move (OV.p rfl)) rfl ?_
   refine WL.valG (oj := _) rfl rfl rfl GC.f (V.load Tryz.isAgg56 (OV.p rfl) (fun hc => by repeat (first | exact Rd.here rfl | apply Rd.up))) rfl ?_
   refine WL.valG (oj := _) rfl rfl rfl GC.f (V.nilCheck (OV.g rfl id)) rfl ?_
   refine WL.valG (oj := _) rfl rfl rfl GC.f (V.fieldAddr fo126_2 (OV.g rfl id)) rfl ?_
   refine WL.valG (oj := _) rfl rfl rfl GC.f (V.load Tryz.isAgg42 (OV.g rfl id) (fun hc => by repeat (first | exact Stw.rds 6 _ rfl | apply Rd.up))) rfl ?_
   refine WL.valG (oj := _) rfl rfl rfl GC.f (V.move (OV.p rfl)) rfl ?_
   refine WL.callG (oj := _) (vs := [_, _]) rfl rfl rfl GC.f Tryz.call137 ⟨OV.g rfl id, OV.g rfl id, trivial⟩ (fun hg => contains_ints (by repeat (first | exact Stw.seqS | apply Seq.up)) (by have := hT.lebs; omega) b) rfl ?_
   refine WL.val (V.pickOr (OV.p rfl) (OV.g rfl id)) rfl ?_
   refine WL.nil ?_
   refine WC.cond rfl (fun hc1 => ?_) (fun hc1 => ?_)
   ·rw [hst] at hc1
    have h1 := hc1
    refine WC.exit ?_
    refine WC.region ?_
    refine WL.val (V.addI (OV.p rfl) (OV.p rfl) (fun hc => by first | omega | (simp at hc; omega))) rfl ?_
    refine WL.val (V.move (OV.p rfl)) rfl ?_
    refine WL.nil ?_
    refine ⟨rfl, ?_⟩
    first
    | exact ⟨(j + 1, C2, T2), ⟨hjn, hI2⟩, (by show n - (j + 1) < n - j; omega), .cons rfl (.cons rfl (.cons rfl (.cons rfl (.cons (look_eq rfl (by simp)) (.nil _))))), fun w h => h⟩
    | exact ⟨(j + 1, C, T), ⟨hjn, hsk (fun hn => by simp only [Bool.or_eq_true, Bool.not_eq_true', decide_eq_false_iff_not, decide_eq_true_eq] at h1; rcases h1 with h | h; exact h hn.1; exact hn.2 h) hIj⟩, (by show n - (j + 1) < n - j; omega), .cons rfl (.cons rfl (.cons rfl (.cons rfl (.cons (look_eq rfl (by simp)) (.nil _))))), fun w h => h⟩
   ·rw [hst] at hc1
    have h1 := hc1
    refine WC.skip ?_
    refine WC.sr ?_
    refine WL.val (V.move (OV.p rfl)) rfl ?_
    refine WL.val (V.move (OV.p rfl)) rfl ?_
    refine WL.callY (r := none) (l := l) (vs := [_]) (OV.p rfl) ⟨OV.p rfl, trivial⟩ (hro (by simpa using h1) hIj) rfl ?_
    rintro yb YH hy
    refine WL.val (V.not (OV.p rfl)) rfl ?_
    refine WL.nil ?_
    refine WC.cond rfl (fun hc2 => ?_) (fun hc2 => ?_)
    ·skip
     have h2 := hc2
     simp only [Bool.not_eq_true', Bool.not_eq_false'] at h2
     have hstop : Stop X YH := by
       rcases hy with ⟨h3, _⟩ | ⟨_, h3⟩
       · rw [h3] at h2; cases h2
       · exact h3
     refine WC.ret ?_
     exact BodyQ.ret (H' := YH) (Res.none rfl) (fun w h => h) ⟨X, .inr hstop⟩
    ·skip
     have h2 := hc2
     simp only [Bool.not_eq_true', Bool.not_eq_false'] at h2
     obtain ⟨C2, T2, hI2, rfl⟩ : ∃ C2 T2, I (j + 1) C2 T2 ∧ YH = Y1 :: Y2 :: X :: C2.A bc :: DvA bd bc g :: T2.A bs bd g :: Cells b1 56 [ptr bs 0] :: F := by
       rcases hy with ⟨_, h3⟩ | ⟨h3, _⟩
       · exact h3
       · rw [h3] at h2; cases h2
     refine WC.skip ?_
     refine WC.region ?_
     refine WL.val (V.addI (OV.p rfl) (OV.p rfl) (fun hc => by first | omega | (simp at hc; omega))) rfl ?_
     refine WL.val (V.move (OV.p rfl)) rfl ?_
     refine WL.nil ?_
     refine ⟨rfl, ?_⟩
     first
     | exact ⟨(j + 1, C2, T2), ⟨hjn, hI2⟩, (by show n - (j + 1) < n - j; omega), .cons rfl (.cons rfl (.cons rfl (.cons rfl (.cons (look_eq rfl (by simp)) (.nil _))))), fun w h => h⟩
     | exact ⟨(j + 1, C, T), ⟨hjn, hsk (fun hn => by simp only [Bool.or_eq_true, Bool.not_eq_true', decide_eq_false_iff_not, decide_eq_true_eq] at h1; rcases h1 with h | h; exact h hn.1; exact hn.2 h) hIj⟩, (by show n - (j + 1) < n - j; omega), .cons rfl (.cons rfl (.cons rfl (.cons rfl (.cons (look_eq rfl (by simp)) (.nil _))))), fun w h => h⟩
  ·simp only [decide_eq_true_eq, decide_eq_false_iff_not] at hc0
   refine WC.exit ?_
   obtain rfl : j = n := by omega
   exact BodyQ.normal (H' := Y1 :: Y2 :: X :: C.A bc :: DvA bd bc g :: T.A bs bd g :: Cells b1 56 [ptr bs 0] :: F) (Res.none rfl) (fun w h => h) ⟨X, .inl ⟨C, T, hIj, rfl⟩⟩
end
end Go.Proofs.YtohkefolnmcjnaaGreat
/- store: write. -/
namespace Go.Proofs.YtohkefolnmcjnaaGreat
open Go.Sl Go.RowKit
set_option linter.unusedVariables false
set_option linter.unusedSimpArgs false
set_option maxRecDepth 20000

/-! ### Write, plainly -/
def pgOf (g : Geo) (h : Hd) (d : List Nat) : Nat → List Nat
  | 0 => headB g h
  | p + 1 => (d.drop (p * g.room.toNat)).take g.room.toNat ++ List.replicate (g.room.toNat - ((d.drop (p * g.room.toNat)).take g.room.toNat).length) 0
def wrTo (S : Chip) (b : Int) (pg : Nat → List Nat) : Nat → Chip × Int
  | 0 => (S, 0)
  | k + 1 => if (wrTo S b pg k).2 ≠ 0 then wrTo S b pg k else (wrTo S b pg k).1.dWrite b k (pg k)
def sWrite (S : Chip) (num b leb : Int) (d : List Nat) : Chip × Int :=
  if (S.dErase b).2 ≠ 0 then S.dErase b
  else wrTo (S.dErase b).1 b (pgOf S.g ⟨leb, d.length, num⟩ d) ((S.g.pagesOf d.length).toNat + 1)
theorem wrTo_err {S : Chip} {b : Int} {pg : Nat → List Nat} {k : Nat} (h : (wrTo S b pg k).2 ≠ 0) : ∀ m, wrTo S b pg (k + m) = wrTo S b pg k
  | 0 => rfl
  | m + 1 => by rw [← Nat.add_assoc, wrTo, wrTo_err h m, if_pos h]
theorem pgOf_small {g : Geo} {h : Hd} {d : List Nat} (hd : Small 256 d) : ∀ p, Small 256 (pgOf g h d p)
  | 0 => headB_small g h
  | p + 1 => by
    unfold pgOf
    intro x hx
    rcases List.mem_append.1 hx with hx | hx
    · exact Small.take (Small.drop hd) x hx
    · rw [List.eq_of_mem_replicate hx]; decide
theorem pgOf_length {g : Geo} {h : Hd} {d : List Nat} (hg : g.mays) : ∀ p, (pgOf g h d p).length = g.room.toNat
  | 0 => headB_length hg h
  | p + 1 => by
    unfold pgOf
    rw [List.length_append, List.length_replicate]
    have := List.length_take_le (g.room.toNat) (d.drop (p * g.room.toNat))
    omega
theorem pages_past {g : Geo} (hg : g.mays) {m k : Nat} (h : m ≤ k * g.room.toNat) : (g.pagesOf m).toNat ≤ k := by
  have hr := Geo.room_bd hg
  have h1 : g.pagesOf m < (k : Int) + 1 := by
    unfold Geo.pagesOf
    refine Int.ediv_lt_of_lt_mul (by omega) ?_
    have : ((k * g.room.toNat : Nat) : Int) = (k : Int) * g.room := by rw [Int.natCast_mul]; congr 1; omega
    rw [Int.add_mul, Int.one_mul]
    omega
  omega
theorem pages_not {g : Geo} (hg : g.mays) {m k : Nat} (h : k * g.room.toNat < m) : k < (g.pagesOf m).toNat := by
  have hr := Geo.room_bd hg
  have h1 : (k : Int) + 1 ≤ g.pagesOf m := by
    unfold Geo.pagesOf
    refine Int.le_ediv_of_mul_le (by omega) ?_
    have : ((k * g.room.toNat : Nat) : Int) = (k : Int) * g.room := by rw [Int.natCast_mul]; congr 1; omega
    rw [Int.add_mul, Int.one_mul]
    omega
  omega
section
variable {bs bd bc : Nat} {g : Geo} {T : Stw} {C : Cw} {K : World} {F : List Assn}
theorem store_write (hC : C.Ok) (hg : C.g = g) (hT : T.Ok g) {b leb : Int} {A : Option Addr} {m cap : Nat} {d : List Nat} (hd : Seq K F A m 1 (nats .u8 d)) (h8 : Small 256 d) (hmc : m ≤ cap) (hm : m ≤ 1000000)
    (hleb : 0 ≤ leb) (hmay : Hd.may g ⟨leb, (d.length : Nat), T.next⟩ = true) : Does Tryz.prog 98 #[ptr bs 0, .int .i64 b, .int .i64 leb, .slice A m cap] K (C.A bc :: DvA bd bc g :: T.A bs bd g :: F)
    (fun v H' => ∃ C' : Cw, C'.Ok ∧ C'.g = g ∧ C'.sem = (sWrite C.sem T.next b leb d).1 ∧ v = .int .i64 (sWrite C.sem T.next b leb d).2 ∧ H' = C'.A bc :: DvA bd bc g :: T.A bs bd g :: F) := by
  have hgm : g.mays := by rw [← hg]; exact hC.mays
  have hgs : C.sem.g = g := hg
  have hrb := Geo.room_bd hgm
  have hdl : d.length = m := by simpa [nats] using hd.len
  obtain ⟨X, hX⟩ : ∃ X, X = sWrite C.sem T.next b leb d := ⟨_, rfl⟩
  rw [← hX]
  unfold sWrite at hX
  rw [hgs, hdl] at hX
  rw [hdl] at hmay
  obtain ⟨R, hR⟩ : ∃ R : Nat, g.room = (R : Int) := ⟨g.room.toNat, by omega⟩
  have hRn : g.room.toNat = R := by omega
  have hRb : 1 ≤ R ∧ R ≤ 4096 := by omega
  refine Does.enter Tryz.func98 rfl Tryz.ntmps98 rfl ?_
  simp only [env0, Nat.reduceAdd]
  refine WC.sr ?_
  refine WL.val (V.assign (OV.p rfl)) rfl ?_
  refine WL.nil ?_
  refine WC.seq ?_
  refine WC.sr ?_
  refine WL.val (V.move (OV.p rfl)) rfl ?_
  refine WL.val (V.nilCheck (OV.p rfl)) rfl ?_
  refine WL.val (V.fieldAddr fo126_0 (OV.p rfl)) rfl ?_
  refine WL.val (V.load Tryz.isAgg31 (OV.p rfl) (fun _ => by repeat (first | exact Stw.rds 0 _ rfl | apply Rd.up))) rfl ?_
  refine WL.val (V.move (OV.p rfl)) rfl ?_
  refine WL.call (vs := [_, _]) Tryz.call61 ⟨OV.p rfl, OV.p rfl, trivial⟩ (drive_EraseG hC hg b) rfl ?_
  rintro _ _ ⟨C1, hC1, hg1, rfl, hs1, rfl⟩
  refine WL.val (V.assign (OV.p rfl)) rfl ?_
  refine WL.nil ?_
  refine WC.sr ?_
  refine WL.val (V.move (OV.p rfl)) rfl ?_
  refine WL.val (V.neq (OV.p rfl) (OV.p rfl)) rfl ?_
  refine WL.nil ?_
  refine WC.cond rfl (fun hc0 => ?_) (fun hc0 => ?_)
  ·simp only [Bool.not_eq_true', Bool.not_eq_false', decide_eq_true_eq, decide_eq_false_iff_not] at hc0
   have h0 := hc0
   rw [if_pos h0] at hX
   refine WC.sr ?_
   refine WL.val (V.move (OV.p rfl)) rfl ?_
   refine WL.val (V.assign (OV.p rfl)) rfl ?_
   refine WL.nil ?_
   refine WC.ret ?_
   subst hX
   exact BodyQ.ret (H' := C1.A bc :: DvA bd bc g :: T.A bs bd g :: F) (Res.tmp rfl rfl) (fun w h => h) ⟨C1, hC1, hg1, hs1, rfl, rfl⟩
  ·simp only [Bool.not_eq_true', Bool.not_eq_false', decide_eq_true_eq, decide_eq_false_iff_not] at hc0
   have h0 := hc0
   rw [if_neg (fun h => h (by omega))] at hX
   refine WC.skip ?_
   refine WC.sr ?_
   refine WL.val (V.move (OV.p rfl)) rfl ?_
   refine WL.val (V.nilCheck (OV.p rfl)) rfl ?_
   refine WL.val (V.fieldAddr fo126_1 (OV.p rfl)) rfl ?_
   refine WL.val (V.loadA (vs := [.int .i64 g.bl, .int .i64 g.pg, .int .i64 g.se, .int .i64 g.sb, .int .i64 g.fl]) ⟨Tryz.isAgg23, Tryz.sizeOf23⟩ (OV.p rfl) rfl (fun _ => by repeat (first | exact Stw.rdg | apply Rds.up))) rfl ?_
   refine WL.call (vs := [_]) Tryz.call73 ⟨OV.p rfl, trivial⟩ (ecc_RoomOk hgm) rfl ?_
   rintro _ H0 ⟨rfl, h0⟩
   subst H0
   refine WL.val (V.move (OV.p rfl)) rfl ?_
   refine WL.val (V.extract (OV.p rfl) rfl) rfl ?_
   refine WL.val (V.extract (OV.p rfl) rfl) rfl ?_
   refine WL.val (V.assign (OV.p rfl)) rfl ?_
   refine WL.val (V.assign (OV.p rfl)) rfl ?_
   refine WL.nil ?_
   refine WC.seq ?_
   refine WC.regionA (C1.A bc :: DvA bd bc g :: T.A bs bd g :: F) (by kernel_rfl) ?_
   refine WA.t 0 rfl (V.move (OV.p rfl)) ?_
   refine WA.t 1 rfl (V.nilCheck (OV.p rfl)) ?_
   refine WA.t 2 rfl (V.fieldAddr fo126_1 (OV.p rfl)) ?_
   refine WA.t 3 rfl (V.loadA (vs := [.int .i64 g.bl, .int .i64 g.pg, .int .i64 g.se, .int .i64 g.sb, .int .i64 g.fl]) ⟨Tryz.isAgg23, Tryz.sizeOf23⟩ (OV.p rfl) rfl (fun _ => by repeat (first | exact Stw.rdg | apply Rds.up))) ?_
   refine WA.t 4 rfl (V.move (OV.p rfl)) ?_
   refine WA.t 5 rfl (V.move (OV.p rfl)) ?_
   refine WA.t 6 rfl (V.len (t := 38) Tryz.runUnderlying38 (OV.p rfl)) ?_
   refine WA.t 7 rfl (V.move (OV.p rfl)) ?_
   refine WA.t 8 rfl (V.nilCheck (OV.p rfl)) ?_
   refine WA.t 9 rfl (V.fieldAddr fo126_4 (OV.p rfl)) ?_
   refine WA.t 10 rfl (V.load Tryz.isAgg3 (OV.p rfl) (fun _ => by repeat (first | exact Stw.rds 8 _ rfl | apply Rd.up))) ?_
   refine WA.t 11 rfl (V.build (vs := [(0, _), (1, _), (2, _)]) ⟨OV.p rfl, OV.p rfl, OV.p rfl, trivial⟩ rfl (bld129_0_1_2 _ _ _)) ?_
   refine WA.o 12 rfl ?_
   refine WL.call (vs := [_, _]) Tryz.call126 ⟨OV.p rfl, OV.p rfl, trivial⟩ (head_Bytes hgm ⟨leb, (m : Nat), T.next⟩ (by show (m : Int) ≤ _; omega) hleb (by show 0 ≤ T.next; have := hT.next; omega)) rfl ?_
   rintro v5 H5 h5
   obtain ⟨Ap, cp, rfl, rfl⟩ : ∃ Ap cp, v5 = .tuple #[.slice Ap g.room.toNat cp, .int .i64 0] ∧ H5 = SlA (.slice Ap g.room.toNat cp) 5 1 g.room.toNat (nats .u8 (headB g ⟨leb, (m : Nat), T.next⟩)) :: C1.A bc :: DvA bd bc g :: T.A bs bd g :: F := by
     rcases h5 with ⟨_, h⟩ | ⟨h, _⟩
     · obtain ⟨Ap, cp, h⟩ := h; exact ⟨Ap, cp, h.1, h.2⟩
     · rw [hmay] at h; cases h
   refine WL.nil ?_
   refine WA.t 13 rfl (V.move (OV.p rfl)) ?_
   refine WA.t 14 rfl (V.extract (OV.p rfl) rfl) ?_
   refine WA.t 15 rfl (V.extract (OV.p rfl) rfl) ?_
   refine WA.t 16 rfl (V.assign (OV.p rfl)) ?_
   refine WA.t 17 rfl (V.assign (OV.p rfl)) ?_
   refine WA.fin ?_
   refine WC.sr ?_
   refine WL.val (V.assign (OV.p rfl)) rfl ?_
   refine WL.nil ?_
   refine WC.block ?_
   obtain ⟨pg, hpg⟩ : ∃ pg, pg = pgOf g ⟨leb, (m : Nat), T.next⟩ d := ⟨_, rfl⟩
   obtain ⟨N, hN⟩ : ∃ N, N = (g.pagesOf (m : Nat)).toNat := ⟨_, rfl⟩
   rw [← hpg, ← hN] at hX
   have hps : ∀ p, Small 256 (pg p) := fun p => by rw [hpg]; exact pgOf_small h8 p
   have hpl : ∀ p, (pg p).length = R := fun p => by rw [hpg, pgOf_length hgm p, hRn]
   have hpp : ∀ k, m ≤ k * R → N ≤ k := fun k h => by rw [hN]; exact pages_past hgm (by rw [hRn]; exact h)
   have hpn : ∀ k, k * R < m → k < N := fun k h => by rw [hN]; exact pages_not hgm (by rw [hRn]; exact h)
   rw [hRn]
   refine WC.loop (σ := Cw × Nat × Option Addr × Nat × Option Addr × Nat) (fun s => [(0, ptr bs 0), (1, .int .i64 b), (3, .slice s.2.2.1 (m - s.2.1 * R) s.2.2.2.1), (10, .int .i64 (R : Int)), (12, .slice s.2.2.2.2.1 R s.2.2.2.2.2), (13, .int .i64 0), (14, .int .i64 (s.2.1 : Int))]) (fun s => SlA (.slice s.2.2.2.2.1 R s.2.2.2.2.2) 5 1 R (nats .u8 (pg s.2.1)) :: s.1.A bc :: DvA bd bc g :: T.A bs bd g :: F) (fun s => s.1.Ok ∧ s.1.g = g ∧ s.2.1 ≤ N ∧ (wrTo (C.sem.dErase b).1 b pg s.2.1).2 = 0 ∧ s.1.sem = (wrTo (C.sem.dErase b).1 b pg s.2.1).1 ∧ Seq K F s.2.2.1 (m - s.2.1 * R) 1 (nats .u8 (d.drop (s.2.1 * R))) ∧ m - s.2.1 * R ≤ s.2.2.2.1) (fun s => N - s.2.1) (C1, 0, A, cap, Ap, cp) ⟨hC1, hg1, Nat.zero_le _, rfl, hs1, by simpa using hd, by show m - 0 * R ≤ cap; omega⟩ (.cons rfl (.cons rfl (.cons (look_eq rfl (by simp)) (.cons (look_eq rfl (by rw [hR])) (.cons rfl (.cons rfl (.cons rfl (.nil _)))))))) (fun w h => by dsimp only; rw [hpg]; exact h) ?_
   rintro ⟨C2, p, Ad, cd, Aq, cq⟩ ⟨hC2, hg2, hpN, hw0, hw1, hsd, hcd⟩
   dsimp only at hC2 hg2 hpN hw0 hw1 hsd hcd ⊢
   have hst : wrTo (C.sem.dErase b).1 b pg (p + 1) = C2.sem.dWrite b p (pg p) := by rw [wrTo, if_neg (fun h => h hw0), ← hw1]
   refine WC.have_ (p := R ≤ cq) (fun w h => by
     obtain ⟨_, cap', hv, hle, _⟩ := SlA.shape h.head
     injection hv with _ _ e3
     rw [e3]; exact hle) (fun hrq => ?_)
   refine WC.seq ?_
   refine WC.block ?_
   refine WC.seq ?_
   refine WC.sr ?_
   refine WL.val (V.move (OV.p rfl)) rfl ?_
   refine WL.val (V.eql (OV.p rfl) (OV.p rfl)) rfl ?_
   refine WL.nil ?_
   refine WC.condT' rfl (by first | rfl | (simp; done) | (simp; omega)) ?_
   refine WC.region ?_
   refine WL.val (V.move (OV.p rfl)) rfl ?_
   refine WL.val (V.nilCheck (OV.p rfl)) rfl ?_
   refine WL.val (V.fieldAddr fo126_0 (OV.p rfl)) rfl ?_
   refine WL.val (V.load Tryz.isAgg31 (OV.p rfl) (fun _ => by repeat (first | exact Stw.rds 0 _ rfl | apply Rd.up))) rfl ?_
   refine WL.val (V.move (OV.p rfl)) rfl ?_
   refine WL.val (V.move (OV.p rfl)) rfl ?_
   refine WL.val (V.move (OV.p rfl)) rfl ?_
   refine WL.sub (Sub.refl _) (fun w h => h.sel 3 [1, 2, 0] rfl) ?_
   refine WL.call (vs := [_, _, _, _]) Tryz.call23 ⟨OV.p rfl, OV.p rfl, OV.p rfl, OV.p rfl, trivial⟩ (drive_WriteG (d := pg p) hC2 hg2 b p (SlA.seq (by rw [nats_length, Nat.mul_one, hpl])) (hps p) hrq (by omega)) rfl ?_
   rintro _ _ ⟨C3, hC3, hg3, rfl, hs3, rfl⟩
   rw [← hst] at hs3 ⊢
   refine WL.val (V.assign (OV.p rfl)) rfl ?_
   refine WL.nil ?_
   refine WC.seq ?_
   refine WC.sr ?_
   refine WL.val (V.move (OV.p rfl)) rfl ?_
   refine WL.val (V.neq (OV.p rfl) (OV.p rfl)) rfl ?_
   refine WL.val (V.move (OV.p rfl)) rfl ?_
   refine WL.valG (oj := _) rfl rfl rfl GC.f (V.move (OV.p rfl)) rfl ?_
   refine WL.valG (oj := _) rfl rfl rfl GC.f (V.len (t := 38) Tryz.runUnderlying38 (OV.g rfl id)) rfl ?_
   refine WL.valG (oj := _) rfl rfl rfl GC.f (V.eql (OV.g rfl id) (OV.p rfl)) rfl ?_
   refine WL.val (V.pickOr (OV.p rfl) (OV.g rfl id)) rfl ?_
   refine WL.nil ?_
   refine WC.cond rfl (fun hc2 => ?_) (fun hc2 => ?_)
   ·simp only [Bool.or_eq_true, Bool.or_eq_false_iff, Bool.not_eq_true', Bool.not_eq_false', decide_eq_true_eq, decide_eq_false_iff_not] at hc2
    have h2 := hc2
    have hend : wrTo (C.sem.dErase b).1 b pg (N + 1) = wrTo (C.sem.dErase b).1 b pg (p + 1) := by
      by_cases he : (wrTo (C.sem.dErase b).1 b pg (p + 1)).2 = 0
      · have h3 : ((m - p * R : Nat) : Int) = 0 := by rcases h2 with h | h; exact absurd he h; exact h
        have h4 := hpp p (by omega)
        rw [show p = N by omega]
      · have := wrTo_err he (N - p)
        rw [show p + 1 + (N - p) = N + 1 by omega] at this
        exact this
    rw [hend] at hX
    refine WC.sr ?_
    refine WL.val (V.move (OV.p rfl)) rfl ?_
    refine WL.val (V.assign (OV.p rfl)) rfl ?_
    refine WL.nil ?_
    refine WC.ret ?_
    subst hX
    exact BodyQ.ret (H' := C3.A bc :: DvA bd bc g :: T.A bs bd g :: F) (Res.tmp rfl rfl) (fun w h => h.sel 4 [0, 1, 3] rfl) ⟨C3, hC3, hg3, hs3, rfl, rfl⟩
   ·simp only [Bool.or_eq_true, Bool.or_eq_false_iff, Bool.not_eq_true', Bool.not_eq_false', decide_eq_true_eq, decide_eq_false_iff_not] at hc2
    have h2 := hc2
    have he : (wrTo (C.sem.dErase b).1 b pg (p + 1)).2 = 0 := by have := h2.1; omega
    have hpm : p * R < m := by have := h2.2; omega
    have hpN2 := hpn p hpm
    obtain ⟨q, hq⟩ : ∃ q, q = min R (m - p * R) := ⟨_, rfl⟩
    have hsn := Seq.dropS hsd (show q ≤ m - p * R by omega) hcd
    rw [nats_drop, List.drop_drop] at hsn
    have hst2 := Seq.take hsd (show q ≤ m - p * R by omega)
    rw [nats_take] at hst2
    have hs2 : (p + 1) * R = p * R + R := Nat.succ_mul _ _
    have hpb := Nat.le_mul_of_pos_right p (show 0 < R by omega)
    have hpgn : pg (p + 1) = (d.drop (p * R)).take q ++ List.replicate (R - q) 0 := by
      rw [hpg]
      show (d.drop (p * g.room.toNat)).take g.room.toNat ++ List.replicate (g.room.toNat - ((d.drop (p * g.room.toNat)).take g.room.toNat).length) 0 = _
      rw [hRn, List.length_take, List.length_drop, hdl, ← hq]
      have : (d.drop (p * R)).take R = (d.drop (p * R)).take q := by
        have h9 : q = min R (d.drop (p * R)).length := by rw [List.length_drop, hdl]; exact hq
        rw [h9, ← List.take_eq_take_min]
      rw [this]
    refine WC.skip ?_
    refine WC.sr ?_
    refine WL.val (V.move (OV.p rfl)) rfl ?_
    refine WL.val (V.move (OV.p rfl)) rfl ?_
    refine WL.val (V.len (t := 38) Tryz.runUnderlying38 (OV.p rfl)) rfl ?_
    refine WL.val (V.val_eq (v' := .int .i64 (q : Int)) (V.min (OV.p rfl) (OV.p rfl)) (fun _ => by rw [hq]; refine congrArg (Value.int .i64) ?_; omega)) rfl ?_
    refine WL.val (V.assign (OV.p rfl)) rfl ?_
    refine WL.nil ?_
    refine WC.sr ?_
    refine WL.val (V.move (OV.p rfl)) rfl ?_
    refine WL.val (V.move (OV.p rfl)) rfl ?_
    refine WL.val (V.val_eq (v' := .slice Ad q cd) (V.slice (l := 0) (h := q) (u := cd) st38 (OV.p rfl) OO.none (OO.some (OV.p rfl) (fun _ => rfl)) OO.none (by simp) (Nat.zero_le _) (by omega) (Nat.le_refl _)) (fun _ => by rw [Nat.sub_zero, Nat.sub_zero, sub0])) rfl ?_
    refine WL.call (vs := [_]) Tryz.call110 ⟨OV.p rfl, trivial⟩ (clone_nats (by repeat (first | exact hst2 | apply Seq.up)) (by omega)) rfl ?_
    rintro _ _ ⟨A1, c1, rfl, rfl⟩
    refine WL.val (V.move (OV.p rfl)) rfl ?_
    refine WL.val (V.move (OV.p rfl)) rfl ?_
    refine WL.val (V.subI (OV.p rfl) (OV.p rfl) (fun hc => by first | omega | (simp at hc; omega))) rfl ?_
    refine WL.appendZ (m := q) (q := R - q) Tryz.underlying38 Tryz.underlying3 el5 rfl rfl (OV.p rfl) (OV.p rfl) (by omega) (by omega) (by omega) rfl (fun A5 c5 hA5 hc5 => ?_)
    refine WL.val (V.assign (OV.p rfl)) rfl ?_
    refine WL.nil ?_
    refine WC.region ?_
    refine WL.val (V.move (OV.p rfl)) rfl ?_
    refine WL.val (V.move (OV.p rfl)) rfl ?_
    refine WL.val (V.slice (l := q) (h := m - p * R) (u := cd) st38 (OV.p rfl) (OO.some (OV.p rfl) (fun _ => rfl)) OO.none OO.none (by simp) (by omega) (by omega) (Nat.le_refl _)) rfl ?_
    refine WL.val (V.assign (OV.p rfl)) rfl ?_
    refine WL.nil ?_
    refine WC.region ?_
    refine WL.val (V.move (OV.p rfl)) rfl ?_
    refine WL.val (V.addI (OV.p rfl) (OV.p rfl) (fun hc => by first | omega | (simp at hc; omega))) rfl ?_
    refine WL.val (V.assign (OV.p rfl)) rfl ?_
    refine WL.nil ?_
    refine ⟨rfl, ?_⟩
    have e1 : q + (R - q) = R := by omega
    have e2 : m - p * R - q = m - (p + 1) * R := by omega
    refine ⟨(C3, p + 1, (if cd = q then Ad else Ad.map (·.add (q * 1))), cd - q, A5, c5), ⟨hC3, hg3, hpN2, he, hs3, ?_, ?_⟩, (by show N - (p + 1) < N - p; omega), .cons rfl (.cons rfl (.cons (look_eq rfl (by dsimp only; rw [e2])) (.cons rfl (.cons (look_eq rfl (by dsimp only; rw [e1])) (.cons (look_eq rfl (by rw [he])) (.cons (look_eq rfl (by simp)) (.nil _))))))), fun w h => ?_⟩
    · dsimp only
      rw [e2] at hsn
      have e3 : d.drop (p * R + q) = d.drop ((p + 1) * R) := by
        by_cases hRm : R ≤ m - p * R
        · rw [show p * R + q = (p + 1) * R by omega]
        · rw [List.drop_eq_nil_of_le (by omega), List.drop_eq_nil_of_le (by omega)]
      rw [e3] at hsn
      exact hsn
    · show m - (p + 1) * R ≤ cd - q
      omega
    · dsimp only
      rw [hpgn, nats_append, nats_replicate]
      rw [e1] at h
      exact h.sel 5 [0, 1, 2, 4] rfl
end
end Go.Proofs.YtohkefolnmcjnaaGreat
/- store: what a store's memory turns to when a field is stored; what Change answers, plainly. -/
namespace Go.Proofs.YtohkefolnmcjnaaGreat
open Go.Sl Go.RowKit
set_option linter.unusedVariables false
set_option linter.unusedSimpArgs false
set_option maxRecDepth 20000

theorem Upd.all {K : World} {l l' H : List Assn} {b o : Nat} {vs : List Value} (h : Upd K (l ++ H) b o vs (l' ++ H)) : Upd K (AllA l :: H) b o vs (AllA l' :: H) := by
  have conv : ∀ (L : List Assn) (k : Nat), (∃ B ∈ L ++ H, B.foot k) → ∃ B ∈ AllA L :: H, B.foot k := fun L k ⟨B, hB, hf⟩ => by
    rcases List.mem_append.1 hB with hB | hB
    · exact ⟨AllA L, .head _, B, hB, hf⟩
    · exact ⟨B, .tail _ hB, hf⟩
  refine ⟨fun B' hB' k hk => ?_, conv l b h.own, fun w hw => h.may w (SatL.all.1 hw), fun w hw => SatL.all.2 (h.sat w (SatL.all.1 hw))⟩
  rcases List.mem_cons.1 hB' with rfl | hB'
  · obtain ⟨A, hA, hf⟩ := hk
    exact conv l k (h.feet A (List.mem_append_left _ hA) k hf)
  · exact ⟨B', .tail _ hB', hk⟩
theorem Upd.slA {K : World} {H : List Assn} {gb o m cap E : Nat} {cs : List Value} {v : Value} (ho : o < m) : Upd K (SlA (.slice (some ⟨gb, 0, none⟩) m cap) E 1 m cs :: H) gb o [v] (SlA (.slice (some ⟨gb, 0, none⟩) m cap) E 1 m (cs.set o v) :: H) := by
  have hsm : ∀ w : World, Same w w := fun w => ⟨rfl, rfl, rfl, Nat.le_refl _⟩
  refine ⟨fun B' hB' k hk => ?_, ⟨_, .head _, rfl⟩, fun w hw => ?_, fun w hw => ?_⟩
  · rcases List.mem_cons.1 hB' with rfl | h
    · exact ⟨_, .head _, hk⟩
    · exact ⟨_, .tail _ h, hk⟩
  · obtain ⟨r, ⟨h1, h2, h3, h4⟩, h5⟩ := Sat.slCells (K := w) ⟨hsm w, hw⟩
    exact (Upd.at_ (K := w) (T := E) (cs := cs ++ r) (v := v) (by rw [List.length_append]; omega)).may w h5.2
  · obtain ⟨r, ⟨h1, h2, h3, h4⟩, h5⟩ := Sat.slCells (K := w) ⟨hsm w, hw⟩
    have h6 := (Upd.at_ (K := w) (H := H) (b := gb) (T := E) (o := o) (cs := cs ++ r) (v := v) (by rw [List.length_append]; omega)).sat w h5.2
    have h7 := Sat.toSl (K := w.setCells gb o [v]) (s := 1) (m := m) (cap := cap) ⟨hsm _, h6⟩ (by rw [List.length_set]; exact h1) h3 h4
    rw [List.set_append_left _ _ (by omega), Nat.mul_one, List.take_left' (by rw [List.length_set]; omega)] at h7
    exact h7.2
section
variable {bs bd bc : Nat} {g : Geo} {K : World} {F : List Assn}
theorem Stw.updN (T : Stw) (x : Int) : Upd K (T.A bs bd g :: F) bs 8 [.int .i64 x] (Stw.A bs bd g { T with next := x } :: F) := Upd.all (l := Stw.parts bs bd g T) (l' := Stw.parts bs bd g { T with next := x }) (Upd.here rfl rfl)
theorem Stw.updT (T : Stw) (x : Int) : Upd K (T.A bs bd g :: F) bs 9 [.int .i64 x] (Stw.A bs bd g { T with at_ := x } :: F) := Upd.all (l := Stw.parts bs bd g T) (l' := Stw.parts bs bd g { T with at_ := x }) (Upd.here rfl rfl)
theorem Stw.updS {T : Stw} {g1 i : Nat} (hA : T.sA = some ⟨g1, 0, none⟩) (hi : i < T.stands.length) (x : Int) : Upd K (T.A bs bd g :: F) g1 i [.int .i64 x] (Stw.A bs bd g { T with stands := T.stands.set i x } :: F) := by
  refine Upd.all (l := Stw.parts bs bd g T) (l' := Stw.parts bs bd g { T with stands := T.stands.set i x }) ?_
  obtain ⟨stands, sA, sc, b8, irs, nx, at', dd⟩ := T
  dsimp only at hA hi ⊢
  subst hA
  unfold Stw.parts Stw.cells Stw.sl
  dsimp only
  rw [List.length_set]
  refine Upd.up ?_
  have h1 := Upd.slA (K := K) (H := [Cells b8 42 (irs.map IRow.v), AllA (irs.map IRow.row)] ++ F) (gb := g1) (cap := sc) (E := 3) (cs := ints .i64 stands) (v := .int .i64 x) hi
  have h2 : (ints .i64 stands).set i (.int .i64 x) = ints .i64 (stands.set i x) := by unfold ints; rw [List.map_set]
  rw [h2] at h1
  exact h1
theorem Stw.someS {T : Stw} (h0 : 0 < T.stands.length) {w : World} (h : Sat K w (T.A bs bd g :: F)) : ∃ g1, T.sA = some ⟨g1, 0, none⟩ := by
  have h1 : Sat K w (Stw.parts bs bd g T ++ F) := h.unall
  have h2 : Sat K w (T.sl :: Cells bs 126 (T.cells bd g) :: Cells T.b8 42 (T.irs.map IRow.v) :: AllA (T.irs.map IRow.row) :: F) := h1.p1
  cases hA : T.sA with
  | none =>
    unfold Stw.sl at h2
    rw [hA] at h2
    have := (SlA.nilCs h2).1
    omega
  | some a =>
    unfold Stw.sl at h2
    rw [hA] at h2
    obtain ⟨g1, rfl⟩ := SlA.addr h2
    exact ⟨g1, rfl⟩
end
/-! ### Change, plainly -/
def St.mark (T : St) (leb : Int) : St := if 0 ≤ T.at' leb then { T with stale := T.stale.set leb.toNat (T.stale.getD leb.toNat [] ++ [T.at' leb]) } else T
def St.done (T : St) (leb b bl : Int) : St := { T with stands := T.stands.set leb.toNat b, next := T.next + 1, at_ := (b + 1) % bl }
def chg1 (leb : Int) (d : List Nat) (S : Chip) (T : St) (b : Int) : Chip × St × Option Int :=
  if (sWrite S T.next b leb d).2 = 72 then ((sWrite S T.next b leb d).1, { T.forget b with next := min (T.next + 1) 1000000001 }, if 1000000000 < min (T.next + 1) 1000000001 then some 6 else none)
  else if (sWrite S T.next b leb d).2 ≠ 0 then ((sWrite S T.next b leb d).1, (T.forget b).told (sWrite S T.next b leb d).2, some (sWrite S T.next b leb d).2)
  else ((sWrite S T.next b leb d).1, ((T.forget b).mark leb).done leb b S.g.bl, some 0)
def chgL (leb : Int) (d : List Nat) : List Int → Chip → St → Chip × St × Option Int
  | [], S, T => (S, T, none)
  | b :: bs, S, T => if (chg1 leb d S T b).2.2 = none then chgL leb d bs (chg1 leb d S T b).1 (chg1 leb d S T b).2.1 else chg1 leb d S T b
def candsF (gd std : List Int) (at0 bl : Int) (n j : Nat) : List Int := ((List.range' j (n - j)).map fun (i : Nat) => (at0 + (i : Int)) % bl).filter fun b => decide (b ∈ gd ∧ ¬ b ∈ std)
theorem candsF_end {gd std : List Int} {at0 bl : Int} {n : Nat} : candsF gd std at0 bl n n = [] := by unfold candsF; rw [Nat.sub_self]; rfl
theorem candsF_yes {gd std : List Int} {at0 bl : Int} {n j : Nat} (hj : j < n) (h : (at0 + (j : Int)) % bl ∈ gd ∧ ¬ (at0 + (j : Int)) % bl ∈ std) : candsF gd std at0 bl n j = (at0 + (j : Int)) % bl :: candsF gd std at0 bl n (j + 1) := by
  unfold candsF
  rw [show n - j = (n - (j + 1)) + 1 by omega, List.range'_succ, List.map_cons, List.filter_cons_of_pos (by simpa using h)]
theorem candsF_no {gd std : List Int} {at0 bl : Int} {n j : Nat} (hj : j < n) (h : ¬ ((at0 + (j : Int)) % bl ∈ gd ∧ ¬ (at0 + (j : Int)) % bl ∈ std)) : candsF gd std at0 bl n j = candsF gd std at0 bl n (j + 1) := by
  unfold candsF
  rw [show n - j = (n - (j + 1)) + 1 by omega, List.range'_succ, List.map_cons, List.filter_cons_of_neg (by simpa using h)]
def sChange (S : Chip) (T : St) (leb : Int) (d : List Nat) : Chip × St × Int :=
  if T.ready leb ≠ 0 then (S, T, T.ready leb)
  else if S.g.cap < d.length then (S, T, 2)
  else if 1000000000 < T.next then (S, T, 6)
  else match chgL leb d (candsF S.good T.stands T.at_ S.g.bl S.g.bl.toNat 0) S T with
    | (S', T', some e) => (S', T', e)
    | (S', T', none) => (S', T'.told (if S'.scanE = 70 then 70 else 6), if S'.scanE = 70 then 70 else 6)
end Go.Proofs.YtohkefolnmcjnaaGreat
