import Derived.Test.YtohkefolnmcjnaaGreatP5
import Derived.Lib.AppendZeros
import Derived.Test.YtohkefolnmcjnaaGreatP11
import Derived.Test.YtohkefolnmcjnaaGreatP4
namespace Go.Sl
open Go.RowKit Go.BigFrame
set_option linter.unusedVariables false
set_option linter.unusedSimpArgs false
theorem zeroCells_one {z : Value} (hz : z.cells = #[z]) (n : Nat) : Builtin.zeroCells z.cells n = (List.replicate n z).toArray := by
  rw [hz]
  apply Array.ext'
  apply List.ext_getElem
  · simp [Builtin.zeroCells]
  · intro i h1 h2
    simp [Builtin.zeroCells, Nat.mod_one]
section
variable {P : Program} (w : World) (t tn ty e : TypeId) (i : TypeInfo) (z : Value) (k kn : IntKind)
theorem run_appendZ_room (ht : P.underlying t = some (.slice e)) (htn : P.underlying tn = some (.int kn)) (hi : P.info? e = some i) (hz : i.zero = some z) (hz1 : z.cells = #[z]) (h1 : z.oneCell' = true) (hsz : i.size = 1)
    (b sLen sCap n : Nat) (hroom : sLen + n ≤ sCap) (hc : ∀ j, j < n → (w.cell? ⟨b, sLen + j, none⟩).isSome = true) (hf : ∀ j, j < n → w.frozen? ⟨b, sLen + j, none⟩ = false) (hn63 : (n : Int) ≤ 1000000000) (h48 : n * i.bytes ≤ 281474976710656) :
    (Builtin.append_ #[t, tn] ty #[.slice (some ⟨b, 0, none⟩) sLen sCap, .int k n]).run P w = .ok (.slice (some ⟨b, 0, none⟩) (sLen + n) sCap) (w.setCells b sLen (List.replicate n z)) := by
  have hw : IntKind.i64.wrap (n : Int) = n := by rw [IntKind.wrap_i64]; omega
  have h48i : ¬ (281474976710656 < (n : Int) * (i.bytes : Int)) := by rw [← Int.natCast_mul]; omega
  have hneg : ¬ ((n : Int) < 0) := by omega
  have hw0 : IntKind.i64.wrap 0 = 0 := by decide
  have hst := run_storeCells_cells (P := P) b sLen (List.replicate n z) 0 w (by simpa using hc) (by simpa using hf) (by intro v hv; rw [List.eq_of_mem_replicate hv]; exact h1)
  simp only [Nat.add_zero] at hst
  have hzc := zeroCells_one hz1 n
  by_cases h0 : n = 0
  · subst h0
    simp [Builtin.append_, run_underlying ht, run_underlying htn, sizeOf, typeInfo, zeroValue, hi, hz, asInt, asIntOf, hw0, hsz, storeCells, World.setCells, show sLen ≤ sCap by omega, add_mk]
  · simp [Builtin.append_, run_underlying ht, run_underlying htn, sizeOf, typeInfo, zeroValue, hi, hz, asInt, asIntOf, hw, hneg, h0, hsz, h48i, hroom, hzc, add_mk, hst]
theorem run_appendZ_grow (ht : P.underlying t = some (.slice e)) (htn : P.underlying tn = some (.int kn)) (hi : P.info? e = some i) (hz : i.zero = some z) (hz1 : z.cells = #[z]) (hsz : i.size = 1)
    (base : Option Addr) (sLen sCap n : Nat) (olds : List Value) (hold : (Builtin.firstCells 1 sLen (.slice base sLen sCap)).run P w.drew = .ok olds.toArray w.drew) (hg : sCap < sLen + n) (hn63 : (sLen + n : Int) ≤ 1000000000) (h48 : (sLen + n) * i.bytes ≤ 140737488355328) :
    (Builtin.append_ #[t, tn] ty #[.slice base sLen sCap, .int k n]).run P w = .ok (.slice (some ⟨w.heap.size, 0, none⟩) (sLen + n) (grownCap w (sLen + n) sCap e))
      (w.drew.alloc (.cells ((olds ++ List.replicate n z).toArray ++ Builtin.zeroCells z.cells (grownCap w (sLen + n) sCap e - (sLen + n))) e)) := by
  have hw : IntKind.i64.wrap (n : Int) = n := by rw [IntKind.wrap_i64]; omega
  have hnb : n * i.bytes ≤ (sLen + n) * i.bytes := Nat.mul_le_mul_right _ (by omega)
  have h48i : ¬ (281474976710656 < (n : Int) * (i.bytes : Int)) := by rw [← Int.natCast_mul]; omega
  have hneg : ¬ ((n : Int) < 0) := by omega
  have hw0 : IntKind.i64.wrap 0 = 0 := by decide
  have hfit := growslice_fits hg h48
  have h48' : ¬ (281474976710656 < Builtin.nextslicecap (sLen + n) sCap * i.bytes) := by omega
  have hnr : ¬ (sLen + n ≤ sCap) := by omega
  have h63' : ¬ (9223372036854775807 < ((sLen : Int) + (n : Int))) := by omega
  have hzc := zeroCells_one hz1 n
  by_cases h0 : n = 0
  · subst h0
    simp only [Nat.add_zero] at hnr h48' ⊢
    simp [Builtin.append_, run_underlying ht, run_underlying htn, sizeOf, typeInfo, zeroValue, hi, hz, asInt, asIntOf, hw0, hsz, h48', hnr, hold, Question.forced, newRow, grownCap, show ¬ (9223372036854775807 < (sLen : Int)) by omega]
  · simp [Builtin.append_, run_underlying ht, run_underlying htn, sizeOf, typeInfo, zeroValue, hi, hz, asInt, asIntOf, hw, hneg, h0, hsz, h48i, h48', h63', hnr, hzc, hold, Question.forced, newRow, grownCap]
    congr 2
    apply Array.ext'
    simp [List.append_assoc]
end
section
variable {Mo : Mode} {P : Program} {K : World} {n : Nat} {Q : Post} {e : Env} {H : List Assn} {ty : TypeId} {pos : String} {af : Array Edge} {ops : Array Oper} {rest : List Oper}
theorem WL.appendZ {d : Nat} {x y : Operand} {T Tn E bytes m q : Nat} {kn k : IntKind} {z v : Value} {cs : List Value} {l : Int} (hT : P.underlying T = some (.slice E)) (hTn : P.underlying Tn = some (.int kn)) (hE : ElemTy P E 1 bytes z) (hz1 : z.cells = #[z]) (h1 : z.oneCell' = true)
    (hx : OV true e x v) (hy : OV true e y (.int k l)) (hl : l = (q : Int)) (hb : (m + q) * bytes ≤ 140737488355328) (hmq : m + q ≤ 1000000000) (hd : Nat.blt d n = true)
    (h : ∀ A cap, (A = none → m + q = 0 ∧ cap = 0) → m + q ≤ cap → WL Mo P K n ops rest Q ((d, .slice A (m + q) cap) :: e) (SlA (.slice A (m + q) cap) E 1 (m + q) (cs ++ List.replicate q z) :: H)) :
    WL Mo P K n ops (⟨some d, .call ⟨.builtin .append, #[x, y], #[T, Tn]⟩, ty, pos, af, none⟩ :: rest) Q e (SlA v E 1 m cs :: H) := by
  refine WL.eff (R := fun u H' => ∃ A cap, u = .slice A (m + q) cap ∧ (A = none → m + q = 0 ∧ cap = 0) ∧ m + q ≤ cap ∧ H' = SlA (.slice A (m + q) cap) E 1 (m + q) (cs ++ List.replicate q z) :: H) (fun a w ha hw => ?_) hd (fun u H' ⟨A, cap, e1, e2, e3, e4⟩ => by subst e1 e4; exact h A cap e2 e3)
  obtain ⟨i, hi, hz, hs, hby', hzs, h0⟩ := hE
  subst hl hby'
  have hfin : ∀ v' w', (execOp a.eval ⟨some d, .call ⟨.builtin .append, #[x, y], #[T, Tn]⟩, ty, pos, af, none⟩).run P w = .ok (.value v') w' → w'.ownsRow 0 E 1 v' (m + q) (cs ++ List.replicate q z) → w.grownBy w' v.ownBlock →
      (v'.ownBlock = none ∨ v'.ownBlock = v.ownBlock ∨ v'.ownBlock = some w.heap.size) → ∃ u w'' H', (execOp a.eval ⟨some d, .call ⟨.builtin .append, #[x, y], #[T, Tn]⟩, ty, pos, af, none⟩).run P w = .ok (.value u) w'' ∧ Sat K w'' H' ∧
        ∃ A cap, u = .slice A (m + q) cap ∧ (A = none → m + q = 0 ∧ cap = 0) ∧ m + q ≤ cap ∧ H' = SlA (.slice A (m + q) cap) E 1 (m + q) (cs ++ List.replicate q z) :: H := fun v' w' hrun hown hg hat => by
    obtain ⟨A, cap, rfl, k1, _, k2⟩ := SlA.shape hown
    refine ⟨_, w', _, hrun, ⟨hw.1.grow hg.os hg.tape hg.output hg.size, ?_⟩, A, cap, rfl, k2, k1, rfl⟩
    refine hw.2.set (A' := SlA (.slice A (m + q) cap) E 1 (m + q) (cs ++ List.replicate q z)) hg.size (fun b hb' hlt => hg.block b hlt (fun e => hb' e.symm)) hown (fun b hb' => ?_)
    have hb2 : (Value.slice A (m + q) cap).ownBlock = some b := hb'
    rcases hat with h' | h' | h'
    · rw [h'] at hb2; cases hb2
    · exact .inl (h'.symm.trans hb2)
    · rw [h'] at hb2
      injection hb2 with hb2
      subst hb2
      exact .inr ⟨Nat.le_refl _, (hown.lt _ h').2⟩
  have hown : w.ownsRow 0 E 1 v m cs := hw.head
  have ev1 := hx.ev rfl ha
  have ev2 := hy.ev rfl ha
  have hrun0 : ∀ r w', (Builtin.append_ #[T, Tn] ty #[v, .int k q]).run P w = .ok r w' → (execOp a.eval ⟨some d, .call ⟨.builtin .append, #[x, y], #[T, Tn]⟩, ty, pos, af, none⟩).run P w = .ok (.value r) w' := fun r w' hr => by
    rw [execOp_builtin, builtin_append]
    simp [ev1, ev2, hr]
  have hcl : cs.length = m := by have := hown.1; omega
  have hmax : (1000000000 : Nat) ≤ maxLen := by simp only [maxLen]; decide
  have grown : ∀ (old : Nat), old < m + q → ∀ (row : Option Nat),
      (w.drew.alloc (.cells ((cs ++ List.replicate q z).toArray ++ Builtin.zeroCells z.cells (grownCap w (m + q) old E - (m + q))) E)).ownsRow 0 E 1 (.slice (some ⟨w.heap.size, 0, none⟩) (m + q) (grownCap w (m + q) old E)) (m + q) (cs ++ List.replicate q z) ∧
      w.grownBy (w.drew.alloc (.cells ((cs ++ List.replicate q z).toArray ++ Builtin.zeroCells z.cells (grownCap w (m + q) old E - (m + q))) E)) row := by
    intro old ho row
    have hge := grownCap_ge w (m + q) old E
    have hcm : grownCap w (m + q) old E ≤ maxLen := grownCap_le_maxLen w (m + q) old E (by omega)
    refine ⟨⟨by simp [hcl], .inr ⟨w.heap.size, _, _, rfl, Nat.zero_le _, heap_alloc_new w.drew _, hge, hcm, ?_, ?_⟩⟩, ⟨rfl, rfl, rfl, by simp, fun k hk _ => heap_alloc_old w.drew _ hk⟩⟩
    · simp only [Array.size_append, List.size_toArray, size_zeroCells, hzs, List.length_append, List.length_replicate, hcl, Nat.mul_one]
      omega
    · have hlen : (m + q) * 1 = (cs ++ List.replicate q z).length := by simp [hcl]
      rw [hlen]
      simp only [Array.toList_append]
      exact List.take_left
  rcases hown.2 with ⟨rfl, rfl⟩ | ⟨g, cap, cur, rfl, hbg, hg, hnc, hcm, hcs, htake⟩
  · have hx : cs = [] := List.eq_nil_of_length_eq_zero hcl
    subst hx
    by_cases hm : q = 0
    · subst hm
      refine hfin (.slice none 0 0) w (hrun0 _ w ?_) (by simpa using World.ownsRow_nil w 0 E 1) ⟨rfl, rfl, rfl, Nat.le_refl _, fun _ _ _ => rfl⟩ (.inr (.inl rfl))
      simp [Builtin.append_, run_underlying hT, run_underlying hTn, sizeOf, typeInfo, hi, asInt, asIntOf, IntKind.wrap_i64, storeCells, hs]
    · have hr := run_appendZ_grow (P := P) w T Tn ty E i z k kn hT hTn hi hz hz1 hs none 0 0 q [] (by simp [Builtin.firstCells]) (by omega) (by omega) (by simpa using hb)
      have hgr := grown 0 (by omega) (Value.ownBlock (.slice none 0 0))
      simp only [Nat.zero_add] at hr hgr
      exact hfin _ _ (hrun0 _ _ hr) (by simpa using hgr.1) hgr.2 (.inr (.inr rfl))
  · by_cases hroom : m + q ≤ cap
    · have hsz : cur.size = cap := by omega
      have hcell : ∀ j (hj : j < q), w.cell? ⟨g, m + j, none⟩ = some (cur[m + j]'(by omega)) := fun j hj => by simp [World.cell?, hg, show m + j < cur.size by omega]
      have hr := run_appendZ_room (P := P) w T Tn ty E i z k kn hT hTn hi hz hz1 h1 hs g m cap q hroom (fun j hj => by rw [hcell j hj]; rfl) (fun j hj => by simp [World.frozen?, hg]) (by omega) (by have := Nat.mul_le_mul_right i.bytes (show q ≤ m + q by omega); omega)
      obtain ⟨e1, e2, e3, e4⟩ := same_setCells g (List.replicate q z) m w
      have hh := heap_setCells g E (0, 0) (List.replicate q z) m w cur.toList (by simpa using hg)
      have hss := setL_append cur.toList (List.replicate q z) m (by simp; omega)
      refine hfin _ _ (hrun0 _ _ hr) ⟨by simp [hcl], .inr ⟨g, cap, (setL cur.toList m (List.replicate q z)).toArray, rfl, Nat.zero_le _, hh, hroom, hcm, ?_, ?_⟩⟩ ⟨e1, e2, e3, Nat.le_of_eq e4.symm, fun k hk hne => heap_setCells_ne g k (fun e => hne (by simp [Value.ownBlock, e])) _ _ _⟩ (.inr (.inl rfl))
      · simp [length_setL]; omega
      · rw [List.toList_toArray] 
        rw [hss, Nat.mul_one, show cur.toList.take m = cs by rw [← htake, Nat.mul_one], List.take_left' (by simp [hcl])]
    · have hold : (Builtin.firstCells 1 m (.slice (some ⟨g, 0, none⟩) m cap)).run P w.drew = .ok cs.toArray w.drew := by
        have hc := hown.cells (g := g) rfl
        have := run_loadCells_list (P := P) w.drew ⟨g, 0, none⟩ cs (fun j v hj => hc j v hj)
        rw [hcl] at this
        simpa [Builtin.firstCells] using this
      have hr := run_appendZ_grow (P := P) w T Tn ty E i z k kn hT hTn hi hz hz1 hs (some ⟨g, 0, none⟩) m cap q cs hold (by omega) (by omega) hb
      have hgr := grown cap (by omega) (Value.ownBlock (.slice (some ⟨g, 0, none⟩) m cap))
      exact hfin _ _ (hrun0 _ _ hr) hgr.1 hgr.2 (.inr (.inr rfl))
end
section
variable {Mo : Mode} {P : Program} {K : World} {n : Nat} {e : Env} {H : List Assn} {c : Bool} {dst : Option Tmp} {ty : TypeId} {pos : String} {af : Array Edge} {gd : Option (Nat × Bool)}
theorem V.negI {x : Operand} {t : TypeId} {i : Int} (hx : OV c e x (.int .i64 i)) (h : c = true → -9223372036854775807 ≤ i ∧ i ≤ 9223372036854775807) : Val Mo P K n c e H ⟨dst, .unOp .neg t x, ty, pos, af, gd⟩ (.int .i64 (-i)) := fun hc a w ha _ => by
  show ((do pure (Next.value (← Op.unary .neg (a.eval x)))) : Sem Next).run P w = _
  rw [hx.ev hc ha]
  have h1 := h hc
  have h2 : IntKind.i64.wrap (-i) = -i := by rw [IntKind.wrap_i64]; omega
  simp [Op.unary, Op.intArith, h2]
end
end Go.Sl
namespace Go.Proofs.YtohkefolnmcjnaaGreat
open Go.Sl Go.RowKit
set_option linter.unusedVariables false
set_option linter.unusedSimpArgs false
set_option maxRecDepth 20000
def shiftB (t : Nat) : List Nat := (List.replicate (moreLen t + 1) 0).set (13 * t / 8) (2 ^ (13 * t % 8))
def prodB (t : Nat) (d : List Nat) : List Nat := (bmulF (shiftB t) d).take (normLen (bmulF (shiftB t) d) ((shiftB t).length + d.length + 1))
def restB (t : Nat) (d : List Nat) : List Nat := bmodTo (prodB t d) (genB t) (genB t).length (13 * t) (8 * (prodB t d).length - 13 * t)
def restLen (t : Nat) (d : List Nat) : Nat := normLen (restB t d) ((prodB t d).length + 1)
def encB (t : Nat) (d : List Nat) : List Nat := (restB t d).take (restLen t d) ++ List.replicate (moreLen t - restLen t d) 0
theorem shiftB_length (t : Nat) : (shiftB t).length = moreLen t + 1 := by simp [shiftB]
theorem shiftB_small (t : Nat) : Small 256 (shiftB t) := (Small.repl (by decide)).set (pow8_lt (Nat.mod_lt _ (by decide)))
theorem prodB_small {t : Nat} {d : List Nat} (h : Small 256 d) : Small 256 (prodB t d) := Small.take (bmulTo_small h _)
theorem restB_length (t : Nat) (d : List Nat) : (restB t d).length = (prodB t d).length + 1 := bmodTo_length _ _ _ _ _
theorem restB_small {t : Nat} {d : List Nat} (ht : 1 ≤ t ∧ t ≤ 8) (h : Small 256 d) : Small 256 (restB t d) := bmodTo_small (prodB_small h) (gen_facts ht).2.2.2.2 _
theorem restLen_le {t : Nat} {d : List Nat} (ht : 1 ≤ t ∧ t ≤ 8) (h : Small 256 d) : restLen t d ≤ moreLen t ∧ restLen t d ≤ (prodB t d).length + 1 := by
  obtain ⟨g1, g2, g3, g4, g5⟩ := gen_facts ht
  refine ⟨normLen_bits (restB_small ht h) (fun k hk => bmod_rest (prodB_small h) g5 rfl g3 g4 hk) _, normLen_le _ _⟩
theorem encB_length {t : Nat} {d : List Nat} (ht : 1 ≤ t ∧ t ≤ 8) (h : Small 256 d) : (encB t d).length = moreLen t := by
  have h1 := restLen_le ht h
  unfold encB
  rw [List.length_append, List.length_take, List.length_replicate, restB_length]; omega
theorem encB_small {t : Nat} {d : List Nat} (ht : 1 ≤ t ∧ t ≤ 8) (h : Small 256 d) : Small 256 (encB t d) := (Small.take (restB_small ht h)).append (Small.repl (by decide))
section
variable {K : World} {F : List Assn}
theorem bch_Encode {t : Nat} {A : Option Addr} {m cap : Nat} {d : List Nat} (ht : 1 ≤ t ∧ t ≤ 8) (hd : Seq K F A m 1 (nats .u8 d)) (hd8 : Small 256 d) (hdl : 1 ≤ m ∧ m ≤ 512) :
    Does Tryz.prog 113 #[.int .i64 (t : Int), .slice A m cap] K F
      (fun v H' => ∃ A' cap', v = .tuple #[.slice A' (moreLen t) cap', .int .i64 0] ∧ H' = SlA (.slice A' (moreLen t) cap') 5 1 (moreLen t) (nats .u8 (encB t d)) :: F) := by
  have hl : d.length = m := by simpa [nats] using hd.len
  have hn13 : 2 ≤ moreLen t ∧ moreLen t ≤ 13 ∧ 13 * t / 8 ≤ moreLen t := by unfold moreLen; omega
  obtain ⟨n, hn⟩ : ∃ n, n = moreLen t := ⟨_, rfl⟩
  obtain ⟨g1, g2, g3, g4, g5⟩ := gen_facts ht
  have hrl := restLen_le ht hd8
  have hpl : (prodB t d).length = normLen (bmulF (shiftB t) d) ((shiftB t).length + d.length + 1) := by
    unfold prodB bmulF
    have := normLen_le (bmulTo (shiftB t) d (8 * (shiftB t).length)) ((shiftB t).length + d.length + 1)
    rw [List.length_take, bmulTo_length]; omega
  have hpl2 : (prodB t d).length ≤ n + 1 + m + 1 := by rw [hpl, shiftB_length, hl, ← hn]; exact normLen_le _ _
  rw [← hn] at hn13 hrl ⊢
  refine Does.enter Tryz.func113 rfl Tryz.ntmps113 rfl ?_
  simp only [env0, Nat.reduceAdd]
  refine WC.sr ?_
  refine WL.sg rfl rfl ?_
  refine WL.sg rfl rfl ?_
  refine WL.nil ?_
  refine WC.sr ?_
  refine WL.mv rfl rfl ?_
  refine WL.mv rfl rfl ?_
  refine WL.call (vs := [_, _]) Tryz.call148 ⟨OV.p rfl, OV.p rfl, trivial⟩ (Tells.eq (v' := .tuple #[.int .i64 (n : Int), .int .i64 0]) (bch_size ht hdl) (by rw [hn])) rfl ?_
  rintro _ H0 ⟨rfl, h0⟩
  subst H0
  refine WL.mv rfl rfl ?_
  refine WL.xt rfl rfl rfl ?_
  refine WL.xt rfl rfl rfl ?_
  refine WL.sg rfl rfl ?_
  refine WL.sg rfl rfl ?_
  refine WL.nil ?_
  refine WC.seq ?_
  refine WC.sr ?_
  refine WL.mv rfl rfl ?_
  refine WL.val (V.neq (OV.p rfl) (OV.p rfl)) rfl ?_
  refine WL.nil ?_
  refine WC.condF' rfl (by first | rfl | (simp; done) | (simp; omega)) ?_
  refine WC.skip ?_
  refine WC.sr ?_
  refine WL.mv rfl rfl ?_
  refine WL.call (vs := [_]) Tryz.call149 ⟨OV.p rfl, trivial⟩ (bpoly_Generator ht) rfl ?_
  rintro _ _ ⟨gg, gfull, gcap, rfl, hgc, hgf, rfl⟩
  have hgs : ∀ {H : List Assn}, Seq K (Cells gg 5 (nats .u8 gfull) :: H) (some ⟨gg, 0, none⟩) (genB t).length 1 (nats .u8 (genB t)) := fun {H} => Seq.here (by rw [nats_length]; omega) (by rw [List.drop_zero]; exact nats_prefix (by rw [hgf]; exact List.take_prefix _ _))
  refine WL.mv rfl rfl ?_
  refine WL.xt rfl rfl rfl ?_
  refine WL.xt rfl rfl rfl ?_
  refine WL.sg rfl rfl ?_
  refine WL.sg rfl rfl ?_
  refine WL.nil ?_
  refine WC.sr ?_
  refine WL.mv rfl rfl ?_
  refine WL.ad rfl rfl rfl ?_
  refine WL.make1 (m := n + 1) Tryz.underlying38 el5 (OV.p rfl) (OV.p rfl) (by omega) (by omega) (by omega) rfl rfl rfl (fun b29 => ?_)
  refine WL.sg rfl rfl ?_
  refine WL.nil ?_
  refine WC.sr ?_
  refine WL.mv rfl rfl ?_
  refine WL.mv rfl rfl ?_
  refine WL.val (V.mulI (OV.p rfl) (OV.p rfl) (fun hc => by first | omega | (simp at hc; omega))) rfl ?_
  refine WL.val (V.quoI (OV.p rfl) (OV.p rfl) (fun hc => by first | omega | (simp at hc; omega))) rfl ?_
  refine WL.mv rfl rfl ?_
  refine WL.val (V.mulI (OV.p rfl) (OV.p rfl) (fun hc => by first | omega | (simp at hc; omega))) rfl ?_
  refine WL.val (V.val_eq (v' := .int .i64 ((13 * t % 8 : Nat) : Int)) (V.remI (OV.p rfl) (OV.p rfl) (fun _ => by omega)) (fun _ => by simp)) rfl ?_
  refine WL.val (V.val_eq (v' := .int .u8 ((2 ^ (13 * t % 8) : Nat) : Int)) (V.shl (OV.p rfl) (OV.p rfl) (by omega)) (fun _ => by rw [shl8_one (by omega)])) rfl ?_
  refine WL.val (V.idxB st38 (OV.p rfl) (OV.p rfl) (fun hc => by omega)) rfl ?_
  refine WL.store (cs := [_]) Tryz.sizeOf5 (OV.p rfl) (OV.p rfl) rfl rfl rfl (Upd.at_ (by rw [List.length_replicate]; omega)) ?_
  have hsh : (List.replicate (n + 1) (Value.int .u8 0)).set (0 + (13 * (t : Int) / 8).toNat * 1) (.int .u8 ((2 ^ (13 * t % 8) : Nat) : Int)) = nats .u8 (shiftB t) := by
    unfold shiftB
    rw [← nats_set, nats_replicate, ← hn, show 0 + (13 * (t : Int) / 8).toNat * 1 = 13 * t / 8 by omega]; rfl
  rw [hsh]
  refine WL.nil ?_
  refine WC.sr ?_
  refine WL.mv rfl rfl ?_
  refine WL.mv rfl rfl ?_
  refine WL.call (vs := [_, _]) Tryz.call151 ⟨OV.p rfl, OV.p rfl, trivial⟩ (bpoly_Mul (ps := shiftB t) (qs := d) (Seq.allN (by rw [shiftB_length, hn])) hd.up.up (shiftB_small t) hd8 (by rw [shiftB_length, hl, ← hn]; omega)) rfl ?_
  rintro _ _ ⟨gp, rfl, rfl⟩
  have hps : ∀ {H : List Assn}, Seq K (Cells gp 5 (nats .u8 (bmulF (shiftB t) d)) :: H) (some ⟨gp, 0, none⟩) (normLen (bmulF (shiftB t) d) ((shiftB t).length + d.length + 1)) 1 (nats .u8 (prodB t d)) := fun {H} => Seq.here (by rw [nats_length, hpl]; omega) (by rw [List.drop_zero]; exact nats_prefix (List.take_prefix _ _))
  refine WL.mv rfl rfl ?_
  refine WL.call (vs := [_, _]) Tryz.call150 ⟨OV.p rfl, OV.p rfl, trivial⟩ (bpoly_Mod (ps := prodB t d) (qs := genB t) (d := 13 * t) hps (by repeat (first | exact hgs | apply Seq.up)) (prodB_small hd8) g5 hgc (by rw [g3]; omega) g1 (by rw [g2, List.take_of_length_le (by omega), ← g3]; exact g1) (by rw [g2])) rfl ?_
  rintro _ _ ⟨gr, rfl, rfl⟩
  have hrb : bmodTo (prodB t d) ((genB t).take (normLen (genB t) (genB t).length)) (normLen (genB t) (genB t).length) (13 * t) (8 * normLen (bmulF (shiftB t) d) ((shiftB t).length + d.length + 1) - 13 * t) = restB t d := by
    unfold restB
    rw [g2, List.take_of_length_le (by omega), ← hpl, g3]
  rw [hrb]
  have hrl2 : normLen (restB t d) (normLen (bmulF (shiftB t) d) ((shiftB t).length + d.length + 1) + 1) = restLen t d := by unfold restLen; rw [hpl]
  rw [hrl2, ← hpl]
  refine WL.mv rfl rfl ?_
  refine WL.xt rfl rfl rfl ?_
  refine WL.xt rfl rfl rfl ?_
  refine WL.sg rfl rfl ?_
  refine WL.sg rfl rfl ?_
  refine WL.nil ?_
  refine WC.sr ?_
  refine WL.mv rfl rfl ?_
  refine WL.mv rfl rfl ?_
  refine WL.mv rfl rfl ?_
  refine WL.val (V.len (t := 38) Tryz.runUnderlying38 (OV.p rfl)) rfl ?_
  refine WL.sb rfl rfl rfl ?_
  refine WL.sub (Sub.refl _) (fun w h => Sat.toSl (m := restLen t d) (cap := (prodB t d).length + 1) (s := 1) h (by rw [nats_length, restB_length, Nat.mul_one]) hrl.2 (by simp only [maxLen]; omega)) ?_
  refine WL.appendZ (m := restLen t d) (q := n - restLen t d) Tryz.underlying38 Tryz.underlying3 el5 rfl rfl (OV.p rfl) (OV.p rfl) (by omega) (by omega) (by omega) rfl (fun A' c' hn' hc' => ?_)
  refine WL.sg rfl rfl ?_
  refine WL.sg rfl rfl ?_
  refine WL.nil ?_
  refine WC.ret ?_
  have he : (nats .u8 (restB t d)).take (restLen t d * 1) ++ List.replicate (n - restLen t d) (.int .u8 0) = nats .u8 (encB t d) := by
    unfold encB
    rw [nats_append, Nat.mul_one, nats_take, ← hn, nats_replicate]; rfl
  have hnn : restLen t d + (n - restLen t d) = n := by omega
  refine BodyQ.ret (H' := SlA (.slice A' n c') 5 1 n (nats .u8 (encB t d)) :: F) (Res.tmp2 rfl (look_eq rfl (by rw [hnn])) rfl) (fun w h => ?_) ⟨A', c', rfl, rfl⟩
  have h' := h.sel 4 [0] rfl
  rw [he, hnn] at h'
  exact h'
end
end Go.Proofs.YtohkefolnmcjnaaGreat
namespace Go.Proofs.YtohkefolnmcjnaaGreat
open Go.Sl Go.RowKit
set_option linter.unusedVariables false
set_option linter.unusedSimpArgs false
set_option maxRecDepth 20000
theorem clone_ints {A : Option Addr} {m cap : Nat} {xs : List Int} {K : World} {F : List Assn} (hs : Seq K F A m 1 (ints .i64 xs)) (hm : m ≤ 1000000) :
    Does Tryz.prog 82 #[.slice A m cap] K F (fun v H' => ∃ A' cap', v = .slice A' m cap' ∧ H' = SlA (.slice A' m cap') 3 1 m (ints .i64 xs) :: F) := by
  have hl : xs.length = m := by simpa [ints] using hs.len
  refine Does.have_ (p := A = none → xs = []) (fun w hw hA => by subst hA; simpa [ints] using hs.none_nil hw) (fun hnil => ?_)
  refine Does.enter Tryz.func82 rfl Tryz.ntmps82 rfl ?_
  simp only [env0, Nat.reduceAdd]
  refine WC.sr ?_
  refine WL.sg rfl rfl ?_
  refine WL.nil ?_
  refine WC.seq ?_
  refine WC.sr ?_
  refine WL.mv rfl rfl ?_
  refine WL.val (V.eqlNil Tryz.underlying42 (OV.p rfl)) rfl ?_
  refine WL.nil ?_
  refine WC.cond rfl (fun hc0 => ?_) (fun hc0 => ?_)
  ·skip
   have hA : A = none := by cases A <;> simp at hc0 ⊢
   subst hA
   have hx := hnil rfl
   subst hx
   obtain rfl : m = 0 := hl.symm
   refine WC.sr ?_
   refine WL.sg rfl rfl ?_
   refine WL.nil ?_
   refine WC.ret ?_
   exact BodyQ.ret (H' := SlA (.slice none 0 0) _ 1 0 [] :: F) (Res.tmp rfl rfl) (fun w h => Sat.slNil h _ _) ⟨none, 0, rfl, rfl⟩
  ·skip
   refine WC.skip ?_
   refine WC.sr ?_
   refine WL.buildSlice (E := 3) (cs := []) (vs := []) trivial rfl (bsl42_0 ) rfl (fun b5 => ?_)
   refine WL.mv rfl rfl ?_
   refine WL.sub (Sub.refl _) (fun w h => Sat.toSl (m := 0) (cap := 0) (s := 1) h rfl (Nat.le_refl _) (Nat.zero_le _)) ?_
   refine WL.append (m := 0) (cs := []) Tryz.underlying42 el3 (OV.p rfl) (OV.p rfl) (by repeat (first | exact hs | apply Seq.up)) (ints_one _ _) (by omega) rfl rfl (fun A' c' hn' hc' => ?_)
   refine WL.sg rfl rfl ?_
   refine WL.nil ?_
   refine WC.ret ?_
   refine BodyQ.ret (H' := SlA (.slice A' m c') _ 1 m (ints .i64 xs) :: F) (Res.tmp rfl (look_eq rfl (by simp))) (fun w h => ?_) ⟨A', c', rfl, rfl⟩
   simpa using h
theorem indexFunc {A : Option Addr} {m cap : Nat} {xs : List Int} {fid : FuncId} {capt : List Value} {p : Int → Bool} {K : World} {F : List Assn} (hs : Seq K F A m 1 (ints .i64 xs)) (hm : m ≤ maxLen) (hcl : Callable Tryz.prog fid)
    (hf : ∀ x ∈ xs, Tells Tryz.prog fid ([Value.int .i64 x] ++ capt).toArray K F (.bool (p x))) :
    Does Tryz.prog 119 #[.slice A m cap, .func (.func fid) #[] capt.toArray] K F
      (fun v H' => H' = F ∧ ((v = .int .i64 (-1) ∧ ∀ x ∈ xs, p x = false) ∨ ∃ i : Nat, i < m ∧ v = .int .i64 (i : Int) ∧ (∀ x ∈ xs.take i, p x = false) ∧ p (xs.getD i 0) = true)) := by
  have hl : xs.length = m := by simpa [ints] using hs.len
  have hm' : m ≤ 9223372036854775807 := by simp only [maxLen] at hm; omega
  refine Does.enter Tryz.func119 rfl Tryz.ntmps119 rfl ?_
  simp only [env0, Nat.reduceAdd]
  refine WC.sr ?_
  refine WL.sg rfl rfl ?_
  refine WL.nil ?_
  refine WC.seq ?_
  refine WC.sr ?_
  refine WL.mv rfl rfl ?_
  refine WL.val (V.len (t := 42) Tryz.runUnderlying42 (OV.p rfl)) rfl ?_
  refine WL.mv rfl rfl ?_
  refine WL.nil ?_
  refine WC.block ?_
  refine WC.loop (σ := Nat) (fun i => [(0, .slice A m cap), (1, .func (.func fid) #[] capt.toArray), (7, .int .i64 (m : Int)), (8, .int .i64 (i : Int))]) (fun i => F) (fun i => i ≤ m ∧ ∀ x ∈ xs.take i, p x = false) (fun i => m - i) 0 ⟨Nat.zero_le _, fun x hx => by simp at hx⟩ (.cons rfl (.cons rfl (.cons rfl (.cons rfl (.nil _))))) (fun w h => h) ?_
  rintro i ⟨hi, hp⟩
  refine WC.sr ?_
  refine WL.val (V.lss (OV.p rfl) (OV.p rfl)) rfl ?_
  refine WL.nil ?_
  refine WC.seq ?_
  refine WC.cond rfl (fun hc0 => ?_) (fun hc0 => ?_)
  ·simp only [decide_eq_true_eq, decide_eq_false_iff_not] at hc0
   refine WC.skip ?_
   refine WC.seq ?_
   refine WC.block ?_
   refine WC.sr ?_
   refine WL.mv rfl rfl ?_
   refine WL.sg rfl rfl ?_
   refine WL.nil ?_
   refine WC.sr ?_
   refine WL.mv rfl rfl ?_
   refine WL.mv rfl rfl ?_
   refine WL.mv rfl rfl ?_
   refine WL.val (V.idxS st42 (OV.p rfl) (OV.p rfl) (fun hc => by omega) (fun hc => Seq.int_rd hs (by omega))) rfl ?_
   refine WL.val (V.load Tryz.isAgg3 (OV.p rfl) (fun hc => Seq.int_rd hs (by omega))) rfl ?_
   have hti : (i : Int).toNat = i := by omega
   have hget : xs.getD i 0 = xs[i]'(by omega) := by simp [List.getD, show i < xs.length by omega]
   refine WL.callV (first := []) (vs := [_]) (captured := capt) hcl (OV.p rfl) ⟨OV.p rfl, trivial⟩ (hf (xs.getD i 0) (by rw [hget]; exact List.getElem_mem _)) rfl ?_
   rintro _ H0 ⟨rfl, h0⟩
   subst H0
   refine WL.nil ?_
   refine WC.cond rfl (fun hc1 => ?_) (fun hc1 => ?_)
   ·skip
    have h1 := hc1
    refine WC.sr ?_
    refine WL.mv rfl rfl ?_
    refine WL.sg rfl rfl ?_
    refine WL.nil ?_
    refine WC.ret ?_
    refine BodyQ.ret (H' := F) (Res.tmp rfl rfl) (fun w h => h) ⟨rfl, .inr ⟨i, by omega, rfl, hp, h1⟩⟩
   ·skip
    have h1 := hc1
    refine WC.skip ?_
    refine WC.region ?_
    refine WL.ad rfl rfl rfl ?_
    refine WL.mv rfl rfl ?_
    refine WL.nil ?_
    refine ⟨rfl, ?_⟩
    refine ⟨i + 1, ⟨by show i + 1 ≤ m; omega, fun x hx => ?_⟩, (by show m - (i + 1) < m - i; omega), .cons rfl (.cons rfl (.cons rfl (.cons (look_eq rfl (by simp)) (.nil _)))), fun w h => h⟩
    rw [List.take_add_one, List.getElem?_eq_getElem (by omega), ← hget] at hx
    rcases List.mem_append.1 hx with hx | hx
    · exact hp x hx
    · simp at hx; subst hx; exact h1
  ·simp only [decide_eq_true_eq, decide_eq_false_iff_not] at hc0
   refine WC.exit ?_
   refine WC.sr ?_
   refine WL.sg rfl rfl ?_
   refine WL.nil ?_
   refine WC.ret ?_
   obtain rfl : i = m := by omega
   refine BodyQ.ret (H' := F) (Res.tmp rfl rfl) (fun w h => h) ⟨rfl, .inl ⟨rfl, fun x hx => hp x (by rw [List.take_of_length_le (by omega)]; exact hx)⟩⟩
theorem filter_all {p : Int → Bool} {xs : List Int} (h : ∀ x ∈ xs, p x = false) : xs.filter (fun x => !p x) = xs := List.filter_eq_self.2 fun x hx => by simp [h x hx]
theorem deleteFunc {A : Option Addr} {m cap : Nat} {xs : List Int} {fid : FuncId} {capt : List Value} {p : Int → Bool} {K : World} {F : List Assn} (hcl : Callable Tryz.prog fid)
    (hf : ∀ x ∈ xs, ∀ X, Tells Tryz.prog fid ([Value.int .i64 x] ++ capt).toArray K (X :: F) (.bool (p x))) :
    Does Tryz.prog 81 #[.slice A m cap, .func (.func fid) #[] capt.toArray] K (SlA (.slice A m cap) 3 1 m (ints .i64 xs) :: F)
      (fun v H' => ∃ q, q = (xs.filter fun x => !p x).length ∧ v = .slice A q cap ∧ H' = SlA (.slice A q cap) 3 1 q (ints .i64 (xs.filter fun x => !p x)) :: F) := by
  refine Does.have_ (p := xs.length = m) (fun w hw => by have := SlA.len hw; rwa [ints_length, Nat.mul_one] at this) (fun hl => ?_)
  cases A with
  | none =>
    refine Does.have_ (p := m = 0 ∧ cap = 0 ∧ xs = []) (fun w hw => by have := SlA.nilCs hw; simpa [ints] using this) (fun ⟨e1, e2, e3⟩ => ?_)
    subst e1 e2 e3
    refine Does.enter Tryz.func81 rfl Tryz.ntmps81 rfl ?_
    simp only [env0, Nat.reduceAdd]
    refine WC.sr ?_
    refine WL.sg rfl rfl ?_
    refine WL.nil ?_
    refine WC.sr ?_
    refine WL.mv rfl rfl ?_
    refine WL.mv rfl rfl ?_
    refine WL.call (vs := [_, _]) Tryz.call119 ⟨OV.p rfl, OV.p rfl, trivial⟩ (indexFunc (xs := []) (p := p) Seq.nilI (Nat.zero_le _) hcl (fun x hx => by simp at hx)) rfl ?_
    rintro _ _ ⟨rfl, ⟨rfl, _⟩ | ⟨i, hi, _⟩⟩
    rotate_left
    · exact absurd hi (by omega)
    refine WL.sg rfl rfl ?_
    refine WL.nil ?_
    refine WC.seq ?_
    refine WC.sr ?_
    refine WL.mv rfl rfl ?_
    refine WL.val (V.eql (OV.p rfl) (OV.p rfl)) rfl ?_
    refine WL.nil ?_
    refine WC.condT' rfl (by first | rfl | (simp; done) | (simp; omega)) ?_
    refine WC.sr ?_
    refine WL.mv rfl rfl ?_
    refine WL.sg rfl rfl ?_
    refine WL.nil ?_
    refine WC.ret ?_
    exact BodyQ.ret (H' := SlA (.slice none 0 0) _ 1 0 [] :: F) (Res.tmp rfl rfl) (fun w h => h) ⟨0, rfl, rfl, rfl⟩
  | some a =>
    refine Does.have_ (p := ∃ g, a = ⟨g, 0, none⟩) (fun w hw => SlA.addr hw) (fun ⟨g, e1⟩ => ?_)
    subst e1
    refine Does.ex (fun w hw => Sat.slCells hw) (fun rs ⟨hr1, _, hr2, hr3⟩ => ?_)
    have hm' : m ≤ maxLen := by omega
    have hcap : cap ≤ 9223372036854775807 := by simp only [maxLen] at hr3; omega
    have hrl : rs.length = cap - m := by rw [List.length_append, ints_length] at hr1; omega
    have hback : ∀ (ys : List Int) (cs : List Value) (w : World), cs.length = cap → ys.length ≤ cap → cs.take ys.length = ints .i64 ys → Sat K w (Cells g 3 cs :: F) → Sat K w (SlA (.slice (some ⟨g, 0, none⟩) ys.length cap) 3 1 ys.length (ints .i64 ys) :: F) := fun ys cs w h1 h2 h3 h => by
      have := Sat.toSl (s := 1) h (by rw [h1, Nat.mul_one]) h2 hr3
      rw [Nat.mul_one, h3] at this
      exact this
    have hSq : Seq K (Cells g 3 (ints .i64 xs ++ rs) :: F) (some ⟨g, 0, none⟩) m 1 (ints .i64 xs) := Seq.here (by rw [ints_length]; omega) (List.prefix_append _ _)
    by_cases hall : ∀ x ∈ xs, p x = false
    · skip
      refine Does.enter Tryz.func81 rfl Tryz.ntmps81 rfl ?_
      simp only [env0, Nat.reduceAdd]
      refine WC.sr ?_
      refine WL.sg rfl rfl ?_
      refine WL.nil ?_
      refine WC.sr ?_
      refine WL.mv rfl rfl ?_
      refine WL.mv rfl rfl ?_
      refine WL.call (vs := [_, _]) Tryz.call119 ⟨OV.p rfl, OV.p rfl, trivial⟩ (indexFunc (xs := xs) (p := p) hSq hm' hcl (fun x hx => hf x hx _)) rfl ?_
      rintro _ _ ⟨rfl, ⟨rfl, _⟩ | ⟨i0, hi0, rfl, hpre, hat⟩⟩
      rotate_left
      · exfalso
        have : xs.getD i0 0 = xs[i0]'(by omega) := by simp [List.getD, show i0 < xs.length by omega]
        rw [this, hall _ (List.getElem_mem _)] at hat
        cases hat
      refine WL.sg rfl rfl ?_
      refine WL.nil ?_
      refine WC.seq ?_
      refine WC.sr ?_
      refine WL.mv rfl rfl ?_
      refine WL.val (V.eql (OV.p rfl) (OV.p rfl)) rfl ?_
      refine WL.nil ?_
      refine WC.condT' rfl (by first | rfl | (simp; done) | (simp; omega)) ?_
      refine WC.sr ?_
      refine WL.mv rfl rfl ?_
      refine WL.sg rfl rfl ?_
      refine WL.nil ?_
      refine WC.ret ?_
      refine BodyQ.ret (H' := SlA (.slice (some ⟨g, 0, none⟩) xs.length cap) _ 1 xs.length (ints .i64 xs) :: F) (Res.tmp rfl rfl) (fun w h => hback xs _ w (by omega) (by omega) (by rw [List.take_left' (ints_length _ _)]) h) ⟨xs.length, by rw [filter_all hall], by rw [hl], by rw [filter_all hall]⟩
    · skip
      refine Does.enter Tryz.func81 rfl Tryz.ntmps81 rfl ?_
      simp only [env0, Nat.reduceAdd]
      refine WC.sr ?_
      refine WL.sg rfl rfl ?_
      refine WL.nil ?_
      refine WC.sr ?_
      refine WL.mv rfl rfl ?_
      refine WL.mv rfl rfl ?_
      refine WL.call (vs := [_, _]) Tryz.call119 ⟨OV.p rfl, OV.p rfl, trivial⟩ (indexFunc (xs := xs) (p := p) hSq hm' hcl (fun x hx => hf x hx _)) rfl ?_
      rintro _ _ ⟨rfl, ⟨rfl, hno⟩ | ⟨i0, hi0, rfl, hpre, hat⟩⟩
      · exact absurd hno hall
      have hlt0 : i0 < xs.length := by omega
      refine WL.sg rfl rfl ?_
      refine WL.nil ?_
      refine WC.seq ?_
      refine WC.sr ?_
      refine WL.mv rfl rfl ?_
      refine WL.val (V.eql (OV.p rfl) (OV.p rfl)) rfl ?_
      refine WL.nil ?_
      refine WC.condF' rfl ((by simp)) ?_
      refine WC.skip ?_
      refine WC.seq ?_
      refine WC.sr ?_
      refine WL.mv rfl rfl ?_
      refine WL.ad rfl rfl rfl ?_
      refine WL.sg rfl rfl ?_
      refine WL.nil ?_
      refine WC.block ?_
      refine WC.loop (σ := Nat × Nat × List Value) (fun x => [(0, .slice (some ⟨g, 0, none⟩) m cap), (1, .func (.func fid) #[] capt.toArray), (5, .int .i64 (x.1 : Int)), (6, .int .i64 (x.2.1 : Int))]) (fun x => Cells g 3 x.2.2 :: F) (fun x => x.1 < x.2.1 ∧ x.2.1 ≤ m ∧ x.2.2.length = cap ∧ x.1 = ((xs.take x.2.1).filter fun y => !p y).length ∧ x.2.2.take x.1 = ints .i64 ((xs.take x.2.1).filter fun y => !p y) ∧ x.2.2.drop x.2.1 = (ints .i64 xs ++ rs).drop x.2.1) (fun x => m - x.2.1) (i0, i0 + 1, ints .i64 xs ++ rs) ?_ (.cons rfl (.cons rfl (.cons rfl (.cons (look_eq rfl (by simp)) (.nil _))))) (fun w h => h) ?_
      · have e1 : (xs.take (i0 + 1)).filter (fun y => !p y) = xs.take i0 := by
          rw [List.take_add_one, List.getElem?_eq_getElem hlt0, List.filter_append, filter_all hpre]
          have : p xs[i0] = true := by simpa [List.getD, hlt0] using hat
          simp [this]
        refine ⟨by show i0 < i0 + 1; omega, by show i0 + 1 ≤ m; omega, by rw [hr1]; omega, ?_, ?_, rfl⟩
        · show i0 = ((xs.take (i0 + 1)).filter fun y => !p y).length
          rw [e1, List.length_take]; omega
        · show (ints .i64 xs ++ rs).take i0 = ints .i64 ((xs.take (i0 + 1)).filter fun y => !p y)
          rw [e1, List.take_append_of_le_length (by rw [ints_length]; omega), ints_take]
      rintro ⟨i, j, cs⟩ ⟨hij, hjm, hcl', hi, htk, hdr⟩
      dsimp only at hij hjm hcl' hi htk hdr ⊢
      refine WC.seq ?_
      refine WC.sr ?_
      refine WL.mv rfl rfl ?_
      refine WL.mv rfl rfl ?_
      refine WL.val (V.len (t := 42) Tryz.runUnderlying42 (OV.p rfl)) rfl ?_
      refine WL.val (V.lss (OV.p rfl) (OV.p rfl)) rfl ?_
      refine WL.nil ?_
      refine WC.cond rfl (fun hc1 => ?_) (fun hc1 => ?_)
      ·simp only [decide_eq_true_eq, decide_eq_false_iff_not] at hc1
       refine WC.skip ?_
       refine WC.seq ?_
       refine WC.block ?_
       refine WC.seq ?_
       have hjm2 : j < m := by omega
       have hgj : cs[0 + (j : Int).toNat * 1]? = some (.int .i64 (xs.getD j 0)) := by
         have e1 := congrArg (·[0]?) hdr
         simp only [List.getElem?_drop, Nat.add_zero] at e1
         rw [show 0 + (j : Int).toNat * 1 = j by omega, e1, List.getElem?_append_left (by rw [ints_length]; omega), ints_getD _ _ (by omega)]
       have hgx : xs.getD j 0 = xs[j]'(by omega) := by simp [List.getD, show j < xs.length by omega]
       have htj : xs.take (j + 1) = xs.take j ++ [xs.getD j 0] := by rw [List.take_add_one, List.getElem?_eq_getElem (by omega), hgx]; rfl
       refine WC.region ?_
       refine WL.mv rfl rfl ?_
       refine WL.mv rfl rfl ?_
       refine WL.val (V.idxB st42 (OV.p rfl) (OV.p rfl) (fun hc => by omega)) rfl ?_
       refine WL.val (V.load Tryz.isAgg3 (OV.p rfl) (fun _ => Rd.here hgj)) rfl ?_
       refine WL.sg rfl rfl ?_
       refine WL.nil ?_
       refine WC.sr ?_
       refine WL.mv rfl rfl ?_
       refine WL.mv rfl rfl ?_
       refine WL.callV (first := []) (vs := [_]) (captured := capt) hcl (OV.p rfl) ⟨OV.p rfl, trivial⟩ (hf (xs.getD j 0) (by rw [hgx]; exact List.getElem_mem _) _) rfl ?_
       rintro _ H0 ⟨rfl, h0⟩
       subst H0
       refine WL.val (V.not (OV.p rfl)) rfl ?_
       refine WL.nil ?_
       refine WC.cond rfl (fun hc2 => ?_) (fun hc2 => ?_)
       ·simp only [Bool.not_eq_true', Bool.not_eq_false'] at hc2
        have h2 := hc2
        have hst : [xs.getD j 0].filter (fun y => !p y) = [xs.getD j 0] := by rw [List.filter_cons_of_pos (by rw [h2]; rfl)]; rfl
        refine WC.sr ?_
        refine WL.mv rfl rfl ?_
        refine WL.mv rfl rfl ?_
        refine WL.mv rfl rfl ?_
        refine WL.val (V.idxB st42 (OV.p rfl) (OV.p rfl) (fun hc => by omega)) rfl ?_
        refine WL.store (cs := [_]) Tryz.sizeOf3 (OV.p rfl) (OV.p rfl) rfl rfl rfl (Upd.at_ (by omega)) ?_
        refine WL.nil ?_
        refine WC.region ?_
        refine WL.mv rfl rfl ?_
        refine WL.ad rfl rfl rfl ?_
        refine WL.sg rfl rfl ?_
        refine WL.nil ?_
        refine WC.region ?_
        refine WL.mv rfl rfl ?_
        refine WL.ad rfl rfl rfl ?_
        refine WL.sg rfl rfl ?_
        refine WL.nil ?_
        refine ⟨rfl, ?_⟩
        first
        | (refine ⟨(i, j + 1, cs), ⟨by show i < j + 1; omega, by show j + 1 ≤ m; omega, hcl', ?_, ?_, ?_⟩, (by show m - (j + 1) < m - j; omega), .cons rfl (.cons rfl (.cons rfl (.cons (look_eq rfl (by simp)) (.nil _)))), fun w h => h⟩
           · show i = ((xs.take (j + 1)).filter fun y => !p y).length
             rw [htj, List.filter_append, hse, List.length_append, ← hi]; rfl
           · show cs.take i = ints .i64 ((xs.take (j + 1)).filter fun y => !p y)
             rw [htj, List.filter_append, hse, List.append_nil, htk]
           · have := congrArg (List.drop 1) hdr
             rwa [List.drop_drop, List.drop_drop] at this)
        | (have hst2 := hst
           refine ⟨(i + 1, j + 1, cs.set (0 + (i : Int).toNat * 1) (.int .i64 (xs.getD j 0))), ⟨by show i + 1 < j + 1; omega, by show j + 1 ≤ m; omega, by rw [List.length_set]; exact hcl', ?_, ?_, ?_⟩, (by show m - (j + 1) < m - j; omega), .cons rfl (.cons rfl (.cons (look_eq rfl (by simp)) (.cons (look_eq rfl (by simp)) (.nil _)))), fun w h => h⟩
           · show i + 1 = ((xs.take (j + 1)).filter fun y => !p y).length
             rw [htj, List.filter_append, hst2, List.length_append, ← hi]; rfl
           · show (cs.set (0 + (i : Int).toNat * 1) (.int .i64 (xs.getD j 0))).take (i + 1) = ints .i64 ((xs.take (j + 1)).filter fun y => !p y)
             rw [htj, List.filter_append, hst2, ints_append, ← htk, show 0 + (i : Int).toNat * 1 = i by omega, List.take_add_one, List.getElem?_set_self (by omega), List.take_set_of_le (by omega)]
             rfl
           · show (cs.set (0 + (i : Int).toNat * 1) (.int .i64 (xs.getD j 0))).drop (j + 1) = (ints .i64 xs ++ rs).drop (j + 1)
             rw [show 0 + (i : Int).toNat * 1 = i by omega, List.drop_set_of_lt (by omega)]
             have := congrArg (List.drop 1) hdr
             rwa [List.drop_drop, List.drop_drop] at this)
       ·simp only [Bool.not_eq_true', Bool.not_eq_false'] at hc2
        have h2 := hc2
        have hse : [xs.getD j 0].filter (fun y => !p y) = [] := by rw [List.filter_cons_of_neg (by rw [h2]; decide)]; rfl
        refine WC.skip ?_
        refine WC.region ?_
        refine WL.mv rfl rfl ?_
        refine WL.ad rfl rfl rfl ?_
        refine WL.sg rfl rfl ?_
        refine WL.nil ?_
        refine ⟨rfl, ?_⟩
        first
        | (refine ⟨(i, j + 1, cs), ⟨by show i < j + 1; omega, by show j + 1 ≤ m; omega, hcl', ?_, ?_, ?_⟩, (by show m - (j + 1) < m - j; omega), .cons rfl (.cons rfl (.cons rfl (.cons (look_eq rfl (by simp)) (.nil _)))), fun w h => h⟩
           · show i = ((xs.take (j + 1)).filter fun y => !p y).length
             rw [htj, List.filter_append, hse, List.length_append, ← hi]; rfl
           · show cs.take i = ints .i64 ((xs.take (j + 1)).filter fun y => !p y)
             rw [htj, List.filter_append, hse, List.append_nil, htk]
           · have := congrArg (List.drop 1) hdr
             rwa [List.drop_drop, List.drop_drop] at this)
        | (have hst2 := hst
           refine ⟨(i + 1, j + 1, cs.set (0 + (i : Int).toNat * 1) (.int .i64 (xs.getD j 0))), ⟨by show i + 1 < j + 1; omega, by show j + 1 ≤ m; omega, by rw [List.length_set]; exact hcl', ?_, ?_, ?_⟩, (by show m - (j + 1) < m - j; omega), .cons rfl (.cons rfl (.cons (look_eq rfl (by simp)) (.cons (look_eq rfl (by simp)) (.nil _)))), fun w h => h⟩
           · show i + 1 = ((xs.take (j + 1)).filter fun y => !p y).length
             rw [htj, List.filter_append, hst2, List.length_append, ← hi]; rfl
           · show (cs.set (0 + (i : Int).toNat * 1) (.int .i64 (xs.getD j 0))).take (i + 1) = ints .i64 ((xs.take (j + 1)).filter fun y => !p y)
             rw [htj, List.filter_append, hst2, ints_append, ← htk, show 0 + (i : Int).toNat * 1 = i by omega, List.take_add_one, List.getElem?_set_self (by omega), List.take_set_of_le (by omega)]
             rfl
           · show (cs.set (0 + (i : Int).toNat * 1) (.int .i64 (xs.getD j 0))).drop (j + 1) = (ints .i64 xs ++ rs).drop (j + 1)
             rw [show 0 + (i : Int).toNat * 1 = i by omega, List.drop_set_of_lt (by omega)]
             have := congrArg (List.drop 1) hdr
             rwa [List.drop_drop, List.drop_drop] at this)
      ·simp only [decide_eq_true_eq, decide_eq_false_iff_not] at hc1
       refine WC.exit ?_
       refine WC.sr ?_
       refine WL.mv rfl rfl ?_
       refine WL.mv rfl rfl ?_
       have hje : j = m := by omega
       subst hje
       refine WL.val (V.slice (l := i) (h := j) (u := cap) st42 (OV.p rfl) (OO.some (OV.p rfl) (fun _ => rfl)) OO.none OO.none (by simp) (by omega) (by omega) (Nat.le_refl _)) rfl ?_
       refine WL.clear0 (b := g) (o := i) Tryz.underlying42 Tryz.zeroValue3 rfl rfl (OV.p rfl) (fun hq => by rw [if_neg (by omega)]; simp [add_mk]) (Upd.row (by rw [List.length_replicate]; omega)) ?_
       refine WL.nil ?_
       refine WC.sr ?_
       refine WL.mv rfl rfl ?_
       refine WL.mv rfl rfl ?_
       refine WL.val (V.slice (l := 0) (h := i) (u := cap) st42 (OV.p rfl) OO.none (OO.some (OV.p rfl) (fun _ => rfl)) OO.none (by simp) (by omega) (by omega) (Nat.le_refl _)) rfl ?_
       refine WL.sg rfl rfl ?_
       refine WL.nil ?_
       refine WC.ret ?_
       rw [List.take_of_length_le (Nat.le_of_eq hl)] at hi htk
       refine BodyQ.ret (H' := SlA (.slice (some ⟨g, 0, none⟩) i cap) _ 1 i (ints .i64 (xs.filter fun y => !p y)) :: F) (Res.tmp rfl (look_eq rfl (by simp [Addr.add]))) (fun w h => ?_) ⟨i, hi, rfl, rfl⟩
       have hlen : (cs.take i ++ List.replicate (j - i) (Value.int .i64 0) ++ cs.drop (i + (List.replicate (j - i) (Value.int .i64 0)).length)).length = cap := by
         simp only [List.length_append, List.length_take, List.length_replicate, List.length_drop]; omega
       have := hback (xs.filter fun y => !p y) _ w hlen (by omega) (by rw [← hi, List.append_assoc, List.take_left' (by rw [List.length_take]; omega), htk]) h
       rw [← hi] at this
       exact this
end Go.Proofs.YtohkefolnmcjnaaGreat
