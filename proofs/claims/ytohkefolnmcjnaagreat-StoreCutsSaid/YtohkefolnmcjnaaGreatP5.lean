import Derived.Test.YtohkefolnmcjnaaGreatP4
import Derived.Lib.SliceRun
import Derived.RangeFuncNested
import Derived.KernelRfl
namespace Go.Sl
open Go.RowKit Go.BigFrame
set_option linter.unusedVariables false
set_option linter.unusedSimpArgs false
section
variable {Mo : Mode} {P : Program} {K : World} {n : Nat} {Q : Post} {e : Env} {H : List Assn} {c : Bool} {dst : Option Tmp} {ty : TypeId} {pos : String} {af : Array Edge} {gd : Option (Nat × Bool)} {ops : Array Oper} {rest : List Oper}
theorem Does.ex {α : Type} {f : FuncId} {args : Array Value} {post : Value → List Assn → Prop} {p : α → Prop} {M : α → List Assn} (hx : ∀ w, Sat K w H → ∃ a, p a ∧ Sat K w (M a)) (h : ∀ a, p a → Does P f args K (M a) post) : Does P f args K H post := fun w hw => by
  obtain ⟨a, h1, h2⟩ := hx w hw
  exact h a h1 w h2
theorem WL.ex {α : Type} {p : α → Prop} {M : α → List Assn} (hx : ∀ w, Sat K w H → ∃ a, p a ∧ Sat K w (M a)) (h : ∀ a, p a → WL Mo P K n ops rest Q e (M a)) : WL Mo P K n ops rest Q e H := fun a w ha hw => by
  obtain ⟨x, h1, h2⟩ := hx w hw
  exact h x h1 a w ha h2
theorem WC.ex {code : Code} {α : Type} {p : α → Prop} {M : α → List Assn} (hx : ∀ w, Sat K w H → ∃ a, p a ∧ Sat K w (M a)) (h : ∀ a, p a → WC Mo P K n code Q e (M a)) : WC Mo P K n code Q e H := fun a w ha hw => by
  obtain ⟨x, h1, h2⟩ := hx w hw
  exact h x h1 a w ha h2
theorem WL.have_ {p : Prop} (hp : ∀ w, Sat K w H → p) (h : p → WL Mo P K n ops rest Q e H) : WL Mo P K n ops rest Q e H := fun a w ha hw => h (hp w hw) a w ha hw
theorem WC.have_ {code : Code} {p : Prop} (hp : ∀ w, Sat K w H → p) (h : p → WC Mo P K n code Q e H) : WC Mo P K n code Q e H := fun a w ha hw => h (hp w hw) a w ha hw
theorem SlA.addr {a : Addr} {m cap E s : Nat} {cs : List Value} {w : World} (h : Sat K w (SlA (.slice (some a) m cap) E s m cs :: H)) : ∃ g, a = ⟨g, 0, none⟩ := by
  rcases h.head.2 with ⟨h1, _⟩ | ⟨g, cap', cur, h1, _⟩
  · cases h1
  · simp only [Value.slice.injEq, Option.some.injEq] at h1
    exact ⟨g, h1.1⟩
theorem SlA.nilCs {m cap E s : Nat} {cs : List Value} {w : World} (h : Sat K w (SlA (.slice none m cap) E s m cs :: H)) : m = 0 ∧ cap = 0 ∧ cs = [] := by
  rcases h.head.2 with ⟨h1, h2⟩ | ⟨g, cap', cur, h1, _⟩
  · simp only [Value.slice.injEq] at h1
    exact ⟨h1.2.1, h1.2.2, List.eq_nil_of_length_eq_zero (by rw [h.head.1, h2, Nat.zero_mul])⟩
  · simp at h1
theorem SlA.len {v : Value} {m E s : Nat} {cs : List Value} {w : World} (h : Sat K w (SlA v E s m cs :: H)) : cs.length = m * s := h.head.1
theorem Sat.slCells {w : World} {g E s m cap : Nat} {cs : List Value} (hw : Sat K w (SlA (.slice (some ⟨g, 0, none⟩) m cap) E s m cs :: H)) :
    ∃ rest : List Value, ((cs ++ rest).length = cap * s ∧ cs.length = m * s ∧ m ≤ cap ∧ cap ≤ maxLen) ∧ Sat K w (Cells g E (cs ++ rest) :: H) := by
  obtain ⟨h1, h2⟩ := hw.head
  rcases h2 with ⟨h2, _⟩ | ⟨g', cap', cur, h2, _, h3, h4, h5, h6, h7⟩
  · cases h2
  · simp only [Value.slice.injEq, Option.some.injEq, Addr.mk.injEq] at h2
    obtain ⟨⟨rfl, _⟩, _, rfl⟩ := h2
    have hcat : cs ++ cur.toList.drop (m * s) = cur.toList := by rw [← h7, List.take_append_drop]
    refine ⟨cur.toList.drop (m * s), ⟨by rw [hcat, Array.length_toList, h6], h1, h4, h5⟩, hw.1, ?_, fun x hx => ?_, fun x hx B hB hb' => ?_, hw.2.tail⟩
    · rw [hcat]
      simp only [Cells, Array.toArray_toList]
      exact h3
    · simp only [Cells] at hx
      subst hx
      exact hw.2.2.1 _ (by simp [SlA, Value.ownBlock])
    · simp only [Cells] at hx
      subst hx
      exact hw.2.2.2.1 _ (by simp [SlA, Value.ownBlock]) B hB hb'
theorem WL.clear0 {x : Operand} {T E b o q cap : Nat} {z : Value} {A : Option Addr} {H' : List Assn} (hT : P.underlying T = some (.slice E)) (hz : ∀ w, (zeroValue E).run P w = .ok z w) (hzc : z.cells = #[z]) (h1 : z.oneCell' = true)
    (hx : OV true e x (.slice A q cap)) (hA : q ≠ 0 → A = some ⟨b, o, none⟩) (hu : Upd K H b o (List.replicate q z) H') (h : WL Mo P K n ops rest Q e H') :
    WL Mo P K n ops (⟨none, .call ⟨.builtin .clear, #[x], #[T]⟩, ty, pos, af, none⟩ :: rest) Q e H := by
  refine WL.eff0 (R := fun H'' => H'' = H') (fun a w ha hw => ?_) (fun H'' e1 => by subst e1; exact h)
  obtain ⟨k1, k2⟩ := hu.run (P := P) hw (fun v hv => by rw [List.eq_of_mem_replicate hv]; exact h1)
  refine ⟨_, H', .inr ⟨.tuple #[], ?_⟩, k2, rfl⟩
  rw [execOp_builtin, builtin_clear]
  have ev1 := hx.ev rfl ha
  rcases Nat.eq_zero_or_pos q with h0 | h0
  · subst h0
    cases A <;> simp [ev1, Builtin.clear_, run_underlying hT, World.setCells]
  · rw [hA (by omega)] at ev1
    have hm := hu.may w hw.2
    have := Lib.run_clear_slice (P := P) w T E ty z hT hz hzc h1 b o q cap h0 (fun j hj => (hm j (by simpa using hj)).1) (fun j hj => (hm j (by simpa using hj)).2)
    simp only [List.map_toArray, List.map_cons, List.map_nil, ev1]
    rw [Sem.run_bind, this]
    rfl
theorem V.idxStr {x y : Operand} {T : TypeId} {s : ByteArray} {k : IntKind} {j : Int} {b : UInt8} (hT : P.underlying T = some .string) (hx : OV c e x (.string s)) (hy : OV c e y (.int k j)) (hb : c = true → 0 ≤ j ∧ s[j.toNat]? = some b) :
    Val Mo P K n c e H ⟨dst, .index T x y, ty, pos, af, gd⟩ (.int .u8 b.toNat) := fun hc a w ha hw => by
  show ((do pure (Next.value (← Instr.index T (a.eval x) (a.eval y)))) : Sem Next).run P w = _
  rw [hx.ev hc ha, hy.ev hc ha]
  obtain ⟨h1, h2⟩ := hb hc
  simp [Instr.index, asIntOf, run_underlying hT, h1, h2]
theorem Upd.row {b T o : Nat} {cs vs : List Value} (ho : o + vs.length ≤ cs.length) : Upd K (Cells b T cs :: H) b o vs (Cells b T (cs.take o ++ vs ++ cs.drop (o + vs.length)) :: H) := Upd.here (by simpa using ho) (setL_append _ _ _ ho)
end
end Go.Sl
namespace Go.Sl
open Go.RowKit Go.BigFrame
set_option linter.unusedVariables false
set_option linter.unusedSimpArgs false
structure LoopI where
  fn : FuncId
  tmps : Array Value
  ps : Array Tmp
  assign : Code
  body : Code
  D : Nat
def LoopI.recd (r : LoopI) (st : LoopState) (pe : Option Code) : Loop := { state := st, pending := pe, fn := r.fn, tmps := r.tmps, params := r.ps, assign := r.assign, body := r.body, defers := r.D }
def LoopI.A (r : LoopI) (l : Nat) (st : LoopState) (pe : Option Code) : Assn where
  foot x := x = l
  holds w := w.heap[l]? = some (.loop (r.recd st pe))
  loc w w' h hw := by rw [h l rfl]; exact hw
def DefA (D : Nat) : Assn where
  foot x := x = D
  holds w := w.heap[D]? = some (.deferred (some []))
  loc w w' h hw := by rw [h D rfl]; exact hw
abbrev markOf (D : Nat) : Deferred := { target := .collected D, args := #[] }
section
variable {K : World} {H : List Assn} {P : Program}
theorem Sat.putObj {w : World} {l : Nat} {A A' : Assn} {o : Obj} (hw : Sat K w (A :: H)) (hA : ∀ b, A.foot b ↔ b = l) (hf : ∀ b, A'.foot b → b = l) (hh : ∀ w' : World, w'.heap[l]? = some o → A'.holds w') : Sat K (w.putObj l o) (A' :: H) := by
  have hlt : l < w.heap.size := hw.2.2.1 l ((hA l).2 rfl)
  refine ⟨hw.1.grow rfl rfl rfl (by simp [World.putObj]), hw.2.set (by simp [World.putObj]) (fun b hb _ => ?_) (hh _ (World.putObj_heap_same hlt)) (fun b hb => .inl ((hA b).2 (hf b hb)))⟩
  exact World.putObj_heap_other (fun e => hb ((hA b).2 e))
theorem Sat.loopSet {w : World} {r : LoopI} {l : Nat} {st st' : LoopState} {pe pe' : Option Code} (hw : Sat K w (r.A l st pe :: H)) : Sat K (w.putObj l (.loop (r.recd st' pe'))) (r.A l st' pe' :: H) :=
  hw.putObj (fun b => Iff.rfl) (fun b h => h) (fun w' h => h)
theorem Sat.allocObj {w : World} {A : Assn} {o : Obj} (hw : Sat K w H) (hf : ∀ b, A.foot b → b = w.heap.size) (hh : ∀ w' : World, w'.heap[w.heap.size]? = some o → A.holds w') : Sat K (w.alloc o) (A :: H) := by
  refine ⟨hw.1.grow rfl rfl rfl (by simp), hw.2.push (by simp) (fun b hb => Below.heap_alloc _ _ _ hb) (hh _ (heap_alloc_new w _)) (fun b hb => ?_)⟩
  have := hf b hb
  subst this
  simp
theorem Sat.shut {w : World} {D : Nat} {o : Obj} (hw : Sat K w (DefA D :: H)) : Sat K (w.putObj D o) H := by
  refine ⟨hw.1.grow rfl rfl rfl (by simp [World.putObj]), hw.2.tail.keep (by simp [World.putObj]) fun B hB b hb => World.putObj_heap_other fun e => hw.2.2.2.1 b e B hB hb⟩
def YieldsTo (P : Program) (K : World) (r : Option Nat) (l : Nat) (args : Array Value) (H : List Assn) (post : Bool → List Assn → Prop) : Prop :=
  ∀ w, Sat K w H → ∃ fn tmps assign body, (Instr.yield l args).run P w = .ok (.round l fn tmps assign body) w ∧ RoundIn (inF r) 0 P l fn tmps assign body w fun e w' => ∃ b H', e = .returned (.bool b) ∧ Sat K w' H' ∧ post b H'
theorem YieldsTo.mono {r : Option Nat} {l : Nat} {args : Array Value} {post post' : Bool → List Assn → Prop} (h : YieldsTo P K r l args H post) (hp : ∀ b H', post b H' → post' b H') : YieldsTo P K r l args H post' := fun w hw => by
  obtain ⟨fn, tmps, assign, body, h1, h2⟩ := h w hw
  exact ⟨fn, tmps, assign, body, h1, h2.mono fun e w' ⟨b, H', k1, k2, k3⟩ => ⟨b, H', k1, k2, hp b H' k3⟩⟩
theorem YieldsTo.sat {r : Option Nat} {l : Nat} {args : Array Value} {post : Bool → List Assn → Prop} {H' : List Assn} (h : YieldsTo P K r l args H' post) (hH : ∀ w, Sat K w H → Sat K w H') : YieldsTo P K r l args H post := fun w hw => h w (hH w hw)
variable {n : Nat} {e : Env} {Q : Post}
def RoundQ (r : LoopI) (l : Nat) (K : World) (post : Option Code → List Assn → Prop) : Post
  | _, .normal, _, H' => ∃ H1, (∀ w, Sat K w H' → Sat K w (r.A l .busy none :: H1)) ∧ post none H1
  | _, .ret, _, H' => ∃ H1, (∀ w, Sat K w H' → Sat K w (r.A l .busy none :: H1)) ∧ post (some .ret) H1
  | _, .exit id, _, H' => ∃ H1, (∀ w, Sat K w H' → Sat K w (r.A l .busy none :: H1)) ∧ post (some (.exit id)) H1
  | _, .goto t, _, H' => ∃ H1, (∀ w, Sat K w H' → Sat K w (r.A l .busy none :: H1)) ∧ post (some (.goto t)) H1
  | _, _, _, _ => False
def AssignQ (P : Program) (n : Nat) (r : LoopI) (l : Nat) (K : World) (post : Option Code → List Assn → Prop) : Post
  | Mo, .normal, e', H' => ∃ H1, (∀ w, Sat K w H' → Sat K w (r.A l .ready none :: H1)) ∧ WC Mo P K n r.body (RoundQ r l K post) e' (r.A l .busy none :: H1)
  | _, _, _, _ => False
def putArgs (ps : List Tmp) (args : List Value) (e : Env) : Env := (ps.zip args).foldl (fun e p => (p.1, p.2) :: e) e
theorem agree_putArgs {Mo : Mode} : ∀ {ps : List Tmp} {args : List Value} {e : Env} {t : Array Value}, (∀ p ∈ ps, Nat.blt p n = true) → Agree Mo n e { tmps := t, defers := Mo.ds } →
    Agree Mo n (putArgs ps args e) { tmps := (ps.zip args).foldl (fun t p => t.setIfInBounds p.1 p.2) t, defers := Mo.ds }
  | [], _, _, _, _, h => h
  | p :: ps, [], _, _, _, h => h
  | p :: ps, v :: args, e, t, hp, h => by
    have h1 := h.put p (hp p (.head _)) v
    have h2 : Agree Mo n ((p, v) :: e) { tmps := t.setIfInBounds p v, defers := Mo.ds } := h1
    exact agree_putArgs (ps := ps) (fun q hq => hp q (List.mem_cons_of_mem _ hq)) h2
theorem yields_round {r : LoopI} {r0 : Option Nat} {l : Nat} {args : List Value} {post : Option Code → List Assn → Prop} (hargs : args.length = r.ps.size) (hps : ∀ p ∈ r.ps.toList, Nat.blt p n = true)
    (hA : Agree ⟨some (some l), []⟩ n e { tmps := r.tmps, defers := [] })
    (h : WC ⟨some (some l), []⟩ P K n r.assign (AssignQ P n r l K post) (putArgs r.ps.toList args e) (r.A l .ready none :: H)) :
    YieldsTo P K r0 l args.toArray (r.A l .ready none :: H) (fun b H' => ∃ j H1, b = Option.isNone j ∧ post j H1 ∧ H' = r.A l (if Option.isNone j then .ready else .done) j :: H1) := fun w hw => by
  have hl : w.heap[l]? = some (.loop (r.recd .ready none)) := hw.2.1
  refine ⟨r.fn, _, r.assign, r.body, run_yield (P := P) (args := args.toArray) hl (by simpa [LoopI.recd] using hargs), ?_⟩
  have hin : ∀ R : Ending → World → Prop, RoundIn (inF none) 0 P l r.fn ((r.ps.zip args.toArray).foldl (fun tmps (t, a) => tmps.setIfInBounds t a) r.tmps) r.assign r.body w R →
      RoundIn (inF r0) 0 P l r.fn ((r.ps.zip args.toArray).foldl (fun tmps (t, a) => tmps.setIfInBounds t a) r.tmps) r.assign r.body w R := fun R h => by
    cases r0
    · exact h
    · exact h
  refine hin _ ?_
  refine roundIn_of_wpIn (F := Fence.wide) (n := 0) trivial ?_
  have hAg : Agree ⟨some (some l), []⟩ n (putArgs r.ps.toList args e) { tmps := (r.ps.zip args.toArray).foldl (fun tmps (t, a) => tmps.setIfInBounds t a) r.tmps, defers := [] } := by
    have h1 := agree_putArgs (args := args) hps hA
    have h2 : (r.ps.zip args.toArray).foldl (fun tmps (t, a) => tmps.setIfInBounds t a) r.tmps = (r.ps.toList.zip args).foldl (fun t p => t.setIfInBounds p.1 p.2) r.tmps := by
      rw [← Array.foldl_toList]
      simp
    rw [h2]
    exact h1
  have h1 : r.assign.wpIn (inF (some l)) 0 P (lift (some (some l)) K n (AssignQ P n r l K post)) _ w := h _ w hAg hw
  refine wpIn_mono h1 ?_
  rintro x a1 w1 ⟨ds, e', H', k1, k2, k3⟩
  cases x
  case normal =>
    obtain ⟨H1, hs1, hb⟩ := k3
    have hs := hs1 w1 k2
    have hl1 : w1.heap[l]? = some (.loop (r.recd .ready none)) := hs.2.1
    refine ⟨_, run_beginRound hl1 rfl, ?_⟩
    have hb1 : r.body.wpIn (inF (some l)) 0 P (lift (some (some l)) K n (RoundQ r l K post)) a1 (w1.putObj l (.loop { r.recd .ready none with state := .busy })) := hb _ _ k1 hs.loopSet
    refine wpIn_mono hb1 ?_
    have fin : ∀ (j : Option Code) (w3 : World) (H1 : List Assn), Sat K w3 (r.A l .busy none :: H1) → ∃ v w', (Instr.endRound l j).run P w3 = .ok v w' ∧ v = .bool (Option.isNone j) ∧ Sat K w' (r.A l (if Option.isNone j then .ready else .done) j :: H1) := fun j w3 H1 hs => by
      have hl3 : w3.heap[l]? = some (.loop (r.recd .busy none)) := hs.2.1
      exact ⟨_, _, run_endRound (P := P) j hl3, rfl, hs.loopSet⟩
    rintro y a3 w3 ⟨ds3, e3, H3, m1, m2, m3⟩
    cases y
    case normal =>
      obtain ⟨H4, q1, q2⟩ := m3
      obtain ⟨v, w', q3, rfl, q5⟩ := fin none w3 H4 (q1 w3 m2)
      exact ⟨_, w', q3, true, _, rfl, q5, none, H4, rfl, q2, rfl⟩
    case ret =>
      obtain ⟨H4, q1, q2⟩ := m3
      obtain ⟨v, w', q3, rfl, q5⟩ := fin (some .ret) w3 H4 (q1 w3 m2)
      exact ⟨_, w', q3, false, _, rfl, q5, some .ret, H4, rfl, q2, rfl⟩
    case exit id =>
      obtain ⟨H4, q1, q2⟩ := m3
      obtain ⟨v, w', q3, rfl, q5⟩ := fin (some (.exit id)) w3 H4 (q1 w3 m2)
      exact ⟨_, w', q3, false, _, rfl, q5, some (.exit id), H4, rfl, q2, rfl⟩
    case goto t =>
      obtain ⟨H4, q1, q2⟩ := m3
      obtain ⟨v, w', q3, rfl, q5⟩ := fin (some (.goto t)) w3 H4 (q1 w3 m2)
      exact ⟨_, w', q3, false, _, rfl, q5, some (.goto t), H4, rfl, q2, rfl⟩
    case panic => exact m3.elim
    case outgrown => exact m3.elim
  all_goals exact k3.elim
theorem WC.range {g : Operand} {ps : Array Tmp} {assign body : Code} {gf : FuncId} {lb : List Value} {Done : List Assn → Prop} {X : Code → List Assn → Prop} (hg : opv e g = some (.func (.func gf) #[] lb.toArray)) (hc : Callable P gf)
    (hit : ∀ (r : LoopI) (l : Nat), r.ps = ps → r.assign = assign → r.body = body → Agree ⟨some (some l), []⟩ n e { tmps := r.tmps, defers := [] } →
      Does P gf (#[.func (.yield l) #[] #[]] ++ lb.toArray) K (r.A l .ready none :: DefA r.D :: H) (fun _ H' => ∃ j H1, H' = r.A l (if Option.isNone j then .ready else .done) j :: DefA r.D :: H1 ∧ (match j with | none => Done H1 | some c => X c H1)))
    (hdone : ∀ D H1, Done H1 → Q ⟨none, [markOf D]⟩ .normal e (DefA D :: H1))
    (hbrk : ∀ D c H1, X c H1 → WC ⟨none, [markOf D]⟩ P K n c Q e (DefA D :: H1)) : WC ⟨none, []⟩ P K n (.rangeFunc g ps assign body) Q e H := fun a w ha hw => by
  show (Code.rangeFunc g ps assign body).wp P _ a w
  refine (wpIn_wide (n := 0)).1 (wpIn_rangeFunc ?_)
  intro fn hfn
  have had : a.defers = [] := ha.defers
  obtain ⟨r, hr⟩ : ∃ r : LoopI, r = ⟨fn, a.tmps, ps, assign, body, w.heap.size⟩ := ⟨_, rfl⟩
  have hD : Sat K (w.alloc (.deferred (some []))) (DefA w.heap.size :: H) := hw.allocObj (fun b h => h) (fun w' h => h)
  have hL : Sat K ((w.alloc (.deferred (some []))).alloc (.loop (r.recd .ready none))) (r.A (w.heap.size + 1) .ready none :: DefA w.heap.size :: H) := by
    have := hD.allocObj (A := r.A (w.alloc (.deferred (some []))).heap.size .ready none) (o := .loop (r.recd .ready none)) (fun b h => h) (fun w' h => h)
    simpa using this
  have hrD : r.D = w.heap.size := by rw [hr]
  have hgv := ha.ev hg
  refine ⟨w.heap.size + 1, [markOf w.heap.size], (w.alloc (.deferred (some []))).alloc (.loop (r.recd .ready none)), { target := .fn (.func gf) lb.toArray, args := #[.func (.yield (w.heap.size + 1)) #[] #[]] }, (w.alloc (.deferred (some []))).alloc (.loop (r.recd .ready none)), gf,
    #[.func (.yield (w.heap.size + 1)) #[] #[]] ++ lb.toArray, (w.alloc (.deferred (some []))).alloc (.loop (r.recd .ready none)), ?_, ?_, fun f' _ => trivial, ?_, fun h => (by cases h), ?_⟩
  · rw [hr]; exact run_enterLoop_outer _ _ _ _ _
  · simp only [resolve, hgv]
    simp [go_sem]
  · show (callFunc gf (#[.func (.yield (w.heap.size + 1)) #[] #[]] ++ lb.toArray)).run P _ = _
    rw [hc]
  · refine callsIn_wide.2 ?_
    refine (hit r (w.heap.size + 1) (by rw [hr]) (by rw [hr]) (by rw [hr]) ?_ _ (by rw [hrD]; exact hL)).mono ?_
    · rw [hr]
      exact ⟨rfl, ha.size, ha.at_⟩
    · rintro _ w3 ⟨v, H', rfl, hs, j, H1, rfl, hj⟩
      have hl3 : w3.heap[w.heap.size + 1]? = some (.loop (r.recd (if Option.isNone j then .ready else .done) j)) := hs.2.1
      have hend := run_endLoop (P := P) hl3 (by show (if Option.isNone j then LoopState.ready else .done) ≠ .busy; split <;> simp)
      refine ⟨j, _, hend, ?_⟩
      have hs4 : Sat K (w3.putObj (w.heap.size + 1) (.loop { r.recd (if Option.isNone j then .ready else .done) j with state := .exhausted })) (DefA r.D :: H1) :=
        (hs.loopSet (st' := .exhausted) (pe' := j)).tail
      have hA4 : Agree ⟨none, [markOf w.heap.size]⟩ n e { a with defers := [markOf w.heap.size] ++ a.defers } := ⟨by rw [had]; rfl, ha.size, ha.at_⟩
      rw [hrD] at hs4
      cases j with
      | none => exact ⟨_, e, _, hA4, hs4, hdone _ _ hj⟩
      | some c => exact wpIn_wide.2 (hbrk _ c H1 hj _ _ hA4 hs4)
def BodyQM (P : Program) (K : World) (n : Nat) (fn : Func) (post : Value → List Assn → Prop) : Post
  | Mo, .normal, e, H | Mo, .ret, e, H => (∃ v H', Res Mo P K n fn e H v ∧ (∀ w, Sat K w H → Sat K w H') ∧ post v H') ∧ Mo.ds = [] ∨
      (∃ D H1 v H', Mo.ds = [markOf D] ∧ (∀ w, Sat K w H → Sat K w (DefA D :: H1)) ∧ Res Mo P K n fn e H1 v ∧ (∀ w, Sat K w H1 → Sat K w H') ∧ post v H')
  | _, _, _, _ => False
theorem BodyQM.ret {fn : Func} {post : Value → List Assn → Prop} {v : Value} {H' : List Assn} {r : Option (Option Nat)} (hr : Res ⟨r, []⟩ P K n fn e H v) (hs : ∀ w, Sat K w H → Sat K w H') (hp : post v H') : BodyQM P K n fn post ⟨r, []⟩ .ret e H := .inl ⟨⟨v, H', hr, hs, hp⟩, rfl⟩
theorem BodyQM.retD {fn : Func} {post : Value → List Assn → Prop} {v : Value} {H' : List Assn} {D : Nat} (H1 : List Assn) (hH : ∀ w, Sat K w H → Sat K w (DefA D :: H1)) (hr : Res ⟨none, [markOf D]⟩ P K n fn e H1 v) (hs : ∀ w, Sat K w H1 → Sat K w H') (hp : post v H') :
    BodyQM P K n fn post ⟨none, [markOf D]⟩ .ret e H := .inr ⟨D, H1, v, H', rfl, hH, hr, hs, hp⟩
theorem Does.enterM {f : FuncId} {fn : Func} {c : Code} {vs : List Value} {post : Value → List Assn → Prop} (hf : P.funcs[f]? = some fn) (hb : fn.body = some c) (hn : fn.ntmps = n) (hl : Nat.ble vs.length n = true)
    (h : WC ⟨none, []⟩ P K n c (BodyQM P K n fn post) (env0 0 vs) H) : Does P f vs.toArray K H post := by
  intro w hw
  refine callsIn_wide.1 (callsIn_of_wp_marks (F := Fence.wide) (n := 0) hf hb trivial ?_)
  have hAg : Agree ⟨none, []⟩ n (env0 0 vs) { tmps := vs.toArray ++ Array.replicate (fn.ntmps - vs.toArray.size) undef, defers := [] } := by
    have hl' : vs.length ≤ n := by simpa using hl
    refine ⟨rfl, by simp [hn]; omega, fun t v hv => ?_⟩
    obtain ⟨_, h2⟩ := look_env0 vs 0 t v hv
    simp only [Nat.sub_zero] at h2
    have ht : t < vs.length := by
      rcases Nat.lt_or_ge t vs.length with h | h
      · exact h
      · simp [List.getElem?_eq_none h] at h2
    rw [Array.getD_eq_getD_getElem?, Array.getElem?_append_left (by simpa using ht)]
    simp [h2]
  have h1 : c.wp P (lift none K n (BodyQM P K n fn post)) _ w := h _ w hAg hw
  refine wpIn_wide.2 (wp_mono h1 ?_)
  rintro x a w ⟨ds, e', H', h1, h2, h3⟩
  have key : ∀ x, (x = .normal ∨ x = .ret) → BodyQM P K n fn post ⟨none, ds⟩ x e' H' → LeavesInM Fence.wide 0 P fn a.tmps (fun e w' => ∃ v H', e = .returned v ∧ Sat K w' H' ∧ post v H') a.defers .returning w := by
    intro x hx h3
    have h4 : BodyQM P K n fn post ⟨none, ds⟩ .ret e' H' := by rcases hx with rfl | rfl <;> exact h3
    rcases h4 with ⟨⟨v, H'', k1, k2, k3⟩, k0⟩ | ⟨D, H1, v, H'', k0, k1, k2, k3, k4⟩
    · rw [h1.defers.trans k0]
      exact ⟨v, k1 a w h1 h2, v, H'', rfl, k2 w h2, k3⟩
    · rw [h1.defers.trans k0]
      have hs := k1 w h2
      refine ⟨by simp, .inl ⟨D, _, rfl, run_takeDeferred (P := P) hs.2.1, ?_⟩⟩
      have hs2 : Sat K (w.putObj D (.deferred none)) H1 := hs.shut
      exact ⟨v, k2 a _ h1 hs2, v, H'', rfl, k3 _ hs2, k4⟩
  cases x <;> first
    | exact key _ (.inl rfl) h3
    | exact key _ (.inr rfl) h3
    | exact h3.elim
theorem Does.enterY {f : FuncId} {fn : Func} {c : Code} {vs : List Value} {post : Value → List Assn → Prop} (hf : P.funcs[f]? = some fn) (hb : fn.body = some c) (hn : fn.ntmps = n) (hl : Nat.ble vs.length n = true)
    (h : WC ⟨some none, []⟩ P K n c (BodyQ P K n fn post) (env0 0 vs) H) : Does P f vs.toArray K H post := by
  intro w hw
  refine callsIn_wide.1 (callsIn_of_wp (F := Fence.wide) (n := 0) hf hb trivial ?_)
  have hAg : Agree ⟨some none, []⟩ n (env0 0 vs) { tmps := vs.toArray ++ Array.replicate (fn.ntmps - vs.toArray.size) undef, defers := [] } := by
    have hl' : vs.length ≤ n := by simpa using hl
    refine ⟨rfl, by simp [hn]; omega, fun t v hv => ?_⟩
    obtain ⟨_, h2⟩ := look_env0 vs 0 t v hv
    simp only [Nat.sub_zero] at h2
    have ht : t < vs.length := by
      rcases Nat.lt_or_ge t vs.length with h | h
      · exact h
      · simp [List.getElem?_eq_none h] at h2
    rw [Array.getD_eq_getD_getElem?, Array.getElem?_append_left (by simpa using ht)]
    simp [h2]
  have h1 : c.wpIn Fence.wide 0 P (lift (some none) K n (BodyQ P K n fn post)) _ w := h _ w hAg hw
  refine wpIn_mono h1 ?_
  rintro x a w ⟨ds, e', H', h1, h2, h3⟩
  cases x <;> first
    | (obtain ⟨k0, v, H'', k1, k2, k3⟩ := h3; exact ⟨h1.defers.trans k0, v, k1 a w h1 h2, v, H'', rfl, k2 w h2, k3⟩)
    | exact h3.elim
theorem WL.callY {r : Option Nat} {ds : List Deferred} {ops : Array Oper} {rest : List Oper} {ty : TypeId} {pos : String} {af : Array Edge} {d l : Nat} {y : Operand} {xs : List Operand} {vs : List Value} {ats : Array TypeId} {post : Bool → List Assn → Prop}
    (hy : OV true e y (.func (.yield l) #[] #[])) (hxs : OVs true e xs vs) (hY : YieldsTo P K r l vs.toArray H post) (hd : Nat.blt d n = true) (h : ∀ b H', post b H' → WL ⟨some r, ds⟩ P K n ops rest Q ((d, .bool b) :: e) H') :
    WL ⟨some r, ds⟩ P K n ops (⟨some d, .call ⟨.value y, xs.toArray, ats⟩, ty, pos, af, none⟩ :: rest) Q e H := fun a w ha hw => by
  obtain ⟨fn, tmps, assign, body, h1, h2⟩ := hY w hw
  refine lwp_plain rfl fun R hR => ?_
  have hrun : (execOp a.eval ⟨some d, .call ⟨.value y, xs.toArray, ats⟩, ty, pos, af, none⟩).run P w = .ok (.round l fn tmps assign body) w := by
    show ((do let d ← resolve a.eval ⟨.value y, xs.toArray, ats⟩ ty; invoke d.target d.args) : Sem Next).run P w = _
    have k1 : resolve a.eval ⟨.value y, xs.toArray, ats⟩ ty = pure { target := .fn (.yield l) #[], args := vs.toArray } := by
      simp only [resolve, hy.ev rfl ha, List.map_toArray, hxs.ev ha rfl]
      show (pure { target := .fn (.yield l) #[], args := #[] ++ vs.toArray } : Sem Deferred) = _
      rw [Array.empty_append]
    rw [k1]
    exact h1
  show Oper.wpIn (inF r) 0 P _ a w R _
  refine ⟨fun f _ => inF_fn _ f, ?_⟩
  rw [Oper.semAt_eq _ _ _ (fun c => by simp), hrun, Oper.uponIn_round]
  refine ⟨inF_depth r, h2.mono ?_⟩
  rintro _ w' ⟨b, H', rfl, k2, k3⟩
  exact hR _ _ (h b H' k3 _ w' (ha.put d hd (.bool b)) k2)
end
end Go.Sl
namespace Go.Proofs.YtohkefolnmcjnaaGreat
open Go.Sl Go.RowKit
set_option linter.unusedVariables false
set_option linter.unusedSimpArgs false
set_option maxRecDepth 20000
theorem ofInt_nat (n a : Nat) : BitVec.ofInt n (a : Int) = BitVec.ofNat n a := by
  apply BitVec.eq_of_toNat_eq
  rw [BitVec.toNat_ofInt, BitVec.toNat_ofNat]
  omega
theorem xor_lt {a b k : Nat} (ha : a < 2 ^ k) (hb : b < 2 ^ k) : a ^^^ b < 2 ^ k := Nat.xor_lt_two_pow ha hb
theorem bits_xor {a b : Nat} (ha : a < 4611686018427387904) (hb : b < 4611686018427387904) : bitsOf .xor .i64 (a : Int) (b : Int) = ((a ^^^ b : Nat) : Int) := by
  have h := xor_lt (k := 62) ha hb
  unfold bitsOf
  dsimp only
  rw [ofInt_nat, ofInt_nat, BitVec.toNat_xor, BitVec.toNat_ofNat, BitVec.toNat_ofNat]
  have e1 : a % 2 ^ IntKind.i64.bits = a := Nat.mod_eq_of_lt (by show a < 2 ^ 64; omega)
  have e2 : b % 2 ^ IntKind.i64.bits = b := Nat.mod_eq_of_lt (by show b < 2 ^ 64; omega)
  rw [e1, e2]
  exact wrap_i64 (by omega)
theorem and_one {a : Nat} (ha : a < 4611686018427387904) : bitsOf .and .i64 (a : Int) 1 = ((a % 2 : Nat) : Int) := by
  unfold bitsOf
  dsimp only
  rw [show (1 : Int) = ((1 : Nat) : Int) from rfl, ofInt_nat, ofInt_nat, BitVec.toNat_and, BitVec.toNat_ofNat, BitVec.toNat_ofNat]
  have e1 : a % 2 ^ IntKind.i64.bits = a := Nat.mod_eq_of_lt (by show a < 2 ^ 64; omega)
  have e2 : 1 % 2 ^ IntKind.i64.bits = 1 := rfl
  rw [e1, e2, Nat.and_one_is_mod]
  exact wrap_i64 (by omega)
theorem shl_one {a : Nat} (ha : a < 4611686018427387904) : IntKind.i64.wrap ((a : Int) * 2 ^ (min (1 : Int).toNat IntKind.i64.bits)) = ((2 * a : Nat) : Int) := by
  rw [show min (1 : Int).toNat IntKind.i64.bits = 1 from rfl, wrap_i64 (by omega)]
  omega
theorem shr_one {a : Nat} : (a : Int).fdiv (2 ^ (min (1 : Int).toNat IntKind.i64.bits)) = ((a / 2 : Nat) : Int) := by
  rw [show min (1 : Int).toNat IntKind.i64.bits = 1 from rfl, Int.fdiv_eq_ediv_of_nonneg _ (by decide)]
  omega
def red (a : Nat) : Nat := if 8192 ≤ a then a ^^^ 8219 else a
def gmulF : Nat → Nat → Nat → Nat → Nat
  | 0, out, _, _ => out
  | k + 1, out, a, b => if b = 0 then out else gmulF k (if b % 2 = 1 then out ^^^ a else out) (red (2 * a)) (b / 2)
def gmul (a b : Nat) : Nat := gmulF 13 0 a b
def gpowF : Nat → Nat → Nat → Nat → Nat
  | 0, out, _, _ => out
  | k + 1, out, a, n => if n = 0 then out else gpowF k (if n % 2 = 1 then gmul out a else out) (gmul a a) (n / 2)
def gpow (a n : Nat) : Nat := gpowF 13 1 a n
def gexp (i : Int) : Nat := gpow 2 (i % 8191).toNat
def ginv (a : Nat) : Nat := gpow a 8190
theorem red_lt {a : Nat} (h : a < 8192) : red (2 * a) < 8192 := by
  unfold red
  split
  · rename_i h1
    obtain ⟨c, hc⟩ : ∃ c, 2 * a = 8192 + c := ⟨2 * a - 8192, by omega⟩
    have hc2 : c < 8192 := by omega
    have e1 : 2 * a = 8192 ^^^ c := by
      rw [hc]
      have := Nat.two_pow_add_eq_or_of_lt (i := 13) (b := c) hc2 1
      have e : (8192 : Nat) ||| c = 8192 ^^^ c := by
        apply Nat.eq_of_testBit_eq
        intro i
        rw [Nat.testBit_or, Nat.testBit_xor, show (8192 : Nat) = 2 ^ 13 from rfl, Nat.testBit_two_pow]
        by_cases hi : 13 = i
        · subst hi
          rw [Nat.testBit_lt_two_pow hc2]; simp
        · simp [hi]
      rw [← e]
      simpa using this
    rw [e1, Nat.xor_comm 8192 c, Nat.xor_assoc, show (8192 : Nat) ^^^ 8219 = 27 from rfl]
    exact xor_lt (k := 13) hc2 (by decide)
  · omega
theorem gmulF_lt : ∀ (k out a b : Nat), out < 8192 → a < 8192 → gmulF k out a b < 8192
  | 0, _, _, _, h, _ => h
  | k + 1, out, a, b, h, h' => by
    rw [gmulF]
    split
    · exact h
    · refine gmulF_lt k _ _ _ ?_ (red_lt h')
      split
      · exact xor_lt (k := 13) h h'
      · exact h
theorem gmul_lt {a b : Nat} (ha : a < 8192) : gmul a b < 8192 := gmulF_lt _ _ _ _ (by decide) ha
theorem gpowF_lt : ∀ (k out a n : Nat), out < 8192 → a < 8192 → gpowF k out a n < 8192
  | 0, _, _, _, h, _ => h
  | k + 1, out, a, n, h, h' => by
    rw [gpowF]
    split
    · exact h
    · refine gpowF_lt k _ _ _ ?_ (gmul_lt h')
      split
      · exact gmul_lt h
      · exact h
theorem gpow_lt {a n : Nat} (ha : a < 8192) : gpow a n < 8192 := gpowF_lt _ _ _ _ (by decide) ha
theorem gexp_lt (i : Int) : gexp i < 8192 := gpow_lt (by decide)
section
variable {K : World} {F : List Assn}
theorem gf_mul {a b : Nat} (ha : a < 8192) (hb : b < 8192) : Tells Tryz.prog 209 #[.int .i64 (a : Int), .int .i64 (b : Int)] K F (.int .i64 (gmul a b : Nat)) := by
  refine Does.enter Tryz.func209 rfl Tryz.ntmps209 rfl ?_
  simp only [env0, Nat.reduceAdd]
  refine WC.sr ?_
  refine WL.sg rfl rfl ?_
  refine WL.nil ?_
  refine WC.sr ?_
  refine WL.sg rfl rfl ?_
  refine WL.nil ?_
  refine WC.seq ?_
  refine WC.block ?_
  refine WC.loop (σ := Nat × Nat × Nat × Nat) (fun x => [(5, .int .i64 (x.2.1 : Int)), (0, .int .i64 (x.2.2.1 : Int)), (1, .int .i64 (x.2.2.2 : Int))]) (fun _ => F) (fun x => x.2.1 < 8192 ∧ x.2.2.1 < 8192 ∧ x.2.2.2 < 2 ^ x.1 ∧ x.1 ≤ 13 ∧ gmulF x.1 x.2.1 x.2.2.1 x.2.2.2 = gmul a b) (fun x => x.1) (13, 0, a, b) ⟨by show 0 < 8192; decide, ha, hb, Nat.le_refl _, rfl⟩ (.cons rfl (.cons rfl (.cons rfl (.nil _)))) (fun w h => h) ?_
  rintro ⟨k, o, x, y⟩ ⟨h1, h2, h3, h3', h4⟩
  dsimp only at h1 h2 h3 h3' h4 ⊢
  have h13 : (2 : Nat) ^ k ≤ 2 ^ 13 := Nat.pow_le_pow_right (by decide) h3'
  have hy : y < 8192 := by omega
  refine WC.seq ?_
  refine WC.sr ?_
  refine WL.mv rfl rfl ?_
  refine WL.val (V.neq (OV.p rfl) (OV.p rfl)) rfl ?_
  refine WL.nil ?_
  refine WC.cond rfl (fun hc0 => ?_) (fun hc0 => ?_)
  ·simp only [Bool.not_eq_true', Bool.not_eq_false', decide_eq_true_eq, decide_eq_false_iff_not] at hc0
   have hy0 : y ≠ 0 := by omega
   obtain ⟨k', rfl⟩ : ∃ k', k = k' + 1 := ⟨k - 1, by rcases Nat.eq_zero_or_pos k with h | h; subst h; simp at h3; omega; omega⟩
   rw [gmulF, if_neg hy0] at h4
   have hy2 : y / 2 < 2 ^ k' := by rw [Nat.pow_succ] at h3; omega
   refine WC.skip ?_
   refine WC.seq ?_
   refine WC.block ?_
   refine WC.seq ?_
   refine WC.sr ?_
   refine WL.mv rfl rfl ?_
   refine WL.val (V.val_eq (v' := .int .i64 ((y % 2 : Nat) : Int)) (V.and (OV.p rfl) (OV.p rfl)) (fun _ => by rw [and_one (by omega)])) rfl ?_
   refine WL.val (V.eql (OV.p rfl) (OV.p rfl)) rfl ?_
   refine WL.nil ?_
   refine WC.cond rfl (fun hc1 => ?_) (fun hc1 => ?_)
   ·simp only [decide_eq_true_eq, decide_eq_false_iff_not] at hc1
    rw [if_pos (show y % 2 = 1 by omega)] at h4
    refine WC.region ?_
    refine WL.mv rfl rfl ?_
    refine WL.mv rfl rfl ?_
    refine WL.val (V.val_eq (v' := .int .i64 ((o ^^^ x : Nat) : Int)) (V.xor (OV.p rfl) (OV.p rfl)) (fun _ => by rw [bits_xor (by omega) (by omega)])) rfl ?_
    refine WL.sg rfl rfl ?_
    refine WL.nil ?_
    refine WC.sr ?_
    refine WL.mv rfl rfl ?_
    refine WL.val (V.val_eq (v' := .int .i64 ((2 * x : Nat) : Int)) (V.shl (OV.p rfl) (OV.p rfl) (by decide)) (fun _ => by rw [shl_one (by omega)])) rfl ?_
    refine WL.sg rfl rfl ?_
    refine WL.nil ?_
    refine WC.sr ?_
    refine WL.mv rfl rfl ?_
    refine WL.val (V.geq (OV.p rfl) (OV.p rfl)) rfl ?_
    refine WL.nil ?_
    refine WC.cond rfl (fun hc2 => ?_) (fun hc2 => ?_)
    ·simp only [decide_eq_true_eq, decide_eq_false_iff_not] at hc2
     have hr : red (2 * x) = 2 * x ^^^ 8219 := by unfold red; rw [if_pos (by omega)]
     refine WC.region ?_
     refine WL.mv rfl rfl ?_
     refine WL.val (V.val_eq (v' := .int .i64 ((2 * x ^^^ 8219 : Nat) : Int)) (V.xor (OV.p rfl) (OV.p rfl)) (fun _ => by rw [show (8219 : Int) = ((8219 : Nat) : Int) from rfl, bits_xor (by omega) (by omega)])) rfl ?_
     refine WL.sg rfl rfl ?_
     refine WL.nil ?_
     refine WC.region ?_
     refine WL.mv rfl rfl ?_
     refine WL.val (V.val_eq (v' := .int .i64 ((y / 2 : Nat) : Int)) (V.shr (OV.p rfl) (OV.p rfl) (by decide)) (fun _ => by rw [shr_one])) rfl ?_
     refine WL.sg rfl rfl ?_
     refine WL.nil ?_
     refine ⟨rfl, ?_⟩
     have hrl := red_lt h2
     have hxo : o ^^^ x < 8192 := xor_lt (k := 13) h1 h2
     rw [hr] at h4 hrl
     first
       | exact ⟨(k', o ^^^ x, _, y / 2), ⟨hxo, hrl, hy2, by show k' ≤ 13; omega, h4⟩, Nat.lt_succ_self _, .cons rfl (.cons rfl (.cons rfl (.nil _))), fun w h => h⟩
       | exact ⟨(k', o, _, y / 2), ⟨h1, hrl, hy2, by show k' ≤ 13; omega, h4⟩, Nat.lt_succ_self _, .cons rfl (.cons rfl (.cons rfl (.nil _))), fun w h => h⟩
    ·simp only [decide_eq_true_eq, decide_eq_false_iff_not] at hc2
     have hr : red (2 * x) = 2 * x := by unfold red; rw [if_neg (by omega)]
     refine WC.skip ?_
     refine WC.region ?_
     refine WL.mv rfl rfl ?_
     refine WL.val (V.val_eq (v' := .int .i64 ((y / 2 : Nat) : Int)) (V.shr (OV.p rfl) (OV.p rfl) (by decide)) (fun _ => by rw [shr_one])) rfl ?_
     refine WL.sg rfl rfl ?_
     refine WL.nil ?_
     refine ⟨rfl, ?_⟩
     have hrl := red_lt h2
     have hxo : o ^^^ x < 8192 := xor_lt (k := 13) h1 h2
     rw [hr] at h4 hrl
     first
       | exact ⟨(k', o ^^^ x, _, y / 2), ⟨hxo, hrl, hy2, by show k' ≤ 13; omega, h4⟩, Nat.lt_succ_self _, .cons rfl (.cons rfl (.cons rfl (.nil _))), fun w h => h⟩
       | exact ⟨(k', o, _, y / 2), ⟨h1, hrl, hy2, by show k' ≤ 13; omega, h4⟩, Nat.lt_succ_self _, .cons rfl (.cons rfl (.cons rfl (.nil _))), fun w h => h⟩
   ·simp only [decide_eq_true_eq, decide_eq_false_iff_not] at hc1
    rw [if_neg (show ¬ y % 2 = 1 by omega)] at h4
    refine WC.skip ?_
    refine WC.sr ?_
    refine WL.mv rfl rfl ?_
    refine WL.val (V.val_eq (v' := .int .i64 ((2 * x : Nat) : Int)) (V.shl (OV.p rfl) (OV.p rfl) (by decide)) (fun _ => by rw [shl_one (by omega)])) rfl ?_
    refine WL.sg rfl rfl ?_
    refine WL.nil ?_
    refine WC.sr ?_
    refine WL.mv rfl rfl ?_
    refine WL.val (V.geq (OV.p rfl) (OV.p rfl)) rfl ?_
    refine WL.nil ?_
    refine WC.cond rfl (fun hc2 => ?_) (fun hc2 => ?_)
    ·simp only [decide_eq_true_eq, decide_eq_false_iff_not] at hc2
     have hr : red (2 * x) = 2 * x ^^^ 8219 := by unfold red; rw [if_pos (by omega)]
     refine WC.region ?_
     refine WL.mv rfl rfl ?_
     refine WL.val (V.val_eq (v' := .int .i64 ((2 * x ^^^ 8219 : Nat) : Int)) (V.xor (OV.p rfl) (OV.p rfl)) (fun _ => by rw [show (8219 : Int) = ((8219 : Nat) : Int) from rfl, bits_xor (by omega) (by omega)])) rfl ?_
     refine WL.sg rfl rfl ?_
     refine WL.nil ?_
     refine WC.region ?_
     refine WL.mv rfl rfl ?_
     refine WL.val (V.val_eq (v' := .int .i64 ((y / 2 : Nat) : Int)) (V.shr (OV.p rfl) (OV.p rfl) (by decide)) (fun _ => by rw [shr_one])) rfl ?_
     refine WL.sg rfl rfl ?_
     refine WL.nil ?_
     refine ⟨rfl, ?_⟩
     have hrl := red_lt h2
     have hxo : o ^^^ x < 8192 := xor_lt (k := 13) h1 h2
     rw [hr] at h4 hrl
     first
       | exact ⟨(k', o ^^^ x, _, y / 2), ⟨hxo, hrl, hy2, by show k' ≤ 13; omega, h4⟩, Nat.lt_succ_self _, .cons rfl (.cons rfl (.cons rfl (.nil _))), fun w h => h⟩
       | exact ⟨(k', o, _, y / 2), ⟨h1, hrl, hy2, by show k' ≤ 13; omega, h4⟩, Nat.lt_succ_self _, .cons rfl (.cons rfl (.cons rfl (.nil _))), fun w h => h⟩
    ·simp only [decide_eq_true_eq, decide_eq_false_iff_not] at hc2
     have hr : red (2 * x) = 2 * x := by unfold red; rw [if_neg (by omega)]
     refine WC.skip ?_
     refine WC.region ?_
     refine WL.mv rfl rfl ?_
     refine WL.val (V.val_eq (v' := .int .i64 ((y / 2 : Nat) : Int)) (V.shr (OV.p rfl) (OV.p rfl) (by decide)) (fun _ => by rw [shr_one])) rfl ?_
     refine WL.sg rfl rfl ?_
     refine WL.nil ?_
     refine ⟨rfl, ?_⟩
     have hrl := red_lt h2
     have hxo : o ^^^ x < 8192 := xor_lt (k := 13) h1 h2
     rw [hr] at h4 hrl
     first
       | exact ⟨(k', o ^^^ x, _, y / 2), ⟨hxo, hrl, hy2, by show k' ≤ 13; omega, h4⟩, Nat.lt_succ_self _, .cons rfl (.cons rfl (.cons rfl (.nil _))), fun w h => h⟩
       | exact ⟨(k', o, _, y / 2), ⟨h1, hrl, hy2, by show k' ≤ 13; omega, h4⟩, Nat.lt_succ_self _, .cons rfl (.cons rfl (.cons rfl (.nil _))), fun w h => h⟩
  ·simp only [Bool.not_eq_true', Bool.not_eq_false', decide_eq_true_eq, decide_eq_false_iff_not] at hc0
   have hy0 : y = 0 := by omega
   refine WC.exit ?_
   refine WC.sr ?_
   refine WL.mv rfl rfl ?_
   refine WL.sg rfl rfl ?_
   refine WL.nil ?_
   refine WC.ret ?_
   refine BodyQ.ret (H' := F) (Res.tmp rfl rfl) (fun w h => h) ⟨?_, rfl⟩
   have : o = gmul a b := by
     rw [← h4, hy0]
     cases k <;> simp [gmulF]
   rw [this]
theorem gf_is (a : Int) : Tells Tryz.prog 208 #[.int .i64 a] K F (.bool (decide (0 ≤ a) && decide (a < 8192))) := by
  refine Does.enter Tryz.func208 rfl Tryz.ntmps208 rfl ?_
  simp only [env0, Nat.reduceAdd]
  refine WC.sr ?_
  refine WL.sg rfl rfl ?_
  refine WL.nil ?_
  refine WC.sr ?_
  refine WL.mv rfl rfl ?_
  refine WL.val (V.geq (OV.p rfl) (OV.p rfl)) rfl ?_
  refine WL.mv rfl rfl ?_
  refine WL.valG (oj := _) rfl rfl rfl GC.t (V.move (OV.p rfl)) rfl ?_
  refine WL.valG (oj := _) rfl rfl rfl GC.t (V.lss (OV.g rfl id) (OV.p rfl)) rfl ?_
  refine WL.val (V.pickAnd (OV.p rfl) (OV.g rfl id)) rfl ?_
  refine WL.sg rfl rfl ?_
  refine WL.nil ?_
  refine WC.ret ?_
  exact BodyQ.ret (H' := F) (Res.tmp rfl rfl) (fun w h => h) ⟨rfl, rfl⟩
theorem gf_is_lt {a : Nat} (h : a < 8192) : Tells Tryz.prog 208 #[.int .i64 (a : Int)] K F (.bool true) := (gf_is (a : Int)).eq (by rw [decide_eq_true (show (0 : Int) ≤ (a : Int) by omega), decide_eq_true (show (a : Int) < 8192 by omega)]; rfl)
theorem gf_Mul {a b : Nat} (ha : a < 8192) (hb : b < 8192) : Tells Tryz.prog 196 #[.int .i64 (a : Int), .int .i64 (b : Int)] K F (.tuple #[.int .i64 (gmul a b : Nat), .int .i64 0]) := by
  refine Does.enter Tryz.func196 rfl Tryz.ntmps196 rfl ?_
  simp only [env0, Nat.reduceAdd]
  refine WC.sr ?_
  refine WL.sg rfl rfl ?_
  refine WL.sg rfl rfl ?_
  refine WL.nil ?_
  refine WC.seq ?_
  refine WC.sr ?_
  refine WL.mv rfl rfl ?_
  refine WL.call (vs := [_]) Tryz.call208 ⟨OV.p rfl, trivial⟩ (gf_is_lt ha) rfl ?_
  rintro _ H0 ⟨rfl, h0⟩
  subst H0
  refine WL.val (V.not (OV.p rfl)) rfl ?_
  refine WL.mv rfl rfl ?_
  refine WL.valG (oj := _) rfl rfl rfl GC.f (V.move (OV.p rfl)) rfl ?_
  refine WL.callG (oj := _) (vs := [_]) rfl rfl rfl GC.f Tryz.call208 ⟨OV.g rfl id, trivial⟩ (fun hg => gf_is_lt hb) rfl ?_
  refine WL.valG (oj := _) rfl rfl rfl GC.f (V.not (OV.g rfl id)) rfl ?_
  refine WL.val (V.pickOr (OV.p rfl) (OV.g rfl id)) rfl ?_
  refine WL.nil ?_
  refine WC.condF' rfl (by first | rfl | (simp; done) | (simp; omega)) ?_
  refine WC.skip ?_
  refine WC.sr ?_
  refine WL.mv rfl rfl ?_
  refine WL.mv rfl rfl ?_
  refine WL.call (vs := [_, _]) Tryz.call209 ⟨OV.p rfl, OV.p rfl, trivial⟩ (gf_mul ha hb) rfl ?_
  rintro _ H0 ⟨rfl, h0⟩
  subst H0
  refine WL.sg rfl rfl ?_
  refine WL.sg rfl rfl ?_
  refine WL.nil ?_
  refine WC.ret ?_
  exact BodyQ.ret (H' := F) (Res.tmp2 rfl rfl rfl) (fun w h => h) ⟨rfl, rfl⟩
theorem bch_mul {a b : Nat} (ha : a < 8192) (hb : b < 8192) : Tells Tryz.prog 169 #[.int .i64 (a : Int), .int .i64 (b : Int)] K F (.int .i64 (gmul a b : Nat)) := by
  refine Does.enter Tryz.func169 rfl Tryz.ntmps169 rfl ?_
  simp only [env0, Nat.reduceAdd]
  refine WC.sr ?_
  refine WL.sg rfl rfl ?_
  refine WL.nil ?_
  refine WC.sr ?_
  refine WL.mv rfl rfl ?_
  refine WL.mv rfl rfl ?_
  refine WL.call (vs := [_, _]) Tryz.call196 ⟨OV.p rfl, OV.p rfl, trivial⟩ (gf_Mul ha hb) rfl ?_
  rintro _ H0 ⟨rfl, h0⟩
  subst H0
  refine WL.mv rfl rfl ?_
  refine WL.xt rfl rfl rfl ?_
  refine WL.xt rfl rfl rfl ?_
  refine WL.sg rfl rfl ?_
  refine WL.sg rfl rfl ?_
  refine WL.nil ?_
  refine WC.sr ?_
  refine WL.mv rfl rfl ?_
  refine WL.sg rfl rfl ?_
  refine WL.nil ?_
  refine WC.ret ?_
  exact BodyQ.ret (H' := F) (Res.tmp rfl rfl) (fun w h => h) ⟨rfl, rfl⟩
theorem poly_mul {a b : Nat} (ha : a < 8192) (hb : b < 8192) : Tells Tryz.prog 220 #[.int .i64 (a : Int), .int .i64 (b : Int)] K F (.int .i64 (gmul a b : Nat)) := by
  refine Does.enter Tryz.func220 rfl Tryz.ntmps220 rfl ?_
  simp only [env0, Nat.reduceAdd]
  refine WC.sr ?_
  refine WL.sg rfl rfl ?_
  refine WL.nil ?_
  refine WC.sr ?_
  refine WL.mv rfl rfl ?_
  refine WL.mv rfl rfl ?_
  refine WL.call (vs := [_, _]) Tryz.call196 ⟨OV.p rfl, OV.p rfl, trivial⟩ (gf_Mul ha hb) rfl ?_
  rintro _ H0 ⟨rfl, h0⟩
  subst H0
  refine WL.mv rfl rfl ?_
  refine WL.xt rfl rfl rfl ?_
  refine WL.xt rfl rfl rfl ?_
  refine WL.sg rfl rfl ?_
  refine WL.sg rfl rfl ?_
  refine WL.nil ?_
  refine WC.sr ?_
  refine WL.mv rfl rfl ?_
  refine WL.sg rfl rfl ?_
  refine WL.nil ?_
  refine WC.ret ?_
  exact BodyQ.ret (H' := F) (Res.tmp rfl rfl) (fun w h => h) ⟨rfl, rfl⟩
theorem gf_pow {a m : Nat} (ha : a < 8192) (hm : m < 8192) : Tells Tryz.prog 194 #[.int .i64 (a : Int), .int .i64 (m : Int)] K F (.int .i64 (gpow a m : Nat)) := by
  refine Does.enter Tryz.func194 rfl Tryz.ntmps194 rfl ?_
  simp only [env0, Nat.reduceAdd]
  refine WC.sr ?_
  refine WL.sg rfl rfl ?_
  refine WL.nil ?_
  refine WC.sr ?_
  refine WL.sg rfl rfl ?_
  refine WL.nil ?_
  refine WC.seq ?_
  refine WC.block ?_
  refine WC.loop (σ := Nat × Nat × Nat × Nat) (fun x => [(5, .int .i64 (x.2.1 : Int)), (0, .int .i64 (x.2.2.1 : Int)), (1, .int .i64 (x.2.2.2 : Int))]) (fun _ => F) (fun x => x.2.1 < 8192 ∧ x.2.2.1 < 8192 ∧ x.2.2.2 < 2 ^ x.1 ∧ x.1 ≤ 13 ∧ gpowF x.1 x.2.1 x.2.2.1 x.2.2.2 = gpow a m) (fun x => x.1) (13, 1, a, m) ⟨by show 1 < 8192; decide, ha, hm, Nat.le_refl _, rfl⟩ (.cons rfl (.cons rfl (.cons rfl (.nil _)))) (fun w h => h) ?_
  rintro ⟨k, o, x, y⟩ ⟨h1, h2, h3, h3', h4⟩
  dsimp only at h1 h2 h3 h3' h4 ⊢
  have h13 : (2 : Nat) ^ k ≤ 2 ^ 13 := Nat.pow_le_pow_right (by decide) h3'
  have hy : y < 8192 := by omega
  refine WC.seq ?_
  refine WC.sr ?_
  refine WL.mv rfl rfl ?_
  refine WL.val (V.gtr (OV.p rfl) (OV.p rfl)) rfl ?_
  refine WL.nil ?_
  refine WC.cond rfl (fun hc0 => ?_) (fun hc0 => ?_)
  ·simp only [decide_eq_true_eq, decide_eq_false_iff_not] at hc0
   have hy0 : y ≠ 0 := by omega
   obtain ⟨k', rfl⟩ : ∃ k', k = k' + 1 := ⟨k - 1, by rcases Nat.eq_zero_or_pos k with h | h; subst h; simp at h3; omega; omega⟩
   rw [gpowF, if_neg hy0] at h4
   have hy2 : y / 2 < 2 ^ k' := by rw [Nat.pow_succ] at h3; omega
   refine WC.skip ?_
   refine WC.seq ?_
   refine WC.block ?_
   refine WC.seq ?_
   refine WC.sr ?_
   refine WL.mv rfl rfl ?_
   refine WL.val (V.val_eq (v' := .int .i64 ((y % 2 : Nat) : Int)) (V.and (OV.p rfl) (OV.p rfl)) (fun _ => by rw [and_one (by omega)])) rfl ?_
   refine WL.val (V.eql (OV.p rfl) (OV.p rfl)) rfl ?_
   refine WL.nil ?_
   refine WC.cond rfl (fun hc1 => ?_) (fun hc1 => ?_)
   ·simp only [decide_eq_true_eq, decide_eq_false_iff_not] at hc1
    rw [if_pos (show y % 2 = 1 by omega)] at h4
    refine WC.region ?_
    refine WL.mv rfl rfl ?_
    refine WL.mv rfl rfl ?_
    refine WL.call (vs := [_, _]) Tryz.call209 ⟨OV.p rfl, OV.p rfl, trivial⟩ (gf_mul h1 h2) rfl ?_
    rintro _ H0 ⟨rfl, h0⟩
    subst H0
    refine WL.sg rfl rfl ?_
    refine WL.nil ?_
    refine WC.region ?_
    refine WL.mv rfl rfl ?_
    refine WL.mv rfl rfl ?_
    refine WL.call (vs := [_, _]) Tryz.call209 ⟨OV.p rfl, OV.p rfl, trivial⟩ (gf_mul h2 h2) rfl ?_
    rintro _ H0 ⟨rfl, h0⟩
    subst H0
    refine WL.sg rfl rfl ?_
    refine WL.nil ?_
    refine WC.region ?_
    refine WL.mv rfl rfl ?_
    refine WL.val (V.val_eq (v' := .int .i64 ((y / 2 : Nat) : Int)) (V.shr (OV.p rfl) (OV.p rfl) (by decide)) (fun _ => by rw [shr_one])) rfl ?_
    refine WL.sg rfl rfl ?_
    refine WL.nil ?_
    refine ⟨rfl, ?_⟩
    first
      | exact ⟨(k', gmul o x, gmul x x, y / 2), ⟨gmul_lt h1, gmul_lt h2, hy2, by show k' ≤ 13; omega, h4⟩, Nat.lt_succ_self _, .cons rfl (.cons rfl (.cons rfl (.nil _))), fun w h => h⟩
      | exact ⟨(k', o, gmul x x, y / 2), ⟨h1, gmul_lt h2, hy2, by show k' ≤ 13; omega, h4⟩, Nat.lt_succ_self _, .cons rfl (.cons rfl (.cons rfl (.nil _))), fun w h => h⟩
   ·simp only [decide_eq_true_eq, decide_eq_false_iff_not] at hc1
    rw [if_neg (show ¬ y % 2 = 1 by omega)] at h4
    refine WC.skip ?_
    refine WC.region ?_
    refine WL.mv rfl rfl ?_
    refine WL.mv rfl rfl ?_
    refine WL.call (vs := [_, _]) Tryz.call209 ⟨OV.p rfl, OV.p rfl, trivial⟩ (gf_mul h2 h2) rfl ?_
    rintro _ H0 ⟨rfl, h0⟩
    subst H0
    refine WL.sg rfl rfl ?_
    refine WL.nil ?_
    refine WC.region ?_
    refine WL.mv rfl rfl ?_
    refine WL.val (V.val_eq (v' := .int .i64 ((y / 2 : Nat) : Int)) (V.shr (OV.p rfl) (OV.p rfl) (by decide)) (fun _ => by rw [shr_one])) rfl ?_
    refine WL.sg rfl rfl ?_
    refine WL.nil ?_
    refine ⟨rfl, ?_⟩
    first
      | exact ⟨(k', gmul o x, gmul x x, y / 2), ⟨gmul_lt h1, gmul_lt h2, hy2, by show k' ≤ 13; omega, h4⟩, Nat.lt_succ_self _, .cons rfl (.cons rfl (.cons rfl (.nil _))), fun w h => h⟩
      | exact ⟨(k', o, gmul x x, y / 2), ⟨h1, gmul_lt h2, hy2, by show k' ≤ 13; omega, h4⟩, Nat.lt_succ_self _, .cons rfl (.cons rfl (.cons rfl (.nil _))), fun w h => h⟩
  ·simp only [decide_eq_true_eq, decide_eq_false_iff_not] at hc0
   have hy0 : y = 0 := by omega
   refine WC.exit ?_
   refine WC.sr ?_
   refine WL.mv rfl rfl ?_
   refine WL.sg rfl rfl ?_
   refine WL.nil ?_
   refine WC.ret ?_
   refine BodyQ.ret (H' := F) (Res.tmp rfl rfl) (fun w h => h) ⟨?_, rfl⟩
   have : o = gpow a m := by
     rw [← h4, hy0]
     cases k <;> simp [gpowF]
   rw [this]
theorem gf_around (i : Int) (hi : -9223372036854775808 ≤ i ∧ i ≤ 9223372036854775807) : Tells Tryz.prog 195 #[.int .i64 i] K F (.int .i64 (i % 8191)) := by
  have hb : -8191 < i.tmod 8191 ∧ i.tmod 8191 < 8191 := by
    rcases Int.le_total 0 i with h | h
    · rw [Int.tmod_eq_emod_of_nonneg h]; omega
    · have h1 : i.tmod 8191 = -((-i).tmod 8191) := by rw [Int.neg_tmod, Int.neg_neg]
      rw [Int.tmod_eq_emod_of_nonneg (a := -i) (by omega)] at h1
      omega
  have he := Int.tmod_def i 8191
  refine Does.enter Tryz.func195 rfl Tryz.ntmps195 rfl ?_
  simp only [env0, Nat.reduceAdd]
  refine WC.sr ?_
  refine WL.sg rfl rfl ?_
  refine WL.nil ?_
  refine WC.seq ?_
  refine WC.sr ?_
  refine WL.mv rfl rfl ?_
  refine WL.val (V.rem (OV.p rfl) (OV.p rfl) (by decide)) rfl ?_
  refine WL.sg rfl rfl ?_
  refine WL.nil ?_
  refine WC.sr ?_
  refine WL.mv rfl rfl ?_
  refine WL.val (V.lss (OV.p rfl) (OV.p rfl)) rfl ?_
  refine WL.nil ?_
  refine WC.cond rfl (fun hc0 => ?_) (fun hc0 => ?_)
  ·simp only [decide_eq_true_eq, decide_eq_false_iff_not] at hc0
   have h0 := hc0
   refine WC.region ?_
   refine WL.mv rfl rfl ?_
   refine WL.ad rfl rfl rfl ?_
   refine WL.sg rfl rfl ?_
   refine WL.nil ?_
   refine WC.sr ?_
   refine WL.mv rfl rfl ?_
   refine WL.sg rfl rfl ?_
   refine WL.nil ?_
   refine WC.ret ?_
   first
   | (refine BodyQ.ret (H' := F) (Res.tmp rfl rfl) (fun w h => h) ⟨?_, rfl⟩
      have : i.tmod 8191 + 8191 = i % 8191 := by rw [he] at h0 ⊢; omega
      rw [this])
   | (refine BodyQ.ret (H' := F) (Res.tmp rfl rfl) (fun w h => h) ⟨?_, rfl⟩
      have : i.tmod 8191 = i % 8191 := by rw [he] at h0 ⊢; omega
      rw [this])
  ·simp only [decide_eq_true_eq, decide_eq_false_iff_not] at hc0
   have h0 := hc0
   refine WC.skip ?_
   refine WC.sr ?_
   refine WL.mv rfl rfl ?_
   refine WL.sg rfl rfl ?_
   refine WL.nil ?_
   refine WC.ret ?_
   first
   | (refine BodyQ.ret (H' := F) (Res.tmp rfl rfl) (fun w h => h) ⟨?_, rfl⟩
      have : i.tmod 8191 + 8191 = i % 8191 := by rw [he] at h0 ⊢; omega
      rw [this])
   | (refine BodyQ.ret (H' := F) (Res.tmp rfl rfl) (fun w h => h) ⟨?_, rfl⟩
      have : i.tmod 8191 = i % 8191 := by rw [he] at h0 ⊢; omega
      rw [this])
theorem gf_Exp (i : Int) (hi : -9223372036854775808 ≤ i ∧ i ≤ 9223372036854775807) : Tells Tryz.prog 168 #[.int .i64 i] K F (.int .i64 (gexp i : Nat)) := by
  have e1 : i % 8191 = (((i % 8191).toNat : Nat) : Int) := by omega
  refine Does.enter Tryz.func168 rfl Tryz.ntmps168 rfl ?_
  simp only [env0, Nat.reduceAdd]
  refine WC.sr ?_
  refine WL.sg rfl rfl ?_
  refine WL.nil ?_
  refine WC.sr ?_
  refine WL.mv rfl rfl ?_
  refine WL.call (vs := [_]) Tryz.call195 ⟨OV.p rfl, trivial⟩ (Tells.eq (gf_around i hi) (by rw [e1])) rfl ?_
  rintro _ H0 ⟨rfl, h0⟩
  subst H0
  refine WL.call (vs := [_, _]) Tryz.call194 ⟨OV.p rfl, OV.p rfl, trivial⟩ (gf_pow (a := 2) (m := (i % 8191).toNat) (by decide) (by omega)) rfl ?_
  rintro _ H0 ⟨rfl, h0⟩
  subst H0
  refine WL.sg rfl rfl ?_
  refine WL.nil ?_
  refine WC.ret ?_
  exact BodyQ.ret (H' := F) (Res.tmp rfl rfl) (fun w h => h) ⟨rfl, rfl⟩
theorem gf_Inv {a : Nat} (ha : a < 8192) (h0 : a ≠ 0) : Tells Tryz.prog 192 #[.int .i64 (a : Int)] K F (.tuple #[.int .i64 (ginv a : Nat), .int .i64 0]) := by
  refine Does.enter Tryz.func192 rfl Tryz.ntmps192 rfl ?_
  simp only [env0, Nat.reduceAdd]
  refine WC.sr ?_
  refine WL.sg rfl rfl ?_
  refine WL.sg rfl rfl ?_
  refine WL.nil ?_
  refine WC.seq ?_
  refine WC.block ?_
  refine WC.sr ?_
  refine WL.mv rfl rfl ?_
  refine WL.call (vs := [_]) Tryz.call208 ⟨OV.p rfl, trivial⟩ (gf_is_lt ha) rfl ?_
  rintro _ H0 ⟨rfl, h0⟩
  subst H0
  refine WL.val (V.not (OV.p rfl)) rfl ?_
  refine WL.sg rfl rfl ?_
  refine WL.nil ?_
  refine WC.condF' rfl (by first | rfl | (simp; done) | (simp; omega)) ?_
  refine WC.sr ?_
  refine WL.mv rfl rfl ?_
  refine WL.val (V.eql (OV.p rfl) (OV.p rfl)) rfl ?_
  refine WL.sg rfl rfl ?_
  refine WL.nil ?_
  refine WC.condF' rfl ((by simp only [decide_eq_false_iff_not]; omega)) ?_
  refine WC.skip ?_
  refine WC.sr ?_
  refine WL.mv rfl rfl ?_
  refine WL.call (vs := [_, _]) Tryz.call194 ⟨OV.p rfl, OV.p rfl, trivial⟩ (gf_pow (a := a) (m := 8190) ha (by decide)) rfl ?_
  rintro _ H0 ⟨rfl, h0⟩
  subst H0
  refine WL.sg rfl rfl ?_
  refine WL.sg rfl rfl ?_
  refine WL.nil ?_
  refine WC.ret ?_
  exact BodyQ.ret (H' := F) (Res.tmp2 rfl rfl rfl) (fun w h => h) ⟨rfl, rfl⟩
end
end Go.Proofs.YtohkefolnmcjnaaGreat
