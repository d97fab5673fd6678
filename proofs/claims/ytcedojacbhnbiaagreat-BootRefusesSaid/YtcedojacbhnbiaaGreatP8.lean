import Derived.Test.YtcedojacbhnbiaaGreatP4
import Derived.Lib.SliceRun
import Derived.RangeFuncNested
import Derived.Test.YtcedojacbhnbiaaGreatP5
import Derived.KernelRfl
namespace Go.Sl
open Go.RowKit Go.BigFrame
set_option linter.unusedVariables false
set_option linter.unusedSimpArgs false
section
variable {Mo : Mode} {P : Program} {K : World} {n : Nat} {Q : Post} {e : Env} {H : List au} {c : Bool} {dst : Option Tmp} {ty : TypeId} {pos : String} {af : Array Edge} {gd : Option (Nat × Bool)} {ops : Array Oper} {rest : List Oper}
theorem Does.ex {α : Type} {f : FuncId} {args : Array Value} {post : Value → List au → Prop} {p : α → Prop} {M : α → List au} (hx : ∀ w, Sat K w H → ∃ a, p a ∧ Sat K w (M a)) (h : ∀ a, p a → Does P f args K (M a) post) : Does P f args K H post := fun w hw => by
  obtain ⟨a, h1, h2⟩ := hx w hw
  exact h a h1 w h2
theorem WL.ex {α : Type} {p : α → Prop} {M : α → List au} (hx : ∀ w, Sat K w H → ∃ a, p a ∧ Sat K w (M a)) (h : ∀ a, p a → WL Mo P K n ops rest Q e (M a)) : WL Mo P K n ops rest Q e H := fun a w ha hw => by
  obtain ⟨x, h1, h2⟩ := hx w hw
  exact h x h1 a w ha h2
theorem WC.ex {code : Code} {α : Type} {p : α → Prop} {M : α → List au} (hx : ∀ w, Sat K w H → ∃ a, p a ∧ Sat K w (M a)) (h : ∀ a, p a → WC Mo P K n code Q e (M a)) : WC Mo P K n code Q e H := fun a w ha hw => by
  obtain ⟨x, h1, h2⟩ := hx w hw
  exact h x h1 a w ha h2
theorem WL.have_ {p : Prop} (hp : ∀ w, Sat K w H → p) (h : p → WL Mo P K n ops rest Q e H) : WL Mo P K n ops rest Q e H := fun a w ha hw => h (hp w hw) a w ha hw
theorem WC.have_ {code : Code} {p : Prop} (hp : ∀ w, Sat K w H → p) (h : p → WC Mo P K n code Q e H) : WC Mo P K n code Q e H := fun a w ha hw => h (hp w hw) a w ha hw
theorem bC.addr {a : Addr} {m cap E s : Nat} {cs : List Value} {w : World} (h : Sat K w (bC (.slice (some a) m cap) E s m cs :: H)) : ∃ g, a = ⟨g, 0, none⟩ := by
  rcases h.head.2 with ⟨h1, _⟩ | ⟨g, cap', cur, h1, _⟩
  · cases h1
  · simp only [Value.slice.injEq, Option.some.injEq] at h1
    exact ⟨g, h1.1⟩
theorem bC.vQ {m cap E s : Nat} {cs : List Value} {w : World} (h : Sat K w (bC (.slice none m cap) E s m cs :: H)) : m = 0 ∧ cap = 0 ∧ cs = [] := by
  rcases h.head.2 with ⟨h1, h2⟩ | ⟨g, cap', cur, h1, _⟩
  · simp only [Value.slice.injEq] at h1
    exact ⟨h1.2.1, h1.2.2, List.eq_nil_of_length_eq_zero (by rw [h.head.1, h2, Nat.zero_mul])⟩
  · simp at h1
theorem bC.len {v : Value} {m E s : Nat} {cs : List Value} {w : World} (h : Sat K w (bC v E s m cs :: H)) : cs.length = m * s := h.head.1
theorem Sat.lg {w : World} {g E s m cap : Nat} {cs : List Value} (hw : Sat K w (bC (.slice (some ⟨g, 0, none⟩) m cap) E s m cs :: H)) :
    ∃ rest : List Value, ((cs ++ rest).length = cap * s ∧ cs.length = m * s ∧ m ≤ cap ∧ cap ≤ maxLen) ∧ Sat K w (Cells g E (cs ++ rest) :: H) := by
  obtain ⟨h1, h2⟩ := hw.head
  rcases h2 with ⟨h2, _⟩ | ⟨g', cap', cur, h2, _, h3, h4, h5, h6, h7⟩
  · cases h2
  · simp only [Value.slice.injEq, Option.some.injEq, Addr.mk.injEq] at h2
    obtain ⟨⟨rfl, _⟩, _, rfl⟩ := h2
    have Oz : cs ++ cur.toList.drop (m * s) = cur.toList := by rw [← h7, List.take_append_drop]
    refine ⟨cur.toList.drop (m * s), ⟨by rw [Oz, Array.length_toList, h6], h1, h4, h5⟩, hw.1, ?_, fun x hx => ?_, fun x hx B hB hb' => ?_, hw.2.tail⟩
    · rw [Oz]
      simp only [Cells, Array.toArray_toList]
      exact h3
    · simp only [Cells] at hx
      subst hx
      exact hw.2.2.1 _ (by simp [bC, Value.ownBlock])
    · simp only [Cells] at hx
      subst hx
      exact hw.2.2.2.1 _ (by simp [bC, Value.ownBlock]) B hB hb'
theorem WL.NR {x : Operand} {T E b o q cap : Nat} {z : Value} {A : Option Addr} {H' : List au} (hT : P.underlying T = some (.slice E)) (hz : ∀ w, (zeroValue E).run P w = .ok z w) (hzc : z.cells = #[z]) (h1 : z.oneCell' = true)
    (hx : OV true e x (.slice A q cap)) (hA : q ≠ 0 → A = some ⟨b, o, none⟩) (hu : aQ K H b o (List.replicate q z) H') (h : WL Mo P K n ops rest Q e H') :
    WL Mo P K n ops (⟨none, .call ⟨.builtin .clear, #[x], #[T]⟩, ty, pos, af, none⟩ :: rest) Q e H := by
  refine WL.Lu (R := fun xE => xE = H') (fun a w ha hw => ?_) (fun xE e1 => by subst e1; exact h)
  obtain ⟨k1, k2⟩ := hu.run (P := P) hw (fun v hv => by rw [List.eq_of_mem_replicate hv]; exact h1)
  refine ⟨_, H', .inr ⟨.tuple #[], ?_⟩, k2, rfl⟩
  rw [execOp_builtin, builtin_clear]
  have Ey := hx.ev rfl ha
  rcases Nat.eq_zero_or_pos q with h0 | h0
  · subst h0
    cases A <;> simp [Ey, Builtin.clear_, run_underlying hT, World.setCells]
  · rw [hA (by omega)] at Ey
    have hm := hu.may w hw.2
    have := Lib.run_clear_slice (P := P) w T E ty z hT hz hzc h1 b o q cap h0 (fun j hj => (hm j (by simpa using hj)).1) (fun j hj => (hm j (by simpa using hj)).2)
    simp only [List.map_toArray, List.map_cons, List.map_nil, Ey]
    rw [Sem.run_bind, this]
    rfl
theorem V.NW {x y : Operand} {T : TypeId} {s : ByteArray} {k : IntKind} {j : Int} {b : UInt8} (hT : P.underlying T = some .string) (hx : OV c e x (.string s)) (hy : OV c e y (.int k j)) (hb : c = true → 0 ≤ j ∧ s[j.toNat]? = some b) :
    Val Mo P K n c e H ⟨dst, .index T x y, ty, pos, af, gd⟩ (.int .u8 b.toNat) := fun hc a w ha hw => by
  show ((do pure (Next.value (← Instr.index T (a.eval x) (a.eval y)))) : Sem Next).run P w = _
  rw [hx.ev hc ha, hy.ev hc ha]
  obtain ⟨h1, h2⟩ := hb hc
  simp [Instr.index, asIntOf, run_underlying hT, h1, h2]
theorem aQ.row {b T o : Nat} {cs vs : List Value} (ho : o + vs.length ≤ cs.length) : aQ K (Cells b T cs :: H) b o vs (Cells b T (cs.take o ++ vs ++ cs.drop (o + vs.length)) :: H) := aQ.here (by simpa using ho) (kW _ _ _ ho)
end
structure pQ where
  fn : FuncId
  tmps : Array Value
  ps : Array Tmp
  assign : Code
  body : Code
  D : Nat
def pQ.tQ (r : pQ) (st : LoopState) (pe : Option Code) : Loop := { state := st, pending := pe, fn := r.fn, tmps := r.tmps, params := r.ps, assign := r.assign, body := r.body, defers := r.D }
def pQ.A (r : pQ) (l : Nat) (st : LoopState) (pe : Option Code) : au where
  foot x := x = l
  holds w := w.heap[l]? = some (.loop (r.tQ st pe))
  loc w w' h hw := by rw [h l rfl]; exact hw
def dU (D : Nat) : au where
  foot x := x = D
  holds w := w.heap[D]? = some (.deferred (some []))
  loc w w' h hw := by rw [h D rfl]; exact hw
abbrev pR (D : Nat) : Deferred := { target := .collected D, args := #[] }
section
variable {K : World} {H : List au} {P : Program}
theorem Sat.putObj {w : World} {l : Nat} {A A' : au} {o : Obj} (hw : Sat K w (A :: H)) (hA : ∀ b, A.foot b ↔ b = l) (hf : ∀ b, A'.foot b → b = l) (hh : ∀ w' : World, w'.heap[l]? = some o → A'.holds w') : Sat K (w.putObj l o) (A' :: H) := by
  have hlt : l < w.heap.size := hw.2.2.1 l ((hA l).2 rfl)
  refine ⟨hw.1.grow rfl rfl rfl (by simp [World.putObj]), hw.2.set (by simp [World.putObj]) (fun b hb _ => ?_) (hh _ (World.putObj_heap_same hlt)) (fun b hb => .inl ((hA b).2 (hf b hb)))⟩
  exact World.putObj_heap_other (fun e => hb ((hA b).2 e))
theorem Sat.BG {w : World} {r : pQ} {l : Nat} {st st' : LoopState} {pe PS : Option Code} (hw : Sat K w (r.A l st pe :: H)) : Sat K (w.putObj l (.loop (r.tQ st' PS))) (r.A l st' PS :: H) :=
  hw.putObj (fun b => Iff.rfl) (fun b h => h) (fun w' h => h)
theorem Sat.Em {w : World} {A : au} {o : Obj} (hw : Sat K w H) (hf : ∀ b, A.foot b → b = w.heap.size) (hh : ∀ w' : World, w'.heap[w.heap.size]? = some o → A.holds w') : Sat K (w.alloc o) (A :: H) := by
  refine ⟨hw.1.grow rfl rfl rfl (by simp), hw.2.push (by simp) (fun b hb => Below.heap_alloc _ _ _ hb) (hh _ (heap_alloc_new w _)) (fun b hb => ?_)⟩
  have := hf b hb
  subst this
  simp
theorem Sat.shut {w : World} {D : Nat} {o : Obj} (hw : Sat K w (dU D :: H)) : Sat K (w.putObj D o) H := by
  refine ⟨hw.1.grow rfl rfl rfl (by simp [World.putObj]), hw.2.tail.keep (by simp [World.putObj]) fun B hB b hb => World.putObj_heap_other fun e => hw.2.2.2.1 b e B hB hb⟩
def eF (P : Program) (K : World) (r : Option Nat) (l : Nat) (args : Array Value) (H : List au) (post : Bool → List au → Prop) : Prop :=
  ∀ w, Sat K w H → ∃ fn tmps assign body, (Instr.yield l args).run P w = .ok (.round l fn tmps assign body) w ∧ RoundIn (zu r) 0 P l fn tmps assign body w fun e w' => ∃ b H', e = .returned (.bool b) ∧ Sat K w' H' ∧ post b H'
theorem eF.mono {r : Option Nat} {l : Nat} {args : Array Value} {post post' : Bool → List au → Prop} (h : eF P K r l args H post) (hp : ∀ b H', post b H' → post' b H') : eF P K r l args H post' := fun w hw => by
  obtain ⟨fn, tmps, assign, body, h1, h2⟩ := h w hw
  exact ⟨fn, tmps, assign, body, h1, h2.mono fun e w' ⟨b, H', k1, k2, k3⟩ => ⟨b, H', k1, k2, hp b H' k3⟩⟩
theorem eF.sat {r : Option Nat} {l : Nat} {args : Array Value} {post : Bool → List au → Prop} {H' : List au} (h : eF P K r l args H' post) (hH : ∀ w, Sat K w H → Sat K w H') : eF P K r l args H post := fun w hw => h w (hH w hw)
variable {n : Nat} {e : Env} {Q : Post}
def Ku (r : pQ) (l : Nat) (K : World) (post : Option Code → List au → Prop) : Post
  | _, .normal, _, H' => ∃ H1, (∀ w, Sat K w H' → Sat K w (r.A l .busy none :: H1)) ∧ post none H1
  | _, .ret, _, H' => ∃ H1, (∀ w, Sat K w H' → Sat K w (r.A l .busy none :: H1)) ∧ post (some .ret) H1
  | _, .exit id, _, H' => ∃ H1, (∀ w, Sat K w H' → Sat K w (r.A l .busy none :: H1)) ∧ post (some (.exit id)) H1
  | _, .goto t, _, H' => ∃ H1, (∀ w, Sat K w H' → Sat K w (r.A l .busy none :: H1)) ∧ post (some (.goto t)) H1
  | _, _, _, _ => False
def GI (P : Program) (n : Nat) (r : pQ) (l : Nat) (K : World) (post : Option Code → List au → Prop) : Post
  | Mo, .normal, e', H' => ∃ H1, (∀ w, Sat K w H' → Sat K w (r.A l .ready none :: H1)) ∧ WC Mo P K n r.body (Ku r l K post) e' (r.A l .busy none :: H1)
  | _, _, _, _ => False
def BX (ps : List Tmp) (args : List Value) (e : Env) : Env := (ps.zip args).foldl (fun e p => (p.1, p.2) :: e) e
theorem qN {Mo : Mode} : ∀ {ps : List Tmp} {args : List Value} {e : Env} {t : Array Value}, (∀ p ∈ ps, Nat.blt p n = true) → Agree Mo n e { tmps := t, defers := Mo.ds } →
    Agree Mo n (BX ps args e) { tmps := (ps.zip args).foldl (fun t p => t.setIfInBounds p.1 p.2) t, defers := Mo.ds }
  | [], _, _, _, _, h => h
  | p :: ps, [], _, _, _, h => h
  | p :: ps, v :: args, e, t, hp, h => by
    have h1 := h.put p (hp p (.head _)) v
    have h2 : Agree Mo n ((p, v) :: e) { tmps := t.setIfInBounds p v, defers := Mo.ds } := h1
    exact qN (ps := ps) (fun q hq => hp q (List.mem_cons_of_mem _ hq)) h2
theorem ug {r : pQ} {r0 : Option Nat} {l : Nat} {args : List Value} {post : Option Code → List au → Prop} (hargs : args.length = r.ps.size) (hps : ∀ p ∈ r.ps.toList, Nat.blt p n = true)
    (hA : Agree ⟨some (some l), []⟩ n e { tmps := r.tmps, defers := [] })
    (h : WC ⟨some (some l), []⟩ P K n r.assign (GI P n r l K post) (BX r.ps.toList args e) (r.A l .ready none :: H)) :
    eF P K r0 l args.toArray (r.A l .ready none :: H) (fun b H' => ∃ j H1, b = Option.isNone j ∧ post j H1 ∧ H' = r.A l (if Option.isNone j then .ready else .done) j :: H1) := fun w hw => by
  have hl : w.heap[l]? = some (.loop (r.tQ .ready none)) := hw.2.1
  refine ⟨r.fn, _, r.assign, r.body, run_yield (P := P) (args := args.toArray) hl (by simpa [pQ.tQ] using hargs), ?_⟩
  have hin : ∀ R : Ending → World → Prop, RoundIn (zu none) 0 P l r.fn ((r.ps.zip args.toArray).foldl (fun tmps (t, a) => tmps.setIfInBounds t a) r.tmps) r.assign r.body w R →
      RoundIn (zu r0) 0 P l r.fn ((r.ps.zip args.toArray).foldl (fun tmps (t, a) => tmps.setIfInBounds t a) r.tmps) r.assign r.body w R := fun R h => by
    cases r0
    · exact h
    · exact h
  refine hin _ (roundIn_of_wpIn (F := Fence.wide) (n := 0) trivial ?_)
  have O9 : Agree ⟨some (some l), []⟩ n (BX r.ps.toList args e) { tmps := (r.ps.zip args.toArray).foldl (fun tmps (t, a) => tmps.setIfInBounds t a) r.tmps, defers := [] } := by
    have h1 := qN (args := args) hps hA
    have h2 : (r.ps.zip args.toArray).foldl (fun tmps (t, a) => tmps.setIfInBounds t a) r.tmps = (r.ps.toList.zip args).foldl (fun t p => t.setIfInBounds p.1 p.2) r.tmps := by
      rw [← Array.foldl_toList]
      simp
    rw [h2]
    exact h1
  have h1 : r.assign.wpIn (zu (some l)) 0 P (lift (some (some l)) K n (GI P n r l K post)) _ w := h _ w O9 hw
  refine wpIn_mono h1 ?_
  rintro x a1 w1 ⟨ds, e', H', k1, k2, k3⟩
  cases x
  case normal =>
    obtain ⟨H1, hs1, hb⟩ := k3
    have hs := hs1 w1 k2
    have hl1 : w1.heap[l]? = some (.loop (r.tQ .ready none)) := hs.2.1
    refine ⟨_, run_beginRound hl1 rfl, ?_⟩
    have hb1 : r.body.wpIn (zu (some l)) 0 P (lift (some (some l)) K n (Ku r l K post)) a1 (w1.putObj l (.loop { r.tQ .ready none with state := .busy })) := hb _ _ k1 hs.BG
    refine wpIn_mono hb1 ?_
    have fin : ∀ (j : Option Code) (w3 : World) (H1 : List au), Sat K w3 (r.A l .busy none :: H1) → ∃ v w', (Instr.endRound l j).run P w3 = .ok v w' ∧ v = .bool (Option.isNone j) ∧ Sat K w' (r.A l (if Option.isNone j then .ready else .done) j :: H1) := fun j w3 H1 hs => by
      have hl3 : w3.heap[l]? = some (.loop (r.tQ .busy none)) := hs.2.1
      exact ⟨_, _, run_endRound (P := P) j hl3, rfl, hs.BG⟩
    rintro y a3 w3 ⟨ds3, e3, H3, m1, m2, m3⟩
    cases y
    case normal =>
      obtain ⟨H4, q1, q2⟩ := m3
      obtain ⟨v, w', q3, rfl, q5⟩ := fin none w3 H4 (q1 w3 m2)
      exact ⟨_, w', q3, true, _, rfl, q5, none, H4, rfl, q2, rfl⟩
    case ret =>
      obtain ⟨H4, q1, q2⟩ := m3
      obtain ⟨v, w', q3, rfl, q5⟩ := fin (some .ret) w3 H4 (q1 w3 m2)
      exact ⟨_, w', q3, false, _, rfl, q5, some .ret, H4, rfl, q2, rfl⟩
    case exit id =>
      obtain ⟨H4, q1, q2⟩ := m3
      obtain ⟨v, w', q3, rfl, q5⟩ := fin (some (.exit id)) w3 H4 (q1 w3 m2)
      exact ⟨_, w', q3, false, _, rfl, q5, some (.exit id), H4, rfl, q2, rfl⟩
    case goto t =>
      obtain ⟨H4, q1, q2⟩ := m3
      obtain ⟨v, w', q3, rfl, q5⟩ := fin (some (.goto t)) w3 H4 (q1 w3 m2)
      exact ⟨_, w', q3, false, _, rfl, q5, some (.goto t), H4, rfl, q2, rfl⟩
    case panic => exact m3.elim
    case outgrown => exact m3.elim
  all_goals exact k3.elim
theorem WC.range {g : Operand} {ps : Array Tmp} {assign body : Code} {gf : FuncId} {lb : List Value} {Done : List au → Prop} {X : Code → List au → Prop} (hg : Bt e g = some (.func (.func gf) #[] lb.toArray)) (hc : eP P gf)
    (hit : ∀ (r : pQ) (l : Nat), r.ps = ps → r.assign = assign → r.body = body → Agree ⟨some (some l), []⟩ n e { tmps := r.tmps, defers := [] } →
      Does P gf (#[.func (.yield l) #[] #[]] ++ lb.toArray) K (r.A l .ready none :: dU r.D :: H) (fun _ H' => ∃ j H1, H' = r.A l (if Option.isNone j then .ready else .done) j :: dU r.D :: H1 ∧ (match j with | none => Done H1 | some c => X c H1)))
    (hdone : ∀ D H1, Done H1 → Q ⟨none, [pR D]⟩ .normal e (dU D :: H1))
    (PG : ∀ D c H1, X c H1 → WC ⟨none, [pR D]⟩ P K n c Q e (dU D :: H1)) : WC ⟨none, []⟩ P K n (.rangeFunc g ps assign body) Q e H := fun a w ha hw => by
  show (Code.rangeFunc g ps assign body).wp P _ a w
  refine (wpIn_wide (n := 0)).1 (wpIn_rangeFunc ?_)
  intro fn hfn
  have had : a.defers = [] := ha.defers
  obtain ⟨r, hr⟩ : ∃ r : pQ, r = ⟨fn, a.tmps, ps, assign, body, w.heap.size⟩ := ⟨_, rfl⟩
  have hD : Sat K (w.alloc (.deferred (some []))) (dU w.heap.size :: H) := hw.Em (fun b h => h) (fun w' h => h)
  have hL : Sat K ((w.alloc (.deferred (some []))).alloc (.loop (r.tQ .ready none))) (r.A (w.heap.size + 1) .ready none :: dU w.heap.size :: H) := by
    have := hD.Em (A := r.A (w.alloc (.deferred (some []))).heap.size .ready none) (o := .loop (r.tQ .ready none)) (fun b h => h) (fun w' h => h)
    simpa using this
  have QA : r.D = w.heap.size := by rw [hr]
  have hgv := ha.ev hg
  refine ⟨w.heap.size + 1, [pR w.heap.size], (w.alloc (.deferred (some []))).alloc (.loop (r.tQ .ready none)), { target := .fn (.func gf) lb.toArray, args := #[.func (.yield (w.heap.size + 1)) #[] #[]] }, (w.alloc (.deferred (some []))).alloc (.loop (r.tQ .ready none)), gf,
    #[.func (.yield (w.heap.size + 1)) #[] #[]] ++ lb.toArray, (w.alloc (.deferred (some []))).alloc (.loop (r.tQ .ready none)), ?_, ?_, fun f' _ => trivial, ?_, fun h => (by cases h), ?_⟩
  · rw [hr]; exact run_enterLoop_outer _ _ _ _ _
  · simp only [resolve, hgv]
    simp [go_sem]
  · show (callFunc gf (#[.func (.yield (w.heap.size + 1)) #[] #[]] ++ lb.toArray)).run P _ = _
    rw [hc]
  · refine callsIn_wide.2 ?_
    refine (hit r (w.heap.size + 1) (by rw [hr]) (by rw [hr]) (by rw [hr]) ?_ _ (by rw [QA]; exact hL)).mono ?_
    · rw [hr]
      exact ⟨rfl, ha.size, ha.at_⟩
    · rintro _ w3 ⟨v, H', rfl, hs, j, H1, rfl, hj⟩
      have hl3 : w3.heap[w.heap.size + 1]? = some (.loop (r.tQ (if Option.isNone j then .ready else .done) j)) := hs.2.1
      have hend := run_endLoop (P := P) hl3 (by show (if Option.isNone j then LoopState.ready else .done) ≠ .busy; split <;> simp)
      refine ⟨j, _, hend, ?_⟩
      have hs4 : Sat K (w3.putObj (w.heap.size + 1) (.loop { r.tQ (if Option.isNone j then .ready else .done) j with state := .exhausted })) (dU r.D :: H1) :=
        (hs.BG (st' := .exhausted) (PS := j)).tail
      have Qd : Agree ⟨none, [pR w.heap.size]⟩ n e { a with defers := [pR w.heap.size] ++ a.defers } := ⟨by rw [had]; rfl, ha.size, ha.at_⟩
      rw [QA] at hs4
      cases j with
      | none => exact ⟨_, e, _, Qd, hs4, hdone _ _ hj⟩
      | some c => exact wpIn_wide.2 (PG _ c H1 hj _ _ Qd hs4)
def je (P : Program) (K : World) (n : Nat) (fn : Func) (post : Value → List au → Prop) : Post
  | Mo, .normal, e, H | Mo, .ret, e, H => (∃ v H', aL Mo P K n fn e H v ∧ (∀ w, Sat K w H → Sat K w H') ∧ post v H') ∧ Mo.ds = [] ∨
      (∃ D H1 v H', Mo.ds = [pR D] ∧ (∀ w, Sat K w H → Sat K w (dU D :: H1)) ∧ aL Mo P K n fn e H1 v ∧ (∀ w, Sat K w H1 → Sat K w H') ∧ post v H')
  | _, _, _, _ => False
theorem je.ret {fn : Func} {post : Value → List au → Prop} {v : Value} {H' : List au} {r : Option (Option Nat)} (hr : aL ⟨r, []⟩ P K n fn e H v) (hs : ∀ w, Sat K w H → Sat K w H') (hp : post v H') : je P K n fn post ⟨r, []⟩ .ret e H := .inl ⟨⟨v, H', hr, hs, hp⟩, rfl⟩
theorem je.N7 {fn : Func} {post : Value → List au → Prop} {v : Value} {H' : List au} {D : Nat} (H1 : List au) (hH : ∀ w, Sat K w H → Sat K w (dU D :: H1)) (hr : aL ⟨none, [pR D]⟩ P K n fn e H1 v) (hs : ∀ w, Sat K w H1 → Sat K w H') (hp : post v H') :
    je P K n fn post ⟨none, [pR D]⟩ .ret e H := .inr ⟨D, H1, v, H', rfl, hH, hr, hs, hp⟩
theorem Does.KQ {f : FuncId} {fn : Func} {c : Code} {vs : List Value} {post : Value → List au → Prop} (hf : P.funcs[f]? = some fn) (hb : fn.body = some c) (hn : fn.ntmps = n) (hl : Nat.ble vs.length n = true)
    (h : WC ⟨none, []⟩ P K n c (je P K n fn post) (aJ 0 vs) H) : Does P f vs.toArray K H post := by
  intro w hw
  refine callsIn_wide.1 (callsIn_of_wp_marks (F := Fence.wide) (n := 0) hf hb trivial ?_)
  have O9 : Agree ⟨none, []⟩ n (aJ 0 vs) { tmps := vs.toArray ++ Array.replicate (fn.ntmps - vs.toArray.size) undef, defers := [] } := by
    have hl' : vs.length ≤ n := by simpa using hl
    refine ⟨rfl, by simp [hn]; omega, fun t v hv => ?_⟩
    obtain ⟨_, h2⟩ := qo vs 0 t v hv
    simp only [Nat.sub_zero] at h2
    have ht : t < vs.length := by
      rcases Nat.lt_or_ge t vs.length with h | h
      · exact h
      · simp [List.getElem?_eq_none h] at h2
    rw [Array.getD_eq_getD_getElem?, Array.getElem?_append_left (by simpa using ht)]
    simp [h2]
  have h1 : c.wp P (lift none K n (je P K n fn post)) _ w := h _ w O9 hw
  refine wpIn_wide.2 (wp_mono h1 ?_)
  rintro x a w ⟨ds, e', H', h1, h2, h3⟩
  have key : ∀ x, (x = .normal ∨ x = .ret) → je P K n fn post ⟨none, ds⟩ x e' H' → LeavesInM Fence.wide 0 P fn a.tmps (fun e w' => ∃ v H', e = .returned v ∧ Sat K w' H' ∧ post v H') a.defers .returning w := by
    intro x hx h3
    have h4 : je P K n fn post ⟨none, ds⟩ .ret e' H' := by rcases hx with rfl | rfl <;> exact h3
    rcases h4 with ⟨⟨v, xE, k1, k2, k3⟩, k0⟩ | ⟨D, H1, v, xE, k0, k1, k2, k3, k4⟩
    · rw [h1.defers.trans k0]
      exact ⟨v, k1 a w h1 h2, v, xE, rfl, k2 w h2, k3⟩
    · rw [h1.defers.trans k0]
      have hs := k1 w h2
      refine ⟨by simp, .inl ⟨D, _, rfl, run_takeDeferred (P := P) hs.2.1, ?_⟩⟩
      have hs2 : Sat K (w.putObj D (.deferred none)) H1 := hs.shut
      exact ⟨v, k2 a _ h1 hs2, v, xE, rfl, k3 _ hs2, k4⟩
  cases x <;> first
    | exact key _ (.inl rfl) h3
    | exact key _ (.inr rfl) h3
    | exact h3.elim
theorem Does.KU {f : FuncId} {fn : Func} {c : Code} {vs : List Value} {post : Value → List au → Prop} (hf : P.funcs[f]? = some fn) (hb : fn.body = some c) (hn : fn.ntmps = n) (hl : Nat.ble vs.length n = true)
    (h : WC ⟨some none, []⟩ P K n c (aj P K n fn post) (aJ 0 vs) H) : Does P f vs.toArray K H post := by
  intro w hw
  refine callsIn_wide.1 (callsIn_of_wp (F := Fence.wide) (n := 0) hf hb trivial ?_)
  have O9 : Agree ⟨some none, []⟩ n (aJ 0 vs) { tmps := vs.toArray ++ Array.replicate (fn.ntmps - vs.toArray.size) undef, defers := [] } := by
    have hl' : vs.length ≤ n := by simpa using hl
    refine ⟨rfl, by simp [hn]; omega, fun t v hv => ?_⟩
    obtain ⟨_, h2⟩ := qo vs 0 t v hv
    simp only [Nat.sub_zero] at h2
    have ht : t < vs.length := by
      rcases Nat.lt_or_ge t vs.length with h | h
      · exact h
      · simp [List.getElem?_eq_none h] at h2
    rw [Array.getD_eq_getD_getElem?, Array.getElem?_append_left (by simpa using ht)]
    simp [h2]
  have h1 : c.wpIn Fence.wide 0 P (lift (some none) K n (aj P K n fn post)) _ w := h _ w O9 hw
  refine wpIn_mono h1 ?_
  rintro x a w ⟨ds, e', H', h1, h2, h3⟩
  cases x <;> first
    | (obtain ⟨k0, v, xE, k1, k2, k3⟩ := h3; exact ⟨h1.defers.trans k0, v, k1 a w h1 h2, v, xE, rfl, k2 w h2, k3⟩)
    | exact h3.elim
theorem WL.MS {r : Option Nat} {ds : List Deferred} {ops : Array Oper} {rest : List Oper} {ty : TypeId} {pos : String} {af : Array Edge} {d l : Nat} {y : Operand} {xs : List Operand} {vs : List Value} {ats : Array TypeId} {post : Bool → List au → Prop}
    (hy : OV true e y (.func (.yield l) #[] #[])) (hxs : Fh true e xs vs) (hY : eF P K r l vs.toArray H post) (hd : Nat.blt d n = true) (h : ∀ b H', post b H' → WL ⟨some r, ds⟩ P K n ops rest Q ((d, .bool b) :: e) H') :
    WL ⟨some r, ds⟩ P K n ops (⟨some d, .call ⟨.value y, xs.toArray, ats⟩, ty, pos, af, none⟩ :: rest) Q e H := fun a w ha hw => by
  obtain ⟨fn, tmps, assign, body, h1, h2⟩ := hY w hw
  refine mI rfl fun R hR => ?_
  have hrun : (execOp a.eval ⟨some d, .call ⟨.value y, xs.toArray, ats⟩, ty, pos, af, none⟩).run P w = .ok (.round l fn tmps assign body) w := by
    show ((do let d ← resolve a.eval ⟨.value y, xs.toArray, ats⟩ ty; invoke d.target d.args) : Sem Next).run P w = _
    have k1 : resolve a.eval ⟨.value y, xs.toArray, ats⟩ ty = pure { target := .fn (.yield l) #[], args := vs.toArray } := by
      simp only [resolve, hy.ev rfl ha, List.map_toArray, hxs.ev ha rfl]
      show (pure { target := .fn (.yield l) #[], args := #[] ++ vs.toArray } : Sem Deferred) = _
      rw [Array.empty_append]
    rw [k1]
    exact h1
  show Oper.wpIn (zu r) 0 P _ a w R _
  refine ⟨fun f _ => sI _ f, ?_⟩
  rw [Oper.semAt_eq _ _ _ (fun c => by simp), hrun, Oper.uponIn_round]
  refine ⟨qC r, h2.mono ?_⟩
  rintro _ w' ⟨b, H', rfl, k2, k3⟩
  exact hR _ _ (h b H' k3 _ w' (ha.put d hd (.bool b)) k2)
end
end Go.Sl
namespace Go.Proofs.YtcedojacbhnbiaaGreat
open Go.Sl Go.RowKit
set_option linter.unusedVariables false
set_option linter.unusedSimpArgs false
set_option maxRecDepth 20000
theorem eu (n a : Nat) : BitVec.ofInt n (a : Int) = BitVec.ofNat n a := by
  apply BitVec.eq_of_toNat_eq
  rw [BitVec.toNat_ofInt, BitVec.toNat_ofNat]
  omega
theorem cB {a b k : Nat} (ha : a < 2 ^ k) (hb : b < 2 ^ k) : a ^^^ b < 2 ^ k := Nat.xor_lt_two_pow ha hb
theorem iY {a b : Nat} (ha : a < 4611686018427387904) (hb : b < 4611686018427387904) : bitsOf .xor .i64 (a : Int) (b : Int) = ((a ^^^ b : Nat) : Int) := by
  have h := cB (k := 62) ha hb
  unfold bitsOf
  dsimp only
  rw [eu, eu, BitVec.toNat_xor, BitVec.toNat_ofNat, BitVec.toNat_ofNat]
  have e1 : a % 2 ^ IntKind.i64.bits = a := Nat.mod_eq_of_lt (by show a < 2 ^ 64; omega)
  have e2 : b % 2 ^ IntKind.i64.bits = b := Nat.mod_eq_of_lt (by show b < 2 ^ 64; omega)
  rw [e1, e2]
  exact wrap_i64 (by omega)
theorem and_one {a : Nat} (ha : a < 4611686018427387904) : bitsOf .and .i64 (a : Int) 1 = ((a % 2 : Nat) : Int) := by
  unfold bitsOf
  dsimp only
  rw [show (1 : Int) = ((1 : Nat) : Int) from rfl, eu, eu, BitVec.toNat_and, BitVec.toNat_ofNat, BitVec.toNat_ofNat]
  have e1 : a % 2 ^ IntKind.i64.bits = a := Nat.mod_eq_of_lt (by show a < 2 ^ 64; omega)
  have e2 : 1 % 2 ^ IntKind.i64.bits = 1 := rfl
  rw [e1, e2, Nat.and_one_is_mod]
  exact wrap_i64 (by omega)
theorem GX {a : Nat} (ha : a < 4611686018427387904) : IntKind.i64.wrap ((a : Int) * 2 ^ (min (1 : Int).toNat IntKind.i64.bits)) = ((2 * a : Nat) : Int) := by
  rw [show min (1 : Int).toNat IntKind.i64.bits = 1 from rfl, wrap_i64 (by omega)]
  omega
theorem qB {a : Nat} : (a : Int).fdiv (2 ^ (min (1 : Int).toNat IntKind.i64.bits)) = ((a / 2 : Nat) : Int) := by
  rw [show min (1 : Int).toNat IntKind.i64.bits = 1 from rfl, Int.fdiv_eq_ediv_of_nonneg _ (by decide)]
  omega
def red (a : Nat) : Nat := if 8192 ≤ a then a ^^^ 8219 else a
def jD : Nat → Nat → Nat → Nat → Nat
  | 0, out, _, _ => out
  | k + 1, out, a, b => if b = 0 then out else jD k (if b % 2 = 1 then out ^^^ a else out) (red (2 * a)) (b / 2)
def aK (a b : Nat) : Nat := jD 13 0 a b
def qK : Nat → Nat → Nat → Nat → Nat
  | 0, out, _, _ => out
  | k + 1, out, a, n => if n = 0 then out else qK k (if n % 2 = 1 then aK out a else out) (aK a a) (n / 2)
def Dv (a n : Nat) : Nat := qK 13 1 a n
def bT (i : Int) : Nat := Dv 2 (i % 8191).toNat
def BI (a : Nat) : Nat := Dv a 8190
theorem nO {a : Nat} (h : a < 8192) : red (2 * a) < 8192 := by
  unfold red
  split
  · rename_i h1
    obtain ⟨c, hc⟩ : ∃ c, 2 * a = 8192 + c := ⟨2 * a - 8192, by omega⟩
    have hc2 : c < 8192 := by omega
    have e1 : 2 * a = 8192 ^^^ c := by
      rw [hc]
      have := Nat.two_pow_add_eq_or_of_lt (i := 13) (b := c) hc2 1
      have e : (8192 : Nat) ||| c = 8192 ^^^ c := by
        apply Nat.eq_of_testBit_eq
        intro i
        rw [Nat.testBit_or, Nat.testBit_xor, show (8192 : Nat) = 2 ^ 13 from rfl, Nat.testBit_two_pow]
        by_cases hi : 13 = i
        · subst hi
          rw [Nat.testBit_lt_two_pow hc2]; simp
        · simp [hi]
      rw [← e]
      simpa using this
    rw [e1, Nat.xor_comm 8192 c, Nat.xor_assoc, show (8192 : Nat) ^^^ 8219 = 27 from rfl]
    exact cB (k := 13) hc2 (by decide)
  · omega
theorem Eo : ∀ (k out a b : Nat), out < 8192 → a < 8192 → jD k out a b < 8192
  | 0, _, _, _, h, _ => h
  | k + 1, out, a, b, h, h' => by
    rw [jD]
    split
    · exact h
    · refine Eo k _ _ _ ?_ (nO h')
      split
      · exact cB (k := 13) h h'
      · exact h
theorem aP {a b : Nat} (ha : a < 8192) : aK a b < 8192 := Eo _ _ _ _ (by decide) ha
theorem EN : ∀ (k out a n : Nat), out < 8192 → a < 8192 → qK k out a n < 8192
  | 0, _, _, _, h, _ => h
  | k + 1, out, a, n, h, h' => by
    rw [qK]
    split
    · exact h
    · refine EN k _ _ _ ?_ (aP h')
      split
      · exact aP h
      · exact h
theorem Bz {a n : Nat} (ha : a < 8192) : Dv a n < 8192 := EN _ _ _ _ (by decide) ha
theorem jv (i : Int) : bT i < 8192 := Bz (by decide)
section
variable {K : World} {F : List au}
theorem Ct {a b : Nat} (ha : a < 8192) (hb : b < 8192) : aG Tryz.prog 339 #[.int .i64 (a : Int), .int .i64 (b : Int)] K F (.int .i64 (aK a b : Nat)) := by
  refine Does.enter Tryz.func339 rfl Tryz.ntmps339 rfl ?_
  simp only [aJ, Nat.reduceAdd]
  refine WC.sr (WL.sg rfl rfl (WL.nil (WC.sr (WL.sg rfl rfl (WL.nil (WC.seq (WC.block ?_)))))))
  refine WC.loop (σ := Nat × Nat × Nat × Nat) (fun x => [(5, .int .i64 (x.2.1 : Int)), (0, .int .i64 (x.2.2.1 : Int)), (1, .int .i64 (x.2.2.2 : Int))]) (fun _ => F) (fun x => x.2.1 < 8192 ∧ x.2.2.1 < 8192 ∧ x.2.2.2 < 2 ^ x.1 ∧ x.1 ≤ 13 ∧ jD x.1 x.2.1 x.2.2.1 x.2.2.2 = aK a b) (fun x => x.1) (13, 0, a, b) ⟨by show 0 < 8192; decide, ha, hb, Nat.le_refl _, rfl⟩ (.cons rfl (.cons rfl (.cons rfl (.nil _)))) (fun w h => h) ?_
  rintro ⟨k, o, x, y⟩ ⟨h1, h2, h3, h3', h4⟩
  dsimp only at h1 h2 h3 h3' h4 ⊢
  have Sm : (2 : Nat) ^ k ≤ 2 ^ 13 := Nat.pow_le_pow_right (by decide) h3'
  have hy : y < 8192 := by omega
  refine WC.seq (WC.sr (WL.mv rfl rfl (WL.val (V.neq (OV.p rfl) (OV.p rfl)) rfl (WL.nil ?_))))
  refine WC.cond rfl (fun hc0 => ?_) (fun hc0 => ?_)
  ·simp only [Bool.not_eq_true', Bool.not_eq_false', decide_eq_true_eq, decide_eq_false_iff_not] at hc0
   have hy0 : y ≠ 0 := by omega
   obtain ⟨k', rfl⟩ : ∃ k', k = k' + 1 := ⟨k - 1, by rcases Nat.eq_zero_or_pos k with h | h; subst h; simp at h3; omega; omega⟩
   rw [jD, if_neg hy0] at h4
   have hy2 : y / 2 < 2 ^ k' := by rw [Nat.pow_succ] at h3; omega
   refine WC.skip (WC.seq (WC.block (WC.seq (WC.sr (WL.mv rfl rfl ?_)))))
   refine WL.val (V.aA (v' := .int .i64 ((y % 2 : Nat) : Int)) (V.and (OV.p rfl) (OV.p rfl)) (fun _ => by rw [and_one (by omega)])) rfl ?_
   refine WL.val (V.eql (OV.p rfl) (OV.p rfl)) rfl (WL.nil ?_)
   refine WC.cond rfl (fun hc1 => ?_) (fun hc1 => ?_)
   ·simp only [decide_eq_true_eq, decide_eq_false_iff_not] at hc1
    rw [if_pos (show y % 2 = 1 by omega)] at h4
    refine WC.region (WL.mv rfl rfl (WL.mv rfl rfl ?_))
    refine WL.val (V.aA (v' := .int .i64 ((o ^^^ x : Nat) : Int)) (V.xor (OV.p rfl) (OV.p rfl)) (fun _ => by rw [iY (by omega) (by omega)])) rfl ?_
    refine WL.sg rfl rfl (WL.nil (WC.sr (WL.mv rfl rfl ?_)))
    refine WL.val (V.aA (v' := .int .i64 ((2 * x : Nat) : Int)) (V.shl (OV.p rfl) (OV.p rfl) (by decide)) (fun _ => by rw [GX (by omega)])) rfl ?_
    refine WL.sg rfl rfl (WL.nil (WC.sr (WL.mv rfl rfl (WL.val (V.geq (OV.p rfl) (OV.p rfl)) rfl (WL.nil ?_)))))
    refine WC.cond rfl (fun hc2 => ?_) (fun hc2 => ?_)
    ·simp only [decide_eq_true_eq, decide_eq_false_iff_not] at hc2
     have hr : red (2 * x) = 2 * x ^^^ 8219 := by unfold red; rw [if_pos (by omega)]
     refine WC.region (WL.mv rfl rfl ?_)
     refine WL.val (V.aA (v' := .int .i64 ((2 * x ^^^ 8219 : Nat) : Int)) (V.xor (OV.p rfl) (OV.p rfl)) (fun _ => by rw [show (8219 : Int) = ((8219 : Nat) : Int) from rfl, iY (by omega) (by omega)])) rfl ?_
     refine WL.sg rfl rfl (WL.nil (WC.region (WL.mv rfl rfl ?_)))
     refine WL.val (V.aA (v' := .int .i64 ((y / 2 : Nat) : Int)) (V.shr (OV.p rfl) (OV.p rfl) (by decide)) (fun _ => by rw [qB])) rfl ?_
     refine WL.sg rfl rfl (WL.nil ?_)
     refine ⟨rfl, ?_⟩
     have hrl := nO h2
     have hxo : o ^^^ x < 8192 := cB (k := 13) h1 h2
     rw [hr] at h4 hrl
     first
       | exact ⟨(k', o ^^^ x, _, y / 2), ⟨hxo, hrl, hy2, by show k' ≤ 13; omega, h4⟩, Nat.lt_succ_self _, .cons rfl (.cons rfl (.cons rfl (.nil _))), fun w h => h⟩
       | exact ⟨(k', o, _, y / 2), ⟨h1, hrl, hy2, by show k' ≤ 13; omega, h4⟩, Nat.lt_succ_self _, .cons rfl (.cons rfl (.cons rfl (.nil _))), fun w h => h⟩
    ·simp only [decide_eq_true_eq, decide_eq_false_iff_not] at hc2
     have hr : red (2 * x) = 2 * x := by unfold red; rw [if_neg (by omega)]
     refine WC.skip (WC.region (WL.mv rfl rfl ?_))
     refine WL.val (V.aA (v' := .int .i64 ((y / 2 : Nat) : Int)) (V.shr (OV.p rfl) (OV.p rfl) (by decide)) (fun _ => by rw [qB])) rfl ?_
     refine WL.sg rfl rfl (WL.nil ?_)
     refine ⟨rfl, ?_⟩
     have hrl := nO h2
     have hxo : o ^^^ x < 8192 := cB (k := 13) h1 h2
     rw [hr] at h4 hrl
     first
       | exact ⟨(k', o ^^^ x, _, y / 2), ⟨hxo, hrl, hy2, by show k' ≤ 13; omega, h4⟩, Nat.lt_succ_self _, .cons rfl (.cons rfl (.cons rfl (.nil _))), fun w h => h⟩
       | exact ⟨(k', o, _, y / 2), ⟨h1, hrl, hy2, by show k' ≤ 13; omega, h4⟩, Nat.lt_succ_self _, .cons rfl (.cons rfl (.cons rfl (.nil _))), fun w h => h⟩
   ·simp only [decide_eq_true_eq, decide_eq_false_iff_not] at hc1
    rw [if_neg (show ¬ y % 2 = 1 by omega)] at h4
    refine WC.skip (WC.sr (WL.mv rfl rfl ?_))
    refine WL.val (V.aA (v' := .int .i64 ((2 * x : Nat) : Int)) (V.shl (OV.p rfl) (OV.p rfl) (by decide)) (fun _ => by rw [GX (by omega)])) rfl ?_
    refine WL.sg rfl rfl (WL.nil (WC.sr (WL.mv rfl rfl (WL.val (V.geq (OV.p rfl) (OV.p rfl)) rfl (WL.nil ?_)))))
    refine WC.cond rfl (fun hc2 => ?_) (fun hc2 => ?_)
    ·simp only [decide_eq_true_eq, decide_eq_false_iff_not] at hc2
     have hr : red (2 * x) = 2 * x ^^^ 8219 := by unfold red; rw [if_pos (by omega)]
     refine WC.region (WL.mv rfl rfl ?_)
     refine WL.val (V.aA (v' := .int .i64 ((2 * x ^^^ 8219 : Nat) : Int)) (V.xor (OV.p rfl) (OV.p rfl)) (fun _ => by rw [show (8219 : Int) = ((8219 : Nat) : Int) from rfl, iY (by omega) (by omega)])) rfl ?_
     refine WL.sg rfl rfl (WL.nil (WC.region (WL.mv rfl rfl ?_)))
     refine WL.val (V.aA (v' := .int .i64 ((y / 2 : Nat) : Int)) (V.shr (OV.p rfl) (OV.p rfl) (by decide)) (fun _ => by rw [qB])) rfl ?_
     refine WL.sg rfl rfl (WL.nil ?_)
     refine ⟨rfl, ?_⟩
     have hrl := nO h2
     have hxo : o ^^^ x < 8192 := cB (k := 13) h1 h2
     rw [hr] at h4 hrl
     first
       | exact ⟨(k', o ^^^ x, _, y / 2), ⟨hxo, hrl, hy2, by show k' ≤ 13; omega, h4⟩, Nat.lt_succ_self _, .cons rfl (.cons rfl (.cons rfl (.nil _))), fun w h => h⟩
       | exact ⟨(k', o, _, y / 2), ⟨h1, hrl, hy2, by show k' ≤ 13; omega, h4⟩, Nat.lt_succ_self _, .cons rfl (.cons rfl (.cons rfl (.nil _))), fun w h => h⟩
    ·simp only [decide_eq_true_eq, decide_eq_false_iff_not] at hc2
     have hr : red (2 * x) = 2 * x := by unfold red; rw [if_neg (by omega)]
     refine WC.skip (WC.region (WL.mv rfl rfl ?_))
     refine WL.val (V.aA (v' := .int .i64 ((y / 2 : Nat) : Int)) (V.shr (OV.p rfl) (OV.p rfl) (by decide)) (fun _ => by rw [qB])) rfl ?_
     refine WL.sg rfl rfl (WL.nil ?_)
     refine ⟨rfl, ?_⟩
     have hrl := nO h2
     have hxo : o ^^^ x < 8192 := cB (k := 13) h1 h2
     rw [hr] at h4 hrl
     first
       | exact ⟨(k', o ^^^ x, _, y / 2), ⟨hxo, hrl, hy2, by show k' ≤ 13; omega, h4⟩, Nat.lt_succ_self _, .cons rfl (.cons rfl (.cons rfl (.nil _))), fun w h => h⟩
       | exact ⟨(k', o, _, y / 2), ⟨h1, hrl, hy2, by show k' ≤ 13; omega, h4⟩, Nat.lt_succ_self _, .cons rfl (.cons rfl (.cons rfl (.nil _))), fun w h => h⟩
  ·simp only [Bool.not_eq_true', Bool.not_eq_false', decide_eq_true_eq, decide_eq_false_iff_not] at hc0
   have hy0 : y = 0 := by omega
   refine WC.exit (WC.sr (WL.mv rfl rfl (WL.sg rfl rfl (WL.nil (WC.ret ?_)))))
   refine aj.ret (H' := F) (aL.tmp rfl rfl) (fun w h => h) ⟨?_, rfl⟩
   have : o = aK a b := by
     rw [← h4, hy0]
     cases k <;> simp [jD]
   rw [this]
theorem Oj (a : Int) : aG Tryz.prog 338 #[.int .i64 a] K F (.bool (decide (0 ≤ a) && decide (a < 8192))) := by
  refine Does.enter Tryz.func338 rfl Tryz.ntmps338 rfl ?_
  simp only [aJ, Nat.reduceAdd]
  refine WC.sr (WL.sg rfl rfl (WL.nil (WC.sr (WL.mv rfl rfl (WL.val (V.geq (OV.p rfl) (OV.p rfl)) rfl (WL.mv rfl rfl (WL.ah (oj := _) rfl rfl rfl GC.t (V.move (OV.p rfl)) rfl (WL.ah (oj := _) rfl rfl rfl GC.t (V.lss (OV.g rfl id) (OV.p rfl)) rfl (WL.val (V.aD (OV.p rfl) (OV.g rfl id)) rfl (WL.sg rfl rfl (WL.nil (WC.ret ?_))))))))))))
  exact aj.ret (H' := F) (aL.tmp rfl rfl) (fun w h => h) ⟨rfl, rfl⟩
theorem yj {a : Nat} (h : a < 8192) : aG Tryz.prog 338 #[.int .i64 (a : Int)] K F (.bool true) := (Oj (a : Int)).eq (by rw [decide_eq_true (show (0 : Int) ≤ (a : Int) by omega), decide_eq_true (show (a : Int) < 8192 by omega)]; rfl)
theorem BS {a b : Nat} (ha : a < 8192) (hb : b < 8192) : aG Tryz.prog 328 #[.int .i64 (a : Int), .int .i64 (b : Int)] K F (.tuple #[.int .i64 (aK a b : Nat), .int .i64 0]) := by
  refine Does.enter Tryz.func328 rfl Tryz.ntmps328 rfl ?_
  simp only [aJ, Nat.reduceAdd]
  refine WC.sr (WL.sg rfl rfl (WL.sg rfl rfl (WL.nil (WC.seq (WC.sr (WL.mv rfl rfl (WL.call (vs := [_]) Tryz.call338 ⟨OV.p rfl, trivial⟩ (yj ha) rfl ?_)))))))
  rintro _ H0 ⟨rfl, h0⟩
  subst H0
  refine WL.val (V.not (OV.p rfl)) rfl (WL.mv rfl rfl (WL.ah (oj := _) rfl rfl rfl GC.f (V.move (OV.p rfl)) rfl ?_))
  refine WL.kN (oj := _) (vs := [_]) rfl rfl rfl GC.f Tryz.call338 ⟨OV.g rfl id, trivial⟩ (fun hg => yj hb) rfl ?_
  refine WL.ah (oj := _) rfl rfl rfl GC.f (V.not (OV.g rfl id)) rfl (WL.val (V.aS (OV.p rfl) (OV.g rfl id)) rfl (WL.nil ?_))
  refine WC.aM rfl (by first | rfl | (simp; done) | (simp; omega)) ?_
  refine WC.skip (WC.sr (WL.mv rfl rfl (WL.mv rfl rfl (WL.call (vs := [_, _]) Tryz.call339 ⟨OV.p rfl, OV.p rfl, trivial⟩ (Ct ha hb) rfl ?_))))
  rintro _ H0 ⟨rfl, h0⟩
  subst H0
  refine WL.sg rfl rfl (WL.sg rfl rfl (WL.nil (WC.ret ?_)))
  exact aj.ret (H' := F) (aL.dJ rfl rfl rfl) (fun w h => h) ⟨rfl, rfl⟩
theorem pX {a b : Nat} (ha : a < 8192) (hb : b < 8192) : aG Tryz.prog 288 #[.int .i64 (a : Int), .int .i64 (b : Int)] K F (.int .i64 (aK a b : Nat)) := by
  refine Does.enter Tryz.func288 rfl Tryz.ntmps288 rfl ?_
  simp only [aJ, Nat.reduceAdd]
  refine WC.sr (WL.sg rfl rfl (WL.nil (WC.sr (WL.mv rfl rfl (WL.mv rfl rfl (WL.call (vs := [_, _]) Tryz.call328 ⟨OV.p rfl, OV.p rfl, trivial⟩ (BS ha hb) rfl ?_))))))
  rintro _ H0 ⟨rfl, h0⟩
  subst H0
  refine WL.mv rfl rfl (WL.xt rfl rfl rfl (WL.xt rfl rfl rfl (WL.sg rfl rfl (WL.sg rfl rfl (WL.nil (WC.sr (WL.mv rfl rfl (WL.sg rfl rfl (WL.nil (WC.ret ?_))))))))))
  exact aj.ret (H' := F) (aL.tmp rfl rfl) (fun w h => h) ⟨rfl, rfl⟩
theorem JB {a b : Nat} (ha : a < 8192) (hb : b < 8192) : aG Tryz.prog 355 #[.int .i64 (a : Int), .int .i64 (b : Int)] K F (.int .i64 (aK a b : Nat)) := by
  refine Does.enter Tryz.func355 rfl Tryz.ntmps355 rfl ?_
  simp only [aJ, Nat.reduceAdd]
  refine WC.sr (WL.sg rfl rfl (WL.nil (WC.sr (WL.mv rfl rfl (WL.mv rfl rfl (WL.call (vs := [_, _]) Tryz.call328 ⟨OV.p rfl, OV.p rfl, trivial⟩ (BS ha hb) rfl ?_))))))
  rintro _ H0 ⟨rfl, h0⟩
  subst H0
  refine WL.mv rfl rfl (WL.xt rfl rfl rfl (WL.xt rfl rfl rfl (WL.sg rfl rfl (WL.sg rfl rfl (WL.nil (WC.sr (WL.mv rfl rfl (WL.sg rfl rfl (WL.nil (WC.ret ?_))))))))))
  exact aj.ret (H' := F) (aL.tmp rfl rfl) (fun w h => h) ⟨rfl, rfl⟩
theorem Kj {a m : Nat} (ha : a < 8192) (hm : m < 8192) : aG Tryz.prog 326 #[.int .i64 (a : Int), .int .i64 (m : Int)] K F (.int .i64 (Dv a m : Nat)) := by
  refine Does.enter Tryz.func326 rfl Tryz.ntmps326 rfl ?_
  simp only [aJ, Nat.reduceAdd]
  refine WC.sr (WL.sg rfl rfl (WL.nil (WC.sr (WL.sg rfl rfl (WL.nil (WC.seq (WC.block ?_)))))))
  refine WC.loop (σ := Nat × Nat × Nat × Nat) (fun x => [(5, .int .i64 (x.2.1 : Int)), (0, .int .i64 (x.2.2.1 : Int)), (1, .int .i64 (x.2.2.2 : Int))]) (fun _ => F) (fun x => x.2.1 < 8192 ∧ x.2.2.1 < 8192 ∧ x.2.2.2 < 2 ^ x.1 ∧ x.1 ≤ 13 ∧ qK x.1 x.2.1 x.2.2.1 x.2.2.2 = Dv a m) (fun x => x.1) (13, 1, a, m) ⟨by show 1 < 8192; decide, ha, hm, Nat.le_refl _, rfl⟩ (.cons rfl (.cons rfl (.cons rfl (.nil _)))) (fun w h => h) ?_
  rintro ⟨k, o, x, y⟩ ⟨h1, h2, h3, h3', h4⟩
  dsimp only at h1 h2 h3 h3' h4 ⊢
  have Sm : (2 : Nat) ^ k ≤ 2 ^ 13 := Nat.pow_le_pow_right (by decide) h3'
  have hy : y < 8192 := by omega
  refine WC.seq (WC.sr (WL.mv rfl rfl (WL.val (V.gtr (OV.p rfl) (OV.p rfl)) rfl (WL.nil ?_))))
  refine WC.cond rfl (fun hc0 => ?_) (fun hc0 => ?_)
  ·simp only [decide_eq_true_eq, decide_eq_false_iff_not] at hc0
   have hy0 : y ≠ 0 := by omega
   obtain ⟨k', rfl⟩ : ∃ k', k = k' + 1 := ⟨k - 1, by rcases Nat.eq_zero_or_pos k with h | h; subst h; simp at h3; omega; omega⟩
   rw [qK, if_neg hy0] at h4
   have hy2 : y / 2 < 2 ^ k' := by rw [Nat.pow_succ] at h3; omega
   refine WC.skip (WC.seq (WC.block (WC.seq (WC.sr (WL.mv rfl rfl ?_)))))
   refine WL.val (V.aA (v' := .int .i64 ((y % 2 : Nat) : Int)) (V.and (OV.p rfl) (OV.p rfl)) (fun _ => by rw [and_one (by omega)])) rfl ?_
   refine WL.val (V.eql (OV.p rfl) (OV.p rfl)) rfl (WL.nil ?_)
   refine WC.cond rfl (fun hc1 => ?_) (fun hc1 => ?_)
   ·simp only [decide_eq_true_eq, decide_eq_false_iff_not] at hc1
    rw [if_pos (show y % 2 = 1 by omega)] at h4
    refine WC.region (WL.mv rfl rfl (WL.mv rfl rfl (WL.call (vs := [_, _]) Tryz.call339 ⟨OV.p rfl, OV.p rfl, trivial⟩ (Ct h1 h2) rfl ?_)))
    rintro _ H0 ⟨rfl, h0⟩
    subst H0
    refine WL.sg rfl rfl (WL.nil (WC.region (WL.mv rfl rfl (WL.mv rfl rfl (WL.call (vs := [_, _]) Tryz.call339 ⟨OV.p rfl, OV.p rfl, trivial⟩ (Ct h2 h2) rfl ?_)))))
    rintro _ H0 ⟨rfl, h0⟩
    subst H0
    refine WL.sg rfl rfl (WL.nil (WC.region (WL.mv rfl rfl ?_)))
    refine WL.val (V.aA (v' := .int .i64 ((y / 2 : Nat) : Int)) (V.shr (OV.p rfl) (OV.p rfl) (by decide)) (fun _ => by rw [qB])) rfl ?_
    refine WL.sg rfl rfl (WL.nil ?_)
    refine ⟨rfl, ?_⟩
    first
      | exact ⟨(k', aK o x, aK x x, y / 2), ⟨aP h1, aP h2, hy2, by show k' ≤ 13; omega, h4⟩, Nat.lt_succ_self _, .cons rfl (.cons rfl (.cons rfl (.nil _))), fun w h => h⟩
      | exact ⟨(k', o, aK x x, y / 2), ⟨h1, aP h2, hy2, by show k' ≤ 13; omega, h4⟩, Nat.lt_succ_self _, .cons rfl (.cons rfl (.cons rfl (.nil _))), fun w h => h⟩
   ·simp only [decide_eq_true_eq, decide_eq_false_iff_not] at hc1
    rw [if_neg (show ¬ y % 2 = 1 by omega)] at h4
    refine WC.skip (WC.region (WL.mv rfl rfl (WL.mv rfl rfl (WL.call (vs := [_, _]) Tryz.call339 ⟨OV.p rfl, OV.p rfl, trivial⟩ (Ct h2 h2) rfl ?_))))
    rintro _ H0 ⟨rfl, h0⟩
    subst H0
    refine WL.sg rfl rfl (WL.nil (WC.region (WL.mv rfl rfl ?_)))
    refine WL.val (V.aA (v' := .int .i64 ((y / 2 : Nat) : Int)) (V.shr (OV.p rfl) (OV.p rfl) (by decide)) (fun _ => by rw [qB])) rfl ?_
    refine WL.sg rfl rfl (WL.nil ?_)
    refine ⟨rfl, ?_⟩
    first
      | exact ⟨(k', aK o x, aK x x, y / 2), ⟨aP h1, aP h2, hy2, by show k' ≤ 13; omega, h4⟩, Nat.lt_succ_self _, .cons rfl (.cons rfl (.cons rfl (.nil _))), fun w h => h⟩
      | exact ⟨(k', o, aK x x, y / 2), ⟨h1, aP h2, hy2, by show k' ≤ 13; omega, h4⟩, Nat.lt_succ_self _, .cons rfl (.cons rfl (.cons rfl (.nil _))), fun w h => h⟩
  ·simp only [decide_eq_true_eq, decide_eq_false_iff_not] at hc0
   have hy0 : y = 0 := by omega
   refine WC.exit (WC.sr (WL.mv rfl rfl (WL.sg rfl rfl (WL.nil (WC.ret ?_)))))
   refine aj.ret (H' := F) (aL.tmp rfl rfl) (fun w h => h) ⟨?_, rfl⟩
   have : o = Dv a m := by
     rw [← h4, hy0]
     cases k <;> simp [qK]
   rw [this]
theorem Hu (i : Int) (hi : -9223372036854775808 ≤ i ∧ i ≤ 9223372036854775807) : aG Tryz.prog 327 #[.int .i64 i] K F (.int .i64 (i % 8191)) := by
  have hb : -8191 < i.tmod 8191 ∧ i.tmod 8191 < 8191 := by
    rcases Int.le_total 0 i with h | h
    · rw [Int.tmod_eq_emod_of_nonneg h]; omega
    · have h1 : i.tmod 8191 = -((-i).tmod 8191) := by rw [Int.neg_tmod, Int.neg_neg]
      rw [Int.tmod_eq_emod_of_nonneg (a := -i) (by omega)] at h1
      omega
  have he := Int.tmod_def i 8191
  refine Does.enter Tryz.func327 rfl Tryz.ntmps327 rfl ?_
  simp only [aJ, Nat.reduceAdd]
  refine WC.sr (WL.sg rfl rfl (WL.nil (WC.seq (WC.sr (WL.mv rfl rfl ?_)))))
  refine WL.val (V.rem (OV.p rfl) (OV.p rfl) (by decide)) rfl ?_
  refine WL.sg rfl rfl (WL.nil (WC.sr (WL.mv rfl rfl (WL.val (V.lss (OV.p rfl) (OV.p rfl)) rfl (WL.nil ?_)))))
  refine WC.cond rfl (fun hc0 => ?_) (fun hc0 => ?_)
  ·simp only [decide_eq_true_eq, decide_eq_false_iff_not] at hc0
   have h0 := hc0
   refine WC.region (WL.mv rfl rfl (WL.ad rfl rfl rfl ?_))
   refine WL.sg rfl rfl (WL.nil (WC.sr (WL.mv rfl rfl (WL.sg rfl rfl (WL.nil (WC.ret ?_))))))
   first
   | (refine aj.ret (H' := F) (aL.tmp rfl rfl) (fun w h => h) ⟨?_, rfl⟩
      have : i.tmod 8191 + 8191 = i % 8191 := by rw [he] at h0 ⊢; omega
      rw [this])
   | (refine aj.ret (H' := F) (aL.tmp rfl rfl) (fun w h => h) ⟨?_, rfl⟩
      have : i.tmod 8191 = i % 8191 := by rw [he] at h0 ⊢; omega
      rw [this])
  ·simp only [decide_eq_true_eq, decide_eq_false_iff_not] at hc0
   have h0 := hc0
   refine WC.skip (WC.sr (WL.mv rfl rfl (WL.sg rfl rfl (WL.nil (WC.ret ?_)))))
   first
   | (refine aj.ret (H' := F) (aL.tmp rfl rfl) (fun w h => h) ⟨?_, rfl⟩
      have : i.tmod 8191 + 8191 = i % 8191 := by rw [he] at h0 ⊢; omega
      rw [this])
   | (refine aj.ret (H' := F) (aL.tmp rfl rfl) (fun w h => h) ⟨?_, rfl⟩
      have : i.tmod 8191 = i % 8191 := by rw [he] at h0 ⊢; omega
      rw [this])
theorem Gg (i : Int) (hi : -9223372036854775808 ≤ i ∧ i ≤ 9223372036854775807) : aG Tryz.prog 287 #[.int .i64 i] K F (.int .i64 (bT i : Nat)) := by
  have e1 : i % 8191 = (((i % 8191).toNat : Nat) : Int) := by omega
  refine Does.enter Tryz.func287 rfl Tryz.ntmps287 rfl ?_
  simp only [aJ, Nat.reduceAdd]
  refine WC.sr (WL.sg rfl rfl (WL.nil (WC.sr (WL.mv rfl rfl ?_))))
  refine WL.call (vs := [_]) Tryz.call327 ⟨OV.p rfl, trivial⟩ (aG.eq (Hu i hi) (by rw [e1])) rfl ?_
  rintro _ H0 ⟨rfl, h0⟩
  subst H0
  refine WL.call (vs := [_, _]) Tryz.call326 ⟨OV.p rfl, OV.p rfl, trivial⟩ (Kj (a := 2) (m := (i % 8191).toNat) (by decide) (by omega)) rfl ?_
  rintro _ H0 ⟨rfl, h0⟩
  subst H0
  refine WL.sg rfl rfl (WL.nil (WC.ret ?_))
  exact aj.ret (H' := F) (aL.tmp rfl rfl) (fun w h => h) ⟨rfl, rfl⟩
theorem Ng {a : Nat} (ha : a < 8192) (h0 : a ≠ 0) : aG Tryz.prog 324 #[.int .i64 (a : Int)] K F (.tuple #[.int .i64 (BI a : Nat), .int .i64 0]) := by
  refine Does.enter Tryz.func324 rfl Tryz.ntmps324 rfl ?_
  simp only [aJ, Nat.reduceAdd]
  refine WC.sr (WL.sg rfl rfl (WL.sg rfl rfl (WL.nil (WC.seq (WC.block (WC.sr (WL.mv rfl rfl (WL.call (vs := [_]) Tryz.call338 ⟨OV.p rfl, trivial⟩ (yj ha) rfl ?_))))))))
  rintro _ H0 ⟨rfl, h0⟩
  subst H0
  refine WL.val (V.not (OV.p rfl)) rfl (WL.sg rfl rfl (WL.nil ?_))
  refine WC.aM rfl (by first | rfl | (simp; done) | (simp; omega)) ?_
  refine WC.sr (WL.mv rfl rfl (WL.val (V.eql (OV.p rfl) (OV.p rfl)) rfl (WL.sg rfl rfl (WL.nil ?_))))
  refine WC.aM rfl ((by simp only [decide_eq_false_iff_not]; omega)) ?_
  refine WC.skip (WC.sr (WL.mv rfl rfl ?_))
  refine WL.call (vs := [_, _]) Tryz.call326 ⟨OV.p rfl, OV.p rfl, trivial⟩ (Kj (a := a) (m := 8190) ha (by decide)) rfl ?_
  rintro _ H0 ⟨rfl, h0⟩
  subst H0
  refine WL.sg rfl rfl (WL.sg rfl rfl (WL.nil (WC.ret ?_)))
  exact aj.ret (H' := F) (aL.dJ rfl rfl rfl) (fun w h => h) ⟨rfl, rfl⟩
end
end Go.Proofs.YtcedojacbhnbiaaGreat
