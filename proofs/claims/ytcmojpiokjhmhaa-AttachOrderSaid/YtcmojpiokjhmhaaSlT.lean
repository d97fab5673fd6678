/- The rows of laws: from what a law's function tells to what its row says. -/
import Derived.Test.YtcmojpiokjhmhaaSlG
import Derived.ProofKit
namespace Go.Sl
open Go.ChangeShapes Go.WideShapes Go.ChangeAt Go.RowKit
set_option linter.unusedVariables false
set_option linter.unusedSimpArgs false

section
variable {H : Type} {enc : TypeId × Value → H} {P : Program} {W W' : World}
theorem stayAll (hl : laidOutB P = true) {sp : Nat → Bool} : ∀ {ts : List TypeId} {vs : List Value} {ds : List (DataW H)} {ps : List MemPlace}, (∀ t ∈ ts, P.readableRec t = true ∧ t < P.types.size) →
    DataW.TrodAll enc P W 0 (fun _ => true) true ts vs ds ps → (∀ p ∈ ps, W.sameAt W' p) → (∀ p ∈ ps, sp p.block = true) → DataW.TrodAll enc P W' 0 sp true ts vs ds ps := by
  intro ts
  induction ts with
  | nil =>
    intro vs ds ps _ h _ _
    cases vs <;> cases ds <;> first | exact h | exact h.elim
  | cons t ts ih =>
    intro vs ds ps hr h hs hp
    cases vs with
    | nil => cases ds <;> exact h.elim
    | cons v vs =>
      cases ds with
      | nil => exact h.elim
      | cons d ds =>
        obtain ⟨p, q, h1, h2, e⟩ := h
        subst e
        obtain ⟨r1, r2⟩ := hr t (by simp)
        exact ⟨p, q, WideElems.Trod_stays hl r1 r2 h1 (fun x hx => hs x (by simp [hx])) (fun x hx => hp x (by simp [hx])), ih (fun t ht => hr t (by simp [ht])) h2 (fun x hx => hs x (by simp [hx])) (fun x hx => hp x (by simp [hx])), rfl⟩
theorem trodAll_length {base : Nat} {spare : Nat → Bool} {held : Bool} : ∀ {ts : List TypeId} {vs : List Value} {ds : List (DataW H)} {ps : List MemPlace}, DataW.TrodAll enc P W base spare held ts vs ds ps → vs.length = ts.length ∧ ds.length = ts.length := by
  intro ts
  induction ts with
  | nil => intro vs ds ps h; cases vs <;> cases ds <;> first | exact ⟨rfl, rfl⟩ | exact h.elim
  | cons t ts ih =>
    intro vs ds ps h
    cases vs with
    | nil => cases ds <;> exact h.elim
    | cons v vs =>
      cases ds with
      | nil => exact h.elim
      | cons d ds =>
        obtain ⟨p, q, h1, h2, e⟩ := h
        have := ih h2
        simp [this]
/-- What holds behind a law that tells 'true' and turns nothing that was there. -/
theorem law_post {f : Func} {s : ChangeSpec} {tb : TypeId} {args : Array Value} {ds gs : List (DataW H)} {before : List MemPlace} (hl : laidOutB P = true)
    (hr : f.params.toList.all (fun t => P.readableRec t && decide (t < P.types.size)) = true) (hv : s.vars = [])
    (hf : ∀ ds : List (DataW H), ds.length = f.params.size → s.fn H ds = { results := [.lit (.bool true)], args := ds })
    (hres : f.resultTypes = #[tb]) (htb : P.underlying tb = some .bool) (hW : DataW.Whole enc P f.params.toList s.vars false W args.toList ds gs before) (hb : Below W.heap.size W W') :
    s.post enc P f false true false false W args (.bool true) W' := by
  have hlt : ∀ p ∈ before, p.block < W.heap.size := fun p hp => hW.lt p hp
  have hW0 := hW
  obtain ⟨p, q, hA, hV, rfl, hfz, hnd⟩ := hW
  rw [hv] at hV
  obtain ⟨rfl, rfl⟩ := trodVars_none hV
  have hlen := (trodAll_length hA).2
  have hfn := hf ds (by rw [hlen, Array.length_toList])
  refine ⟨ds, [], _, [], p, [], hW0, ?_, ?_, ?_, World.keptBut_mono (fun x hx => hx) (hb.frame _), fun h => by cases h⟩
  · rw [List.append_nil, hfn, hres]
    exact trodAll_mk1 (shut_bool htb true)
  · rw [List.append_nil, hfn]
    refine stayAll hl (fun t ht => ?_) hA (fun x hx => hb.same (hlt x (by simp [hx]))) (fun x hx => by simpa using hlt x (by simp [hx]))
    have := List.all_eq_true.1 hr t ht
    simpa using this
  · rw [List.append_nil, hfn, hv]
    rfl
end

/-- A law's contract: for whatever arguments of the outer forms that their types have. -/
theorem law_lifted {C : Checked} {os : Os} {fn : Func} {f : FuncId} {s : ChangeSpec} {H : Type} {enc : TypeId × Value → H} {tb : TypeId} (own : ownKnob C.prog.godebug = none) (started : os.Started) (noInit : C.prog.inits.idxOf? f = none)
    (hfn : C.prog.funcs[f]? = some fn)
    (witness : ∃ (w : World) (tape : Tape) (i : Input), w.os = os ∧ (w.forCall tape i).Shaped C.prog ∧ i.vars = [] ∧ Input.okWide C.prog (w.forCall tape i) .any w.heap.size f i ∧
      s.pre6 enc C.prog fn [] false (w.forCall tape i).memory i.args ∧ ({} : Assume).holds C.prog (lone (Frame.enter C.prog f i.args .normal) [] (w.forCall tape i)))
    (hl : laidOutB C.prog = true) (hr : fn.params.toList.all (fun t => C.prog.readableRec t && decide (t < C.prog.types.size)) = true) (hv : s.vars = [])
    (hf : ∀ ds : List (DataW H), ds.length = fn.params.size → s.fn H ds = { results := [.lit (.bool true)], args := ds })
    (hres : fn.resultTypes = #[tb]) (htb : C.prog.underlying tb = some .bool)
    (contract : ∀ (W : World) (base : Nat) (args : Array Value) (ds : List (DataW H)) (p : List MemPlace), (∀ (j : Nat) t v, fn.params[j]? = some t → args[j]? = some v → Value.okWide C.prog W .any base t v) →
      DataW.TrodAll enc C.prog W 0 (fun _ => true) true fn.params.toList args.toList ds p → (∀ x ∈ p, x.block < W.heap.size) → Tells C.prog f args W [Old W] (.bool true)) :
    ReturnsInHanded {} C os f .any (s.pre6 enc C.prog fn [] false) (s.post enc C.prog fn false true false false) := by
  refine returnsInHanded_of_change own started noInit hfn witness ?_
  intro W base args ds gs before hval hW _ _
  have hW0 := hW
  obtain ⟨p, q, hA, hV, rfl, hfz, hnd⟩ := hW
  refine ((contract W base args ds p hval hA (fun x hx => hW0.lt x (by simp [hx]))).call (Sat.old W)).mono fun e W' ⟨he, hw⟩ => ?_
  exact ⟨_, he, law_post hl hr hv hf hres htb hW0 hw.below⟩

/-! ### Arguments, by the types of their cells -/
section
variable {P : Program} {W : World} {r : Reach} {base : Nat}
def CellIs (P : Program) (t : TypeId) (v : Value) : Prop :=
  match P.underlying t with
  | some (.int k) => ∃ i, v = .int k i ∧ k.min ≤ i ∧ i ≤ k.max
  | some .bool => ∃ b, v = .bool b
  | _ => True
theorem cellIs {t : TypeId} {v : Value} (h : Cell.okWide P W r base t v) : CellIs P t v := by
  unfold CellIs
  cases hu : P.underlying t with
  | none => trivial
  | some d =>
    cases d <;> simp only [Cell.okWide, hu] at h ⊢
    all_goals cases v <;> simp_all [Cell.ok, IntKind.has]
theorem wide_agg {t : TypeId} {v : Value} {ts : List TypeId} (hu : ∃ d, P.underlying t = some d ∧ ((∃ fs, d = .struct fs) ∨ ∃ m e, d = .array m e)) (hts : P.cellTypes P.depth t = some ts) (hn : P.cellsOf t = ts.length) (h : Value.okWide P W r base t v) :
    ∃ cs : Array Value, v = .agg cs ∧ cs.size = ts.length ∧ ∀ (i : Nat) u w, ts[i]? = some u → cs[i]? = some w → CellIs P u w := by
  obtain ⟨d, hd, hd'⟩ := hu
  have h' : ∃ cs, v = .agg cs ∧ cs.size = P.cellsOf t ∧ Row.okWide P W r base t cs := by
    rcases hd' with ⟨fs, rfl⟩ | ⟨m, e, rfl⟩ <;> simpa only [Value.okWide, hd] using h
  obtain ⟨cs, rfl, hsz, ts', h1, _, h2⟩ := h'
  rw [hts] at h1
  injection h1 with h1
  subst h1
  refine ⟨cs, rfl, hsz.trans hn, fun i u w hi hw => ?_⟩
  obtain ⟨u', k1, k2⟩ := h2 i w hw
  have hlt : i < ts.length := by
    rcases Nat.lt_or_ge i ts.length with h | h
    · exact h
    · rw [List.getElem?_eq_none h] at hi; cases hi
  rw [Nat.mod_eq_of_lt hlt, hi] at k1
  injection k1 with k1
  subst k1
  exact cellIs k2
theorem CellIs.int {t : TypeId} {v : Value} {k : IntKind} (hu : P.underlying t = some (.int k)) (h : CellIs P t v) : ∃ i, v = .int k i ∧ k.min ≤ i ∧ i ≤ k.max := by simpa only [CellIs, hu] using h
theorem CellIs.bool {t : TypeId} {v : Value} (hu : P.underlying t = some .bool) (h : CellIs P t v) : ∃ b, v = .bool b := by simpa only [CellIs, hu] using h
end
/-- A slice of numbers that was handed in. -/
theorem open_intsSeq {H : Type} {enc : TypeId × Value → H} {P : Program} {W : World} {r : Reach} {base : Nat} {t e : TypeId} {k : IntKind} {v : Value} {d : DataW H} {p : List MemPlace} (ht : P.underlying t = some (.slice e)) (he : P.underlying e = some (.int k))
    (hc : P.cellsOf e = 1) (hval : Value.okWide P W r base t v) (h : DataW.Trod enc P W 0 (fun _ => true) true t v d p) :
    ∃ A m cap xs, v = .slice A m cap ∧ Seq W [Old W] A m 1 (ints k xs) ∧ (∀ x ∈ xs, k.min ≤ x ∧ x ≤ k.max) ∧ xs.length = m ∧ m ≤ maxLen := by
  obtain ⟨a0, len, cap, rfl⟩ := okWide_slice ht hval
  obtain ⟨fuel, hf⟩ := h
  rcases open_ints ht he hc hf with ⟨hcs, hx⟩ | ⟨a, len', cap', zs, hcs, _, hl, hm, hz, hx, hcell, hwz⟩
  · simp [Value.cells] at hcs
    obtain ⟨rfl, rfl, rfl⟩ := hcs
    exact ⟨none, 0, 0, [], rfl, Seq.nilI, fun x hx => by simp at hx, rfl, Nat.zero_le _⟩
  · simp [Value.cells] at hcs
    obtain ⟨rfl, rfl, rfl⟩ := hcs
    simp only [if_true] at hz
    have hlen : (zs.take len).length = len := by rw [List.length_take]; omega
    refine ⟨some a, len, cap, zs.take len, rfl, ⟨by rw [ints_length, hlen, Nat.mul_one], fun i v hi w hw => ?_⟩, fun x hx => ?_, hlen, by omega⟩
    · have hi' : i < len := by
        rcases Nat.lt_or_ge i len with h | h
        · exact h
        · rw [List.getElem?_eq_none (by rw [ints_length, hlen]; exact h)] at hi; cases hi
      have h1 := hcell i (by omega)
      have hb := World.block_lt_of_cell? _ _ h1
      refine ⟨_, rfl, ((hw.below.cell hb).trans h1).trans ?_⟩
      rw [← hi, ints_getD _ _ (by omega)]
      simp [List.getD, List.getElem?_take, hi']
    · have := hwz x (List.mem_of_mem_take hx)
      simpa [Lit.wf] using this
theorem isBytes_of {xs : List Int} (h : ∀ x ∈ xs, IntKind.u8.min ≤ x ∧ x ≤ IntKind.u8.max) : IsBytes xs := fun x hx => by
  have := h x hx
  have e1 : IntKind.u8.min = 0 := rfl
  have e2 : IntKind.u8.max = 255 := rfl
  omega
end Go.Sl
