import Derived.Test.YtcedojacbhnbiaaGreatP2
import Derived.ProofKit
import Derived.Laws.StructEq
import Derived.MapKept
namespace Go.Sl
open Go.ChangeShapes Go.WideShapes Go.ChangeAt Go.RowKit
set_option linter.unusedVariables false
set_option linter.unusedSimpArgs false
section
variable {H : Type} {enc : TypeId × Value → H} {P : Program} {W W' : World}
theorem LY (hl : laidOutB P = true) {sp : Nat → Bool} : ∀ {ts : List TypeId} {vs : List Value} {ds : List (DataW H)} {ps : List MemPlace}, (∀ t ∈ ts, P.readableRec t = true ∧ t < P.types.size) →
    DataW.TrodAll enc P W 0 (fun _ => true) true ts vs ds ps → (∀ p ∈ ps, W.sameAt W' p) → (∀ p ∈ ps, sp p.block = true) → DataW.TrodAll enc P W' 0 sp true ts vs ds ps := by
  intro ts
  induction ts with
  | nil =>
    intro vs ds ps _ h _ _
    cases vs <;> cases ds <;> first | exact h | exact h.elim
  | cons t ts ih =>
    intro vs ds ps hr h hs hp
    cases vs with
    | nil => cases ds <;> exact h.elim
    | cons v vs =>
      cases ds with
      | nil => exact h.elim
      | cons d ds =>
        obtain ⟨p, q, h1, h2, e⟩ := h
        subst e
        obtain ⟨r1, r2⟩ := hr t (by simp)
        exact ⟨p, q, WideElems.Trod_stays hl r1 r2 h1 (fun x hx => hs x (by simp [hx])) (fun x hx => hp x (by simp [hx])), ih (fun t ht => hr t (by simp [ht])) h2 (fun x hx => hs x (by simp [hx])) (fun x hx => hp x (by simp [hx])), rfl⟩
theorem trodAll_length {base : Nat} {spare : Nat → Bool} {held : Bool} : ∀ {ts : List TypeId} {vs : List Value} {ds : List (DataW H)} {ps : List MemPlace}, DataW.TrodAll enc P W base spare held ts vs ds ps → vs.length = ts.length ∧ ds.length = ts.length := by
  intro ts
  induction ts with
  | nil => intro vs ds ps h; cases vs <;> cases ds <;> first | exact ⟨rfl, rfl⟩ | exact h.elim
  | cons t ts ih =>
    intro vs ds ps h
    cases vs with
    | nil => cases ds <;> exact h.elim
    | cons v vs =>
      cases ds with
      | nil => exact h.elim
      | cons d ds =>
        obtain ⟨p, q, h1, h2, e⟩ := h
        have := ih h2
        simp [this]
theorem J4 {f : Func} {s : ChangeSpec} {tb : TypeId} {args : Array Value} {ds gs : List (DataW H)} {before : List MemPlace} (hl : laidOutB P = true)
    (hr : f.params.toList.all (fun t => P.readableRec t && decide (t < P.types.size)) = true) (hv : s.vars = [])
    (hf : ∀ ds : List (DataW H), ds.length = f.params.size → s.fn H ds = { results := [.lit (.bool true)], args := ds })
    (hres : f.resultTypes = #[tb]) (htb : P.underlying tb = some .bool) (hW : DataW.Whole enc P f.params.toList s.vars false W args.toList ds gs before) (hb : Below W.heap.size W W') :
    s.post enc P f false true false false W args (.bool true) W' := by
  have hlt : ∀ p ∈ before, p.block < W.heap.size := fun p hp => hW.lt p hp
  have hW0 := hW
  obtain ⟨p, q, hA, hV, rfl, hfz, hnd⟩ := hW
  rw [hv] at hV
  obtain ⟨rfl, rfl⟩ := trodVars_none hV
  have hlen := (trodAll_length hA).2
  have hfn := hf ds (by rw [hlen, Array.length_toList])
  refine ⟨ds, [], _, [], p, [], hW0, ?_, ?_, ?_, World.keptBut_mono (fun x hx => hx) (hb.frame _), fun h => by cases h⟩
  · rw [List.append_nil, hfn, hres]
    exact trodAll_mk1 (shut_bool htb true)
  · rw [List.append_nil, hfn]
    refine LY hl (fun t ht => ?_) hA (fun x hx => hb.same (hlt x (by simp [hx]))) (fun x hx => by simpa using hlt x (by simp [hx]))
    have := List.all_eq_true.1 hr t ht
    simpa using this
  · rw [List.append_nil, hfn, hv]
    rfl
end
theorem xS {C : Checked} {os : Os} {fn : Func} {f : FuncId} {s : ChangeSpec} {H : Type} {enc : TypeId × Value → H} {tb : TypeId} (own : ownKnob C.prog.godebug = none) (started : os.Started) (noInit : C.prog.inits.idxOf? f = none)
    (hfn : C.prog.funcs[f]? = some fn)
    (witness : ∃ (w : World) (tape : Tape) (i : Input), w.os = os ∧ (w.forCall tape i).Shaped C.prog ∧ i.vars = [] ∧ Input.okWide C.prog (w.forCall tape i) .any w.heap.size f i ∧
      s.pre6 enc C.prog fn [] false (w.forCall tape i).memory i.args ∧ ({} : Assume).holds C.prog (lone (Frame.enter C.prog f i.args .normal) [] (w.forCall tape i)))
    (hl : laidOutB C.prog = true) (hr : fn.params.toList.all (fun t => C.prog.readableRec t && decide (t < C.prog.types.size)) = true) (hv : s.vars = [])
    (hf : ∀ ds : List (DataW H), ds.length = fn.params.size → s.fn H ds = { results := [.lit (.bool true)], args := ds })
    (hres : fn.resultTypes = #[tb]) (htb : C.prog.underlying tb = some .bool)
    (contract : ∀ (W : World) (base : Nat) (args : Array Value) (ds : List (DataW H)) (p : List MemPlace), (∀ (j : Nat) t v, fn.params[j]? = some t → args[j]? = some v → Value.okWide C.prog W .any base t v) →
      DataW.TrodAll enc C.prog W 0 (fun _ => true) true fn.params.toList args.toList ds p → (∀ x ∈ p, x.block < W.heap.size) → aG C.prog f args W [Old W] (.bool true)) :
    ReturnsInHanded {} C os f .any (s.pre6 enc C.prog fn [] false) (s.post enc C.prog fn false true false false) := by
  refine returnsInHanded_of_change own started noInit hfn witness ?_
  intro W base args ds gs before hval hW _ _
  have hW0 := hW
  obtain ⟨p, q, hA, hV, rfl, hfz, hnd⟩ := hW
  refine ((contract W base args ds p hval hA (fun x hx => hW0.lt x (by simp [hx]))).call (Sat.old W)).mono fun e W' ⟨he, hw⟩ => ?_
  exact ⟨_, he, J4 hl hr hv hf hres htb hW0 hw.below⟩
section
variable {P : Program} {W : World} {r : Reach} {base : Nat}
def CellIs (P : Program) (t : TypeId) (v : Value) : Prop :=
  match P.underlying t with
  | some (.int k) => ∃ i, v = .int k i ∧ k.min ≤ i ∧ i ≤ k.max
  | some .bool => ∃ b, v = .bool b
  | _ => True
theorem Kk {t : TypeId} {v : Value} (h : Cell.okWide P W r base t v) : CellIs P t v := by
  unfold CellIs
  cases hu : P.underlying t with
  | none => trivial
  | some d =>
    cases d <;> simp only [Cell.okWide, hu] at h ⊢
    all_goals cases v <;> simp_all [Cell.ok, IntKind.has]
theorem C9 {t : TypeId} {v : Value} {ts : List TypeId} (hu : ∃ d, P.underlying t = some d ∧ ((∃ fs, d = .struct fs) ∨ ∃ m e, d = .array m e)) (hts : P.cellTypes P.depth t = some ts) (hn : P.cellsOf t = ts.length) (h : Value.okWide P W r base t v) :
    ∃ cs : Array Value, v = .agg cs ∧ cs.size = ts.length ∧ ∀ (i : Nat) u w, ts[i]? = some u → cs[i]? = some w → CellIs P u w := by
  obtain ⟨d, hd, hd'⟩ := hu
  have h' : ∃ cs, v = .agg cs ∧ cs.size = P.cellsOf t ∧ Row.okWide P W r base t cs := by
    rcases hd' with ⟨fs, rfl⟩ | ⟨m, e, rfl⟩ <;> simpa only [Value.okWide, hd] using h
  obtain ⟨cs, rfl, hsz, ts', h1, _, h2⟩ := h'
  rw [hts] at h1
  injection h1 with h1
  subst h1
  refine ⟨cs, rfl, hsz.trans hn, fun i u w hi hw => ?_⟩
  obtain ⟨u', k1, k2⟩ := h2 i w hw
  have hlt : i < ts.length := by
    rcases Nat.lt_or_ge i ts.length with h | h
    · exact h
    · rw [List.getElem?_eq_none h] at hi; cases hi
  rw [Nat.mod_eq_of_lt hlt, hi] at k1
  injection k1 with k1
  subst k1
  exact Kk k2
theorem CellIs.int {t : TypeId} {v : Value} {k : IntKind} (hu : P.underlying t = some (.int k)) (h : CellIs P t v) : ∃ i, v = .int k i ∧ k.min ≤ i ∧ i ≤ k.max := by simpa only [CellIs, hu] using h
theorem CellIs.bool {t : TypeId} {v : Value} (hu : P.underlying t = some .bool) (h : CellIs P t v) : ∃ b, v = .bool b := by simpa only [CellIs, hu] using h
end
open Go.RowKit
section
variable {P : Program}
def qG (P : Program) (k : Nat) (t : TypeId) (x y : Value) (b : Bool) : Prop := ∀ w, (Op.equalIn k t x y).run P w = .ok b w
def MG (P : Program) (k : Nat) (xs ys : Array Value) (fs : List Field) (b : Bool) : Prop := ∀ w, (Op.eqFields k xs ys fs).run P w = .ok b w
def Cj (P : Program) (t : TypeId) (xs : Array Value) (o : Nat) (v : Value) : Prop := ∀ w, (part t xs o).run P w = .ok v w
theorem qG.int {k : Nat} {t : TypeId} {i : IntKind} {a b : Int} (h : P.underlying t = some (.int i)) : qG P (k + 1) t (.int i a) (.int i b) (decide (a = b)) := fun w => by
  rw [run_equalIn_int w k t i i a b h]
  rfl
theorem qG.bool {k : Nat} {t : TypeId} {a b : Bool} (h : P.underlying t = some .bool) : qG P (k + 1) t (.bool a) (.bool b) (a == b) := fun w => run_equalIn_bool w k t a b h
theorem qG.string {k : Nat} {t : TypeId} {a b : ByteArray} (h : P.underlying t = some .string) : qG P (k + 1) t (.string a) (.string b) (a.toList == b.toList) := fun w => run_equalIn_string w k t a b h
theorem MG.nil {k : Nat} {xs ys : Array Value} : MG P k xs ys [] true := fun w => by simp [Op.eqFields]
theorem MG.cons {k : Nat} {xs ys : Array Value} {f : Field} {fs : List Field} {a b : Value} {r s : Bool} (hn : (f.name == "_") = false) (ha : Cj P f.type xs f.offset a) (hb : Cj P f.type ys f.offset b) (he : qG P k f.type a b r) (hr : MG P k xs ys fs s) :
    MG P k xs ys (f :: fs) (r && s) := fun w => by
  have hn' : f.name ≠ "_" := by simpa using hn
  rw [Op.eqFields]
  simp only [if_pos hn', Sem.run_bind, ha w, hb w, he w, Result.andThen_ok]
  cases r
  · simp
  · simpa using hr w
theorem qG.struct {k : Nat} {t : TypeId} {fs : Array Field} {xs ys : Array Value} {r : Bool} (hu : P.underlying t = some (.struct fs)) (hp : P.stoodInHeld t = false) (h : MG P k xs ys fs.toList r) : qG P (k + 1) t (.agg xs) (.agg ys) r := fun w => by
  have hf : P.fieldsOf t = fs := by simp [Program.fieldsOf, hu]
  rw [run_equalIn_struct (P := P) w k t xs ys (by rw [hf]; exact hu) hp, hf]
  exact h w
inductive Pw (P : Program) (k : Nat) (e n : Nat) (xs ys : Array Value) : List Nat → Bool → Prop
  | nil : Pw P k e n xs ys [] true
  | cons {i : Nat} {is : List Nat} {a b : Value} {r s : Bool} (ha : Cj P e xs (i * n) a) (hb : Cj P e ys (i * n) b) (he : qG P k e a b r) (hr : Pw P k e n xs ys is s) : Pw P k e n xs ys (i :: is) (r && s)
theorem qG.array {k : Nat} {t : TypeId} {m e n : Nat} {xs ys : Array Value} {r : Bool} (hu : P.underlying t = some (.array m e)) (hs : ∀ w, (sizeOf e).run P w = .ok n w) (h : Pw P k e n xs ys (List.range' 0 m 1) r) : qG P (k + 1) t (.agg xs) (.agg ys) r := fun w => by
  rw [Op.equalIn]
  simp only [Sem.run_bind, run_underlying hu, Result.andThen_ok, hs, Std.Legacy.Range.forIn_eq_forIn_range', Std.Legacy.Range.size, Nat.sub_zero, Nat.add_sub_cancel, Nat.div_one]
  generalize List.range' 0 m 1 = l at h ⊢
  induction h with
  | nil => simp
  | @cons i is a b r s ha hb he hr ih =>
    simp only [List.forIn_cons, Sem.run_bind, ha w, hb w, he w, Result.andThen_ok]
    cases r
    · simp
    · simp only [Bool.not_true, Bool.false_eq_true, if_false, Sem.run_pure, Result.andThen_ok, Bool.true_and]
      exact ih
variable {K : World} {n : Nat} {e : Env} {H : List au} {c : Bool} {dst : Option Tmp} {ty : TypeId} {pos : String} {af : Array Edge} {gd : Option (Nat × Bool)}
end
open Go.RowKit Go.BigFrame
section
variable {κ : Type} [DecidableEq κ]
structure sM (P : Program) (kt : TypeId) (enc : κ → Value) : Prop where
  check : ∀ (b : Bool) (k : κ) (w : World), (Instr.checkKey b 10000 kt (enc k)).run P w = .ok () w
  eq : ∀ (k k' : κ) (w : World), (Op.equal kt (enc k) (enc k')).run P w = .ok (decide (k = k')) w
  und : ∃ d, P.underlying kt = some d ∧ ∀ k k' : κ, Instr.sameNow d (enc k) (enc k') = none ∨ Instr.sameNow d (enc k) (enc k') = some (decide (k = k'))
  bits : ∀ k : κ, Instr.sameBits 10000 (enc k) (enc k) = true
def ent (enc : κ → Value) (e : κ × Value × Nat) : MapEntry := ⟨enc e.1, e.2.1, e.2.2⟩
def findAt (k : κ) : List (κ × Value × Nat) → Nat → Option (Nat × Value)
  | [], _ => none
  | e :: es, i => if k = e.1 then some (i, e.2.1) else findAt k es (i + 1)
variable {P : Program} {kt : TypeId} {enc : κ → Value}
theorem sM.findKey (L : sM P kt enc) (k : κ) (es : List (κ × Value × Nat)) (w : World) : (Instr.findKey kt (enc k) (es.map (ent enc))).run P w = .ok (findAt k es 0) w := by
  obtain ⟨d, hd, hn⟩ := L.und
  have h1 : ∀ (es : List (κ × Value × Nat)) i, Instr.findNow d (enc k) (es.map (ent enc)) i = none ∨ Instr.findNow d (enc k) (es.map (ent enc)) i = some (findAt k es i) := by
    intro es
    induction es with
    | nil => intro i; exact .inr rfl
    | cons e es ih =>
      intro i
      simp only [List.map_cons, Instr.findNow, findAt]
      rcases hn k e.1 with h | h
      · left; simp [ent, h]
      · simp only [ent, h]
        by_cases hk : k = e.1
        · simp [hk]
        · simpa [hk] using ih (i + 1)
  have h2 : ∀ (es : List (κ × Value × Nat)) i, (Instr.findAsking kt (enc k) (es.map (ent enc)) i).run P w = .ok (findAt k es i) w := by
    intro es
    induction es with
    | nil => intro i; rfl
    | cons e es ih =>
      intro i
      simp only [List.map_cons, Instr.findAsking, findAt, Sem.run_bind]
      have := L.eq k e.1 w
      simp only [ent] at this ⊢
      rw [this]
      by_cases hk : k = e.1
      · simp [hk]
      · simpa [hk] using ih (i + 1)
  unfold Instr.findKey
  simp only [Sem.run_bind, run_underlying hd, Result.andThen_ok]
  rcases h1 es 0 with h | h
  · rw [h]; exact h2 es 0
  · rw [h]; rfl
theorem lJ {k : κ} {v : Value} : ∀ {es : List (κ × Value × Nat)} {i j : Nat}, findAt k es i = some (j, v) → ∃ q, j = i + q ∧ ∃ b, es[q]? = some (k, v, b)
  | [], _, _, h => by simp [findAt] at h
  | e :: es, i, j, h => by
    simp only [findAt] at h
    split at h
    · rename_i hk
      simp at h
      obtain ⟨rfl, rfl⟩ := h
      exact ⟨0, rfl, e.2.2, by simp [hk]⟩
    · obtain ⟨q, rfl, b, h1⟩ := lJ h
      exact ⟨q + 1, by omega, b, by simpa using h1⟩
theorem nC {k : κ} : ∀ (es : List (κ × Value × Nat)) (i : Nat), (findAt k es i).map (·.2) = (findAt k es 0).map (·.2)
  | [], _ => rfl
  | e :: es, i => by
    simp only [findAt]
    split
    · rfl
    · rw [nC es (i + 1), nC es 1]
def looks (es : List (κ × Value × Nat)) (k : κ) : Option Value := (findAt k es 0).map (·.2)
theorem dM (e : κ × Value × Nat) (es : List (κ × Value × Nat)) (k : κ) : looks (e :: es) k = if k = e.1 then some e.2.1 else looks es k := by
  unfold looks
  simp only [findAt]
  split
  · rfl
  · exact nC es 1
theorem sG {es : List (κ × Value × Nat)} {k : κ} (h : findAt k es 0 = none) : ∀ e ∈ es, e.1 ≠ k := by
  have h' : looks es k = none := by unfold looks; rw [h]; rfl
  clear h
  induction es with
  | nil => intro e he; cases he
  | cons a es ih =>
    intro e he
    rw [dM] at h'
    split at h'
    · cases h'
    · rename_i hk
      rcases List.mem_cons.1 he with rfl | he
      · exact fun h => hk h.symm
      · exact ih h' e he
theorem Fu {es : List (κ × Value × Nat)} {k : κ} {v : Value} {b : Nat} (h : ∀ e ∈ es, e.1 ≠ k) (k' : κ) : looks (es ++ [(k, v, b)]) k' = if k' = k then some v else looks es k' := by
  induction es with
  | nil => rw [List.nil_append, dM]
  | cons a es ih =>
    rw [List.cons_append, dM, dM, ih (fun e he => h e (.tail _ he))]
    have := h a (.head _)
    by_cases h1 : k' = a.1
    · rw [if_pos h1, if_neg (by rw [h1]; exact this), if_pos h1]
    · rw [if_neg h1, if_neg h1]
theorem tN {k : κ} {v : Value} : ∀ {es : List (κ × Value × Nat)} {q : Nat} {v0 : Value} {b : Nat}, es[q]? = some (k, v0, b) → (es.map (·.1)).Nodup → ∀ k', looks (es.modify q fun e => (k, v, e.2.2)) k' = if k' = k then some v else looks es k'
  | [], _, _, _, h, _, _ => by simp at h
  | e :: es, 0, v0, b, h, _, k' => by
    simp at h
    subst h
    rw [List.modify_zero_cons, dM, dM]
    by_cases h1 : k' = k <;> simp [h1]
  | e :: es, q + 1, v0, b, h, hn, k' => by
    rw [List.modify_succ_cons, dM, dM, tN (v := v) (by simpa using h) (List.nodup_cons.1 (by simpa using hn)).2]
    by_cases h1 : k' = e.1
    · have h2 : e.1 ≠ k := fun h2 => by
        simp only [List.map_cons, List.nodup_cons] at hn
        exact hn.1 (h2 ▸ List.mem_map.2 ⟨_, List.mem_of_getElem? (by simpa using h), rfl⟩)
      rw [if_pos h1, if_pos h1, if_neg (by rw [h1]; exact h2)]
    · rw [if_neg h1, if_neg h1]
theorem pz {k : κ} : ∀ {es : List (κ × Value × Nat)} {q : Nat} {v0 : Value} {b : Nat}, es[q]? = some (k, v0, b) → (es.map (·.1)).Nodup → ∀ k', looks (es.eraseIdx q) k' = if k' = k then none else looks es k'
  | [], _, _, _, h, _, _ => by simp at h
  | e :: es, 0, v0, b, h, hn, k' => by
    simp at h
    subst h
    rw [List.eraseIdx_cons_zero, dM]
    by_cases h1 : k' = k
    · subst h1
      simp only [if_true]
      have h0 : k' ∉ es.map (·.1) := by simp only [List.map_cons, List.nodup_cons] at hn; exact hn.1
      clear hn
      induction es with
      | nil => rfl
      | cons a es ih =>
        rw [dM, if_neg (fun h => h0 (by simp [h])), ih (fun h => h0 (by simp [h]))]
    · simp [h1]
  | e :: es, q + 1, v0, b, h, hn, k' => by
    rw [List.eraseIdx_cons_succ, dM, dM, pz (by simpa using h) (List.nodup_cons.1 (by simpa using hn)).2]
    by_cases h1 : k' = e.1
    · have h2 : e.1 ≠ k := fun h2 => by
        simp only [List.map_cons, List.nodup_cons] at hn
        exact hn.1 (h2 ▸ List.mem_map.2 ⟨_, List.mem_of_getElem? (by simpa using h), rfl⟩)
      rw [if_pos h1, if_pos h1, if_neg (by rw [h1]; exact h2)]
    · rw [if_neg h1, if_neg h1]
def cu (b : Nat) (enc : κ → Value) (f : κ → Option Value) : au where
  foot x := x = b
  holds w := ∃ (l : List (κ × Value × Nat)) (c : Nat), w.heap[b]? = some (.map (l.map (ent enc)).toArray c) ∧ (l.map (·.1)).Nodup ∧ ∀ k, looks l k = f k
  loc w w' h hw := by rw [h b rfl]; exact hw
def upd (f : κ → Option Value) (k : κ) (v : Option Value) : κ → Option Value := fun k' => if k' = k then v else f k'
variable {Mo : Mode} {K : World} {n : Nat} {Q : Post} {e : Env} {H : List au} {c : Bool} {dst : Option Tmp} {ty : TypeId} {pos : String} {af : Array Edge} {gd : Option (Nat × Bool)} {ops : Array Oper} {rest : List Oper}
def zW (K : World) (H : List au) (b : Nat) (enc : κ → Value) (f : κ → Option Value) : Prop := ∀ w, Sat K w H → (cu b enc f).holds w
theorem zW.here {b : Nat} {f : κ → Option Value} : zW K (cu b enc f :: H) b enc f := fun w hw => hw.head
theorem zW.up {A : au} {b : Nat} {f : κ → Option Value} (h : zW K H b enc f) : zW K (A :: H) b enc f := fun w hw => h w hw.tail
theorem V.lookup {x y : Operand} {T et b : Nat} {z : Value} {k : κ} {f : κ → Option Value} (hT : P.underlying T = some (.map kt et)) (hz : ∀ w, (zeroValue et).run P w = .ok z w) (L : sM P kt enc) (hx : OV c e x (.map (some b))) (hy : OV c e y (enc k))
    (hm : c = true → zW K H b enc f) : Val Mo P K n c e H ⟨dst, .lookup T x y false, ty, pos, af, gd⟩ ((f k).getD z) := fun hc a w ha hw => by
  show ((do pure (Next.value (← Instr.lookup T (a.eval x) (a.eval y) false))) : Sem Next).run P w = _
  rw [hx.ev hc ha, hy.ev hc ha]
  obtain ⟨l, ck, h1, h2, h3⟩ := hm hc w hw
  have h4 := L.findKey k l w
  have h5 : f k = (findAt k l 0).map (·.2) := (h3 k).symm
  simp only [Instr.lookup, Sem.run_bind, run_underlying hT, Result.andThen_ok, MapKept.run_getObj_map h1, L.check, h4, Sem.run_pure]
  rw [h5]
  cases findAt k l 0 with
  | none => simp [hz w]
  | some p => simp
theorem V.D8 {x y : Operand} {T et b : Nat} {z : Value} {k : κ} {f : κ → Option Value} (hT : P.underlying T = some (.map kt et)) (hz : ∀ w, (zeroValue et).run P w = .ok z w) (L : sM P kt enc) (hx : OV c e x (.map (some b))) (hy : OV c e y (enc k))
    (hm : c = true → zW K H b enc f) : Val Mo P K n c e H ⟨dst, .lookup T x y true, ty, pos, af, gd⟩ (.tuple #[(f k).getD z, .bool (f k).isSome]) := fun hc a w ha hw => by
  show ((do pure (Next.value (← Instr.lookup T (a.eval x) (a.eval y) true))) : Sem Next).run P w = _
  rw [hx.ev hc ha, hy.ev hc ha]
  obtain ⟨l, ck, h1, h2, h3⟩ := hm hc w hw
  have h4 := L.findKey k l w
  have h5 : f k = (findAt k l 0).map (·.2) := (h3 k).symm
  simp only [Instr.lookup, Sem.run_bind, run_underlying hT, Result.andThen_ok, MapKept.run_getObj_map h1, L.check, h4, Sem.run_pure]
  rw [h5]
  cases findAt k l 0 with
  | none => simp [hz w]
  | some p => simp
theorem Sat.uS {w : World} {b : Nat} {f g : κ → Option Value} (hw : Sat K w (cu b enc f :: H)) {l : List (κ × Value × Nat)} {ck : Nat} (h2 : (l.map (·.1)).Nodup) (h3 : ∀ k, looks l k = g k) :
    Sat K { w with heap := w.heap.setIfInBounds b (.map (l.map (ent enc)).toArray ck) } (cu b enc g :: H) := by
  have hb := hw.2.2.1 b rfl
  refine ⟨hw.1.grow rfl rfl rfl (by simp), hw.2.set (by simp) (fun x hx _ => ?_) ⟨l, ck, ?_, h2, h3⟩ (fun x hx => .inl hx)⟩
  · have hne : b ≠ x := fun h => hx h.symm
    show (w.heap.setIfInBounds b _)[x]? = _
    rw [Array.getElem?_setIfInBounds, if_neg hne]
  · show (w.heap.setIfInBounds b _)[b]? = _
    rw [Array.getElem?_setIfInBounds, if_pos rfl, if_pos hb]
theorem WL.mapUpdate {x y z : Operand} {T et b : Nat} {k : κ} {v : Value} {f : κ → Option Value} (hT : P.underlying T = some (.map kt et)) (L : sM P kt enc) (hx : OV true e x (.map (some b))) (hy : OV true e y (enc k)) (hz : OV true e z v)
    (h : WL Mo P K n ops rest Q e (cu b enc (upd f k (some v)) :: H)) : WL Mo P K n ops (⟨none, .mapUpdate T x y z, ty, pos, af, none⟩ :: rest) Q e (cu b enc f :: H) := by
  refine WL.Lu (R := fun H' => H' = cu b enc (upd f k (some v)) :: H) (fun a w ha hw => ?_) (fun H' e1 => by subst e1; exact h)
  obtain ⟨l, ck, h1, h2, h3⟩ := hw.head
  have h4 := L.findKey k l w
  have hev : ∀ w', (Instr.mapUpdate T (.map (some b)) (enc k) v).run P w = .ok () w' → (execOp a.eval ⟨none, .mapUpdate T x y z, ty, pos, af, none⟩).run P w = .ok .skip w' := fun w' hr => by
    show ((do Instr.mapUpdate T (a.eval x) (a.eval y) (a.eval z); pure Next.skip) : Sem Next).run P w = _
    rw [hx.ev rfl ha, hy.ev rfl ha, hz.ev rfl ha]
    simp [hr]
  cases hf : findAt k l 0 with
  | none =>
    have hno := sG hf
    refine ⟨_, _, .inl (hev _ ?_), hw.uS (l := l ++ [(k, v, ck)]) (ck := ck + 1) (g := upd f k (some v)) ?_ ?_, rfl⟩
    · simp only [Instr.mapUpdate, Sem.run_bind, run_underlying hT, Result.andThen_ok, MapKept.run_getObj_map h1, L.check, h4, hf]
      rw [MapKept.run_setObj_map _ h1]
      simp [ent]
    · rw [List.map_append, List.map_cons, List.map_nil]
      refine List.nodup_append.2 ⟨h2, by simp, fun a ha b hb => ?_⟩
      simp at hb
      subst hb
      obtain ⟨e', he', rfl⟩ := List.mem_map.1 ha
      exact hno e' he'
    · intro k'
      rw [Fu hno, h3]; rfl
  | some p =>
    obtain ⟨j, v0⟩ := p
    obtain ⟨q, rfl, bn, hq⟩ := lJ hf
    simp only [Nat.zero_add] at hf
    refine ⟨_, _, .inl (hev _ ?_), hw.uS (l := l.modify q fun e => (k, v, e.2.2)) (ck := ck) (g := upd f k (some v)) ?_ ?_, rfl⟩
    · have hkey : ((l.map (ent enc)).toArray[q]?).map (·.key) = some (enc k) := by simp [hq, ent]
      simp only [Instr.mapUpdate, Sem.run_bind, run_underlying hT, Result.andThen_ok, MapKept.run_getObj_map h1, L.check, h4, hf, hkey, Option.getD_some, Instr.keyThatStays, L.bits, if_true, Sem.run_pure]
      rw [MapKept.run_setObj_map _ h1]
      have : (l.map (ent enc)).toArray.modify q (fun e => { e with key := enc k, val := v }) = ((l.modify q fun e => (k, v, e.2.2)).map (ent enc)).toArray := by
        apply Array.ext_getElem?
        intro i
        simp only [Array.getElem?_modify, List.getElem?_toArray, List.getElem?_map, List.getElem?_modify]
        by_cases hi : q = i
        · simp only [hi, if_true]
          cases l[i]? <;> simp [ent]
        · simp only [hi, if_false]
          cases l[i]? <;> simp
      rw [this]
    · have : (l.modify q fun e => (k, v, e.2.2)).map (·.1) = l.map (·.1) := by
        apply List.ext_getElem?
        intro i
        simp only [List.getElem?_map, List.getElem?_modify]
        by_cases hi : q = i
        · subst hi; simp [hq]
        · simp only [hi, if_false]; cases l[i]? <;> simp
      rw [this]; exact h2
    · intro k'
      rw [tN hq h2, h3]; rfl
theorem WL.delete {d : Nat} {x y : Operand} {T T' et b : Nat} {k : κ} {f : κ → Option Value} (hT : P.underlying T = some (.map kt et)) (L : sM P kt enc) (hx : OV true e x (.map (some b))) (hy : OV true e y (enc k)) (hd : Nat.blt d n = true)
    (h : WL Mo P K n ops rest Q ((d, .tuple #[]) :: e) (cu b enc (upd f k none) :: H)) : WL Mo P K n ops (⟨some d, .call ⟨.builtin .delete, #[x, y], #[T, T']⟩, ty, pos, af, none⟩ :: rest) Q e (cu b enc f :: H) := by
  refine WL.Jr (R := fun v H' => v = .tuple #[] ∧ H' = cu b enc (upd f k none) :: H) (fun a w ha hw => ?_) hd (fun v H' ⟨e1, e2⟩ => by subst e1 e2; exact h)
  obtain ⟨l, ck, h1, h2, h3⟩ := hw.head
  have h4 := L.findKey k l w
  have Ey := hx.ev rfl ha
  have Ij := hy.ev rfl ha
  have hev : ∀ w', (Builtin.delete_ #[T, T'] ty #[.map (some b), enc k]).run P w = .ok (.tuple #[]) w' → (execOp a.eval ⟨some d, .call ⟨.builtin .delete, #[x, y], #[T, T']⟩, ty, pos, af, none⟩).run P w = .ok (.value (.tuple #[])) w' := fun w' hr => by
    rw [execOp_builtin, builtin_delete]
    simp [Ey, Ij, hr]
  cases hf : findAt k l 0 with
  | none =>
    have hno := sG hf
    refine ⟨_, _, _, hev _ ?_, hw.uS (l := l) (ck := ck) (g := upd f k none) h2 ?_, rfl, rfl⟩
    · simp only [Builtin.delete_, List.getElem?_toArray, List.getElem?_cons_zero, List.getElem?_cons_succ, Sem.run_bind, run_underlying hT, Result.andThen_ok, MapKept.run_getObj_map h1, L.check, h4, hf]
      rw [MapKept.run_setObj_map _ h1]
      simp
    · intro k'
      rw [h3]
      unfold upd
      by_cases hk : k' = k
      · subst hk
        rw [if_pos rfl, ← h3]
        unfold looks
        rw [hf]; rfl
      · rw [if_neg hk]
  | some p =>
    obtain ⟨j, v0⟩ := p
    obtain ⟨q, rfl, bn, hq⟩ := lJ hf
    simp only [Nat.zero_add] at hf
    refine ⟨_, _, _, hev _ ?_, hw.uS (l := l.eraseIdx q) (ck := ck) (g := upd f k none) ?_ ?_, rfl, rfl⟩
    · simp only [Builtin.delete_, List.getElem?_toArray, List.getElem?_cons_zero, List.getElem?_cons_succ, Sem.run_bind, run_underlying hT, Result.andThen_ok, MapKept.run_getObj_map h1, L.check, h4, hf]
      rw [MapKept.run_setObj_map _ h1]
      have : (l.map (ent enc)).toArray.eraseIdxIfInBounds q = ((l.eraseIdx q).map (ent enc)).toArray := by
        have hlt : q < l.length := by
          rcases Nat.lt_or_ge q l.length with h | h
          · exact h
          · rw [List.getElem?_eq_none h] at hq; cases hq
        simp [Array.eraseIdxIfInBounds, hlt]
        apply List.ext_getElem?
        intro i
        simp only [List.getElem?_eraseIdx, List.getElem?_map]
        split <;> rfl
      simp [this]
    · exact List.Nodup.sublist ((List.eraseIdx_sublist _ _).map _) h2
    · intro k'
      rw [pz hq h2, h3]; rfl
theorem WL.makeMap {d T : Nat} (enc : κ → Value) (hd : Nat.blt d n = true)
    (h : ∀ b, WL Mo P K n ops rest Q ((d, .map (some b)) :: e) (cu b enc (fun _ => none) :: H)) : WL Mo P K n ops (⟨some d, .makeMap T none, ty, pos, af, none⟩ :: rest) Q e H := by
  refine WL.Jr (R := fun v H' => ∃ b, v = .map (some b) ∧ H' = cu b enc (fun _ => none) :: H) (fun a w ha hw => ?_) hd (fun v H' ⟨b, e1, e2⟩ => by subst e1 e2; exact h b)
  refine ⟨.map (some w.heap.size), w.alloc (.map #[] 0), _, ?_, ⟨hw.1.grow rfl rfl rfl (by simp), hw.2.push (A := cu w.heap.size enc (fun _ => none)) (by simp) (fun b hb => ?_) ⟨[], 0, ?_, by simp, fun _ => rfl⟩ (fun b hb => ?_)⟩, w.heap.size, rfl, rfl⟩
  · rfl
  · exact Below.heap_alloc _ _ _ hb
  · exact heap_alloc_new w _
  · simp only [cu] at hb; subst hb; simp
end
def gV {κ : Type} (m : κ → Bool) : κ → Option Value := fun k => if m k then some (.bool true) else none
theorem vk {κ : Type} (m : κ → Bool) (k : κ) : (gV m k).getD (.bool false) = .bool (m k) := by
  unfold gV
  cases m k <;> rfl
theorem Az {κ : Type} [DecidableEq κ] (m : κ → Bool) (k : κ) : upd (gV m) k (some (.bool true)) = gV (fun k' => if k' = k then true else m k') := by
  funext q
  unfold upd gV
  by_cases h : q = k <;> simp [h]
theorem sM.int {P : Program} {kt : TypeId} {k : IntKind} (h : P.underlying kt = some (.int k)) : sM P kt (fun i : Int => Value.int k i) where
  check b i w := MapKept.run_checkKey h (by simp [MapKept.IsKey]) b 9999
  eq i j w := run_equalIn_int w 9999 kt k k i j h
  und := ⟨_, h, fun i j => .inr (by simp [Instr.sameNow]; rfl)⟩
  bits i := by simp [Instr.sameBits]
theorem bA.MI {w w' : World} {A : au} (h : ∀ b, A.foot b → w'.heap[b]? = w.heap[b]?) (hb : ∀ b, A.foot b → b < w.heap.size) : ∀ b, A.foot b → b < w'.heap.size := fun b hf => by
  have h1 := h b hf
  have h2 : w.heap[b]? = some (w.heap[b]'(hb b hf)) := Array.getElem?_eq_getElem (hb b hf)
  rw [h2] at h1
  rcases Nat.lt_or_ge b w'.heap.size with h3 | h3
  · exact h3
  · rw [Array.getElem?_eq_none h3] at h1; cases h1
theorem bA.loc {w w' : World} : ∀ {l : List au}, (∀ b, (∃ A ∈ l, A.foot b) → w'.heap[b]? = w.heap[b]?) → bA w l → bA w' l
  | [], _, _ => trivial
  | A :: l, hk, h => ⟨A.loc w w' (fun b hb => hk b ⟨A, .head _, hb⟩) h.1, bA.MI (fun b hb => hk b ⟨A, .head _, hb⟩) h.2.1, h.2.2.1, bA.loc (fun b ⟨B, hB, hb⟩ => hk b ⟨B, .tail _ hB, hb⟩) h.tail⟩
def bH (l : List au) : au where
  foot x := ∃ A ∈ l, A.foot x
  holds w := bA w l
  loc w w' h hw := bA.loc h hw
theorem bA.append {w : World} : ∀ {l H : List au}, bA w (l ++ H) ↔ bA w l ∧ bA w H ∧ ∀ b, (∃ A ∈ l, A.foot b) → ∀ B ∈ H, ¬ B.foot b
  | [], H => by simp [bA]
  | A :: l, H => by
    have ih := bA.append (w := w) (l := l) (H := H)
    constructor
    · intro h
      obtain ⟨k1, k2, k3⟩ := ih.1 h.tail
      refine ⟨⟨h.1, h.2.1, fun b hb B hB => h.2.2.1 b hb B (List.mem_append_left _ hB), k1⟩, k2, fun b ⟨B, hB, hb⟩ C hC => ?_⟩
      rcases List.mem_cons.1 hB with rfl | hB
      · exact h.2.2.1 b hb C (List.mem_append_right _ hC)
      · exact k3 b ⟨B, hB, hb⟩ C hC
    · rintro ⟨h1, h2, h3⟩
      refine ⟨h1.1, h1.2.1, fun b hb B hB => ?_, ih.2 ⟨h1.tail, h2, fun b ⟨B, hB, hb⟩ => h3 b ⟨B, .tail _ hB, hb⟩⟩⟩
      rcases List.mem_append.1 hB with hB | hB
      · exact h1.2.2.1 b hb B hB
      · exact h3 b ⟨A, .head _, hb⟩ B hB
theorem bA.LG {w : World} {l : List au} (h : bA w l) {b : Nat} (hb : ∃ A ∈ l, A.foot b) : b < w.heap.size := by
  obtain ⟨A, hA, hf⟩ := hb
  exact (h.mem hA).2 b hf
theorem bA.all {w : World} {l H : List au} : bA w (bH l :: H) ↔ bA w (l ++ H) := by
  rw [bA.append]
  exact ⟨fun h => ⟨h.1, h.tail, h.2.2.1⟩, fun h => ⟨h.1, fun b hb => h.1.LG hb, h.2.2, h.2.1⟩⟩
theorem Sat.vX {K w : World} {l H : List au} (h : Sat K w (bH l :: H)) : Sat K w (l ++ H) := ⟨h.1, bA.all.1 h.2⟩
theorem Sat.all {K w : World} {l H : List au} (h : Sat K w (l ++ H)) : Sat K w (bH l :: H) := ⟨h.1, bA.all.2 h.2⟩
theorem Sat.JQ {K w : World} {A : au} {l H : List au} (h : Sat K w (A :: bH l :: H)) : Sat K w (bH (A :: l) :: H) :=
  Sat.all ⟨h.1, ⟨h.2.1, h.2.2.1, fun b hb B hB => by
    rcases List.mem_append.1 hB with hB | hB
    · exact fun hf => h.2.2.2.1 b hb (bH l) (.head _) ⟨B, hB, hf⟩
    · exact h.2.2.2.1 b hb B (.tail _ hB), bA.all.1 h.2.tail⟩⟩
theorem Sat.P7 {K w : World} {l H : List au} {A : au} (h : Sat K w (bH l :: H)) (hA : A ∈ l) : Sat K w [A] :=
  ⟨h.1, (bA.mem h.2.1 hA).1, (bA.mem h.2.1 hA).2, fun _ _ _ hB => by simp at hB, trivial⟩
theorem Sat.one {K w : World} {A : au} {H : List au} (h : Sat K w (A :: H)) : Sat K w [A] := ⟨h.1, h.2.1, h.2.2.1, fun _ _ _ hB => by simp at hB, trivial⟩
section
variable {Mo : Mode} {P : Program} {K : World} {n : Nat} {Q : Post} {e : Env} {H : List au} {c : Bool} {dst : Option Tmp} {ty : TypeId} {pos : String} {af : Array Edge} {gd : Option (Nat × Bool)} {ops : Array Oper} {rest : List Oper}
def eB (l : List au) (A : Option Addr) (m s : Nat) (vs : List Value) : Prop := vs.length = m * s ∧ ∀ K w, Sat K w [bH l] → ∀ i v, vs[i]? = some v → ∃ a, A.map (·.add i) = some a ∧ w.cell? a = some v
theorem eB.seq {l : List au} {A : Option Addr} {m s : Nat} {vs : List Value} (h : eB l A m s vs) : Seq K (bH l :: H) A m s vs := ⟨h.1, fun i v hi w hw => h.2 K w hw.one i v hi⟩
theorem eB.mono {l l' : List au} {A : Option Addr} {m s : Nat} {vs : List Value} (h : eB l A m s vs) (hl : ∀ K w, Sat K w [bH l'] → Sat K w [bH l]) : eB l' A m s vs := ⟨h.1, fun K w hw => h.2 K w (hl K w hw)⟩
theorem eB.up {l : List au} {B : au} {A : Option Addr} {m s : Nat} {vs : List Value} (h : eB l A m s vs) : eB (B :: l) A m s vs := h.mono fun K w hw => by
  have h1 := hw.vX
  exact Sat.all (l := l) (H := []) h1.tail
theorem eB.here {l : List au} {B : au} {A : Option Addr} {m s : Nat} {vs : List Value} (h : ∀ K, Seq K [B] A m s vs) : eB (B :: l) A m s vs := by
  refine ⟨(h default).len, fun K w hw i v hi => (h K).rd i v hi w ?_⟩
  exact hw.vX.one
theorem eB.nil {l : List au} {s : Nat} : eB l none 0 s [] := ⟨by simp, fun K w _ i v hi => by simp at hi⟩
theorem kW (cs : List Value) : ∀ (vs : List Value) (o : Nat), o + vs.length ≤ cs.length → kP cs o vs = cs.take o ++ vs ++ cs.drop (o + vs.length) := by
  intro vs
  induction vs generalizing cs with
  | nil => intro o h; simp [kP]
  | cons v vs ih =>
    intro o h
    simp only [List.length_cons] at h
    rw [kP, ih _ _ (by simp; omega)]
    apply List.ext_getElem?
    intro i
    simp only [List.getElem?_append, List.getElem?_take, List.getElem?_drop, List.length_append, List.length_take, List.length_set, List.getElem?_set, List.length_cons, List.getElem?_cons]
    rcases Nat.lt_trichotomy i o with hi | hi | hi
    · have e1 : i < min (o + 1) cs.length + vs.length := by omega
      have e2 : i < min (o + 1) cs.length := by omega
      have e3 : i < min o cs.length := by omega
      have e4 : i < min o cs.length + (vs.length + 1) := by omega
      simp [e1, e2, e3, e4, show i < o + 1 by omega, show o ≠ i by omega, hi]
    · subst hi
      have e1 : i < min (i + 1) cs.length + vs.length := by omega
      have e2 : i < min (i + 1) cs.length := by omega
      have e4 : i < min i cs.length + (vs.length + 1) := by omega
      have e3 : ¬ i < min i cs.length := by omega
      simp [e1, e2, e3, e4, show i - min i cs.length = 0 by omega, show i < cs.length by omega]
    · have m1 : min (o + 1) cs.length = o + 1 := by omega
      have m2 : min o cs.length = o := by omega
      rw [m1, m2]
      have e2 : ¬ i < o + 1 := by omega
      have e3 : ¬ i < o := by omega
      have e5 : i - o ≠ 0 := by omega
      simp only [e2, e3, if_false]
      by_cases h1 : i < o + 1 + vs.length
      · simp [h1, show i < o + (vs.length + 1) by omega, e5, show i - (o + 1) = i - o - 1 by omega]
      · have e6 : o ≠ o + (vs.length + 1) + (i - (o + (vs.length + 1))) := by omega
        simp [h1, show ¬ i < o + (vs.length + 1) by omega, show o + 1 + vs.length + (i - (o + 1 + vs.length)) = o + (vs.length + 1) + (i - (o + (vs.length + 1))) by omega]
        intro h7; exact absurd h7 e6
theorem aQ.at_ {b T o : Nat} {cs : List Value} {v : Value} (ho : o < cs.length) : aQ K (Cells b T cs :: H) b o [v] (Cells b T (cs.set o v) :: H) := aQ.here (by simp; omega) rfl
theorem aQ.front {b T : Nat} {cs vs : List Value} (ho : vs.length ≤ cs.length) : aQ K (Cells b T cs :: H) b 0 vs (Cells b T (vs ++ cs.drop vs.length) :: H) := aQ.here (by simpa using ho) (by rw [kW _ _ _ (by simpa using ho)]; simp)
theorem WL.wY {d : Nat} {x y : Operand} {T T' E b dl dc q cap' : Nat} {B : Option Addr} {news : List Value} {H' : List au} (hT : iX P T E 1) (hx : OV true e x (.slice (some ⟨b, 0, none⟩) dl dc)) (hy : OV true e y (.slice B q cap'))
    (hn : Seq K H B q 1 news) (hl : q ≤ dl) (h1 : ∀ v ∈ news, v.oneCell' = true) (hu : aQ K H b 0 news H') (hd : Nat.blt d n = true)
    (h : WL Mo P K n ops rest Q ((d, .int .i64 (q : Int)) :: e) H') : WL Mo P K n ops (⟨some d, .call ⟨.builtin .copy, #[x, y], #[T, T']⟩, ty, pos, af, none⟩ :: rest) Q e H := by
  refine WL.Jr (R := fun v xE => v = .int .i64 (q : Int) ∧ xE = H') (fun a w ha hw => ?_) hd (fun v xE ⟨e1, e2⟩ => by subst e1 e2; exact h)
  obtain ⟨k1, k2⟩ := hu.run (P := P) hw h1
  refine ⟨_, _, H', ?_, k2, rfl, rfl⟩
  have hlen : news.length = q := by rw [hn.len, Nat.mul_one]
  have hm : q.min dl = q := Nat.min_eq_left hl
  rw [execOp_builtin, builtin_copy]
  have Ey := hx.ev rfl ha
  have Ij := hy.ev rfl ha
  have hf : (Builtin.firstCells 1 q (.slice B q cap')).run P w = .ok news.toArray w := by
    cases B with
    | none =>
      have : news = [] := by
        cases news with
        | nil => rfl
        | cons u us => obtain ⟨p, h1, _⟩ := hn.rd 0 u rfl w hw; simp at h1
      subst this
      rfl
    | some pb =>
      have := run_loadCells_list (P := P) w pb news (fun j v hj => by
        obtain ⟨p, h1, h2⟩ := hn.cell hw hj
        simp at h1; subst h1; exact h2)
      rw [hlen] at this
      simpa [Builtin.firstCells] using this
  simp [Builtin.copy_, Ey, Ij, hT.1 w, hT.2 w, Builtin.lenOf, hm, hf, k1, goInt]
inductive jT (A A' : au) : List au → List au → Prop
  | here {H : List au} : jT A A' (A :: H) (A' :: H)
  | up {B : au} {H H' : List au} (h : jT A A' H H') : jT A A' (B :: H) (B :: H')
theorem jT.front {A A' : au} {H H' : List au} (h : jT A A' H H') : ∃ R, (∀ w, bA w H → bA w (A :: R)) ∧ (∀ w, bA w (A' :: R) → bA w H') ∧ (∀ B ∈ H', B = A' ∨ B ∈ R) ∧ (∀ B ∈ R, B ∈ H) ∧ A ∈ H := by
  induction h with
  | here => exact ⟨_, fun w h => h, fun w h => h, fun B hB => List.mem_cons.1 hB, fun B hB => .tail _ hB, .head _⟩
  | @up B H H' h ih =>
    obtain ⟨R, h1, h2, h3, h4, h5⟩ := ih
    refine ⟨B :: R, fun w h => (h.ni (h1 w) (fun C hC => ?_)).swap, fun w h => h.swap.ni (h2 w) (fun C hC => ?_), fun C hC => ?_, fun C hC => ?_, .tail _ h5⟩
    · rcases List.mem_cons.1 hC with rfl | hC
      · exact h5
      · exact h4 C hC
    · rcases h3 C hC with rfl | h
      · exact .head _
      · exact .tail _ h
    · rcases List.mem_cons.1 hC with rfl | hC
      · exact .inr (.head _)
      · exact (h3 C hC).imp id (.tail _)
    · rcases List.mem_cons.1 hC with rfl | hC
      · exact .head _
      · exact .tail _ (h4 C hC)
theorem WL.Hl {A A' : au} {H' : List au} {o : Oper} (hR : jT A A' H H') (hop : ∀ R, WL Mo P K n ops rest Q e (A' :: R) → WL Mo P K n ops (o :: rest) Q e (A :: R)) (h : WL Mo P K n ops rest Q e H') : WL Mo P K n ops (o :: rest) Q e H := by
  obtain ⟨R, h1, h2, _⟩ := hR.front
  exact WL.sub (Sub.refl _) (fun w hw => ⟨hw.1, h1 w hw.2⟩) (hop R (WL.sub (Sub.refl _) (fun w hw => ⟨hw.1, h2 w hw.2⟩) h))
theorem WL.nN {κ : Type} [DecidableEq κ] {enc : κ → Value} {kt : TypeId} {x y z : Operand} {T et b : Nat} {k : κ} {v : Value} {f : κ → Option Value} {H' : List au} (hT : P.underlying T = some (.map kt et)) (L : sM P kt enc) (hx : OV true e x (.map (some b))) (hy : OV true e y (enc k)) (hz : OV true e z v)
    (hR : jT (cu b enc f) (cu b enc (upd f k (some v))) H H') (h : WL Mo P K n ops rest Q e H') : WL Mo P K n ops (⟨none, .mapUpdate T x y z, ty, pos, af, none⟩ :: rest) Q e H :=
  WL.Hl hR (fun R h => WL.mapUpdate hT L hx hy hz h) h
theorem V.makeFunc {fn : Fn} {first captured : List Operand} {us vs : List Value} (hf : Fh c e first us) (hv : Fh c e captured vs) : Val Mo P K n c e H ⟨dst, .makeFunc fn first.toArray captured.toArray, ty, pos, af, gd⟩ (.func fn us.toArray vs.toArray) := fun hc a w ha hw => by
  show ((do pure (Next.value (← Instr.makeFunc fn (first.toArray.map a.eval) (captured.toArray.map a.eval)))) : Sem Next).run P w = _
  rw [List.map_toArray, List.map_toArray, hf.ev ha hc, hv.ev ha hc]
  rfl
end
def Apart (A B : au) : Prop := ∀ b, A.foot b → ¬ B.foot b
theorem bA.iff {w : World} : ∀ {l : List au}, bA w l ↔ (∀ A ∈ l, A.holds w ∧ ∀ b, A.foot b → b < w.heap.size) ∧ ∀ (i j : Nat) (A B : au), i ≠ j → l[i]? = some A → l[j]? = some B → Apart A B
  | [] => by simp [bA]
  | A :: l => by
    constructor
    · intro h
      obtain ⟨k1, k2⟩ := bA.iff.1 h.tail
      refine ⟨fun B hB => ?_, fun i j B C hij hi hj => ?_⟩
      · rcases List.mem_cons.1 hB with rfl | hB
        · exact ⟨h.1, h.2.1⟩
        · exact k1 B hB
      · cases i with
        | zero =>
          cases j with
          | zero => exact absurd rfl hij
          | succ j =>
            simp at hi hj
            subst hi
            exact fun b hb => h.2.2.1 b hb C (List.mem_of_getElem? hj)
        | succ i =>
          cases j with
          | zero =>
            simp at hi hj
            subst hj
            exact fun b hb hb' => h.2.2.1 b hb' B (List.mem_of_getElem? hi) hb
          | succ j => exact k2 i j B C (fun h => hij (by rw [h])) (by simpa using hi) (by simpa using hj)
    · rintro ⟨k1, k2⟩
      refine ⟨(k1 A (.head _)).1, (k1 A (.head _)).2, fun b hb B hB => ?_, bA.iff.2 ⟨fun B hB => k1 B (.tail _ hB), fun i j B C hij hi hj => k2 (i + 1) (j + 1) B C (fun h => hij (by omega)) (by simpa using hi) (by simpa using hj)⟩⟩
      obtain ⟨i, hi⟩ := List.getElem?_of_mem hB
      exact k2 0 (i + 1) A B (by omega) rfl (by simpa using hi) b hb
def DX (l : List au) : List Nat → List au
  | [] => []
  | i :: is => match l[i]? with | some A => A :: DX l is | none => DX l is
theorem uo {l : List au} : ∀ {is : List Nat} {A : au}, A ∈ DX l is → ∃ i ∈ is, l[i]? = some A
  | [], _, h => by simp [DX] at h
  | i :: is, A, h => by
    simp only [DX] at h
    split at h
    · rename_i B hB
      rcases List.mem_cons.1 h with rfl | h
      · exact ⟨i, .head _, hB⟩
      · obtain ⟨j, h1, h2⟩ := uo h; exact ⟨j, .tail _ h1, h2⟩
    · obtain ⟨j, h1, h2⟩ := uo h; exact ⟨j, .tail _ h1, h2⟩
theorem bA.sel {w : World} {l : List au} (h : bA w l) : ∀ {is : List Nat}, is.Nodup → bA w (DX l is)
  | [], _ => trivial
  | i :: is, hn => by
    obtain ⟨k1, k2⟩ := bA.iff.1 h
    have hn' := List.nodup_cons.1 hn
    simp only [DX]
    split
    · rename_i A hA
      have hm := k1 A (List.mem_of_getElem? hA)
      refine ⟨hm.1, hm.2, fun b hb B hB => ?_, h.sel hn'.2⟩
      obtain ⟨j, h1, h2⟩ := uo hB
      exact k2 i j A B (fun e => hn'.1 (e ▸ h1)) hA h2 b hb
    · exact h.sel hn'.2
theorem Sat.sel {K w : World} {H : List au} (n : Nat) (is : List Nat) (hn : decide is.Nodup = true) (h : Sat K w H) : Sat K w (DX (H.take n) is ++ H.drop n) := by
  refine ⟨h.1, ?_⟩
  have h0 : bA w (H.take n ++ H.drop n) := by rw [List.take_append_drop]; exact h.2
  obtain ⟨h1, h2, h3⟩ := bA.append.1 h0
  refine bA.append.2 ⟨h1.sel (of_decide_eq_true hn), h2, fun b ⟨A, hA, hb⟩ B hB => h3 b ⟨A, ?_, hb⟩ B hB⟩
  obtain ⟨i, _, hi⟩ := uo hA
  exact List.mem_of_getElem? hi
section
variable {Mo : Mode} {P : Program} {K : World} {n : Nat} {Q : Post} {e : Env} {H : List au} {c : Bool} {dst : Option Tmp} {ty : TypeId} {pos : String} {af : Array Edge} {gd : Option (Nat × Bool)} {ops : Array Oper} {rest : List Oper}
theorem WL.Mw {κ : Type} [DecidableEq κ] {enc : κ → Value} {kt : TypeId} {x y : Operand} {T T' et b : Nat} {k : κ} {f : κ → Option Value} (hT : P.underlying T = some (.map kt et)) (L : sM P kt enc) (hx : OV true e x (.map (some b))) (hy : OV true e y (enc k))
    (h : WL Mo P K n ops rest Q e (cu b enc (upd f k none) :: H)) : WL Mo P K n ops (⟨none, .call ⟨.builtin .delete, #[x, y], #[T, T']⟩, ty, pos, af, none⟩ :: rest) Q e (cu b enc f :: H) := by
  refine WL.Lu (R := fun H' => H' = cu b enc (upd f k none) :: H) (fun a w ha hw => ?_) (fun H' e1 => by subst e1; exact h)
  obtain ⟨l, ck, h1, h2, h3⟩ := hw.head
  have h4 := L.findKey k l w
  have Ey := hx.ev rfl ha
  have Ij := hy.ev rfl ha
  have hev : ∀ w', (Builtin.delete_ #[T, T'] ty #[.map (some b), enc k]).run P w = .ok (.tuple #[]) w' → (execOp a.eval ⟨none, .call ⟨.builtin .delete, #[x, y], #[T, T']⟩, ty, pos, af, none⟩).run P w = .ok (.value (.tuple #[])) w' := fun w' hr => by
    rw [execOp_builtin, builtin_delete]
    simp [Ey, Ij, hr]
  cases hf : findAt k l 0 with
  | none =>
    have hno := sG hf
    refine ⟨_, _, .inr ⟨_, hev _ ?_⟩, hw.uS (l := l) (ck := ck) (g := upd f k none) h2 ?_, rfl⟩
    · simp only [Builtin.delete_, List.getElem?_toArray, List.getElem?_cons_zero, List.getElem?_cons_succ, Sem.run_bind, run_underlying hT, Result.andThen_ok, MapKept.run_getObj_map h1, L.check, h4, hf]
      rw [MapKept.run_setObj_map _ h1]
      simp
    · intro k'
      rw [h3]
      unfold upd
      by_cases hk : k' = k
      · subst hk
        rw [if_pos rfl, ← h3]
        unfold looks
        rw [hf]; rfl
      · rw [if_neg hk]
  | some p =>
    obtain ⟨j, v0⟩ := p
    obtain ⟨q, rfl, bn, hq⟩ := lJ hf
    simp only [Nat.zero_add] at hf
    refine ⟨_, _, .inr ⟨_, hev _ ?_⟩, hw.uS (l := l.eraseIdx q) (ck := ck) (g := upd f k none) ?_ ?_, rfl⟩
    · simp only [Builtin.delete_, List.getElem?_toArray, List.getElem?_cons_zero, List.getElem?_cons_succ, Sem.run_bind, run_underlying hT, Result.andThen_ok, MapKept.run_getObj_map h1, L.check, h4, hf]
      rw [MapKept.run_setObj_map _ h1]
      have : (l.map (ent enc)).toArray.eraseIdxIfInBounds q = ((l.eraseIdx q).map (ent enc)).toArray := by
        have hlt : q < l.length := by
          rcases Nat.lt_or_ge q l.length with h | h
          · exact h
          · rw [List.getElem?_eq_none h] at hq; cases hq
        simp [Array.eraseIdxIfInBounds, hlt]
        apply List.ext_getElem?
        intro i
        simp only [List.getElem?_eraseIdx, List.getElem?_map]
        split <;> rfl
      simp [this]
    · exact List.Nodup.sublist ((List.eraseIdx_sublist _ _).map _) h2
    · intro k'
      rw [pz hq h2, h3]; rfl
theorem WL.uq {κ : Type} [DecidableEq κ] {enc : κ → Value} {kt : TypeId} {x y : Operand} {T T' et b : Nat} {k : κ} {f : κ → Option Value} {H' : List au} (hT : P.underlying T = some (.map kt et)) (L : sM P kt enc) (hx : OV true e x (.map (some b))) (hy : OV true e y (enc k))
    (hR : jT (cu b enc f) (cu b enc (upd f k none)) H H') (h : WL Mo P K n ops rest Q e H') : WL Mo P K n ops (⟨none, .call ⟨.builtin .delete, #[x, y], #[T, T']⟩, ty, pos, af, none⟩ :: rest) Q e H :=
  WL.Hl hR (fun R h => WL.Mw hT L hx hy h) h
end
theorem yK (k : IntKind) (m : Nat) (x : Int) : ints k (List.replicate m x) = List.replicate m (.int k x) := by simp [ints]
theorem ints_set (k : IntKind) (xs : List Int) (i : Nat) (x : Int) : (ints k xs).set i (.int k x) = ints k (xs.set i x) := by simp [ints, List.map_set]
theorem zk {i m : Nat} {x y : Int} (h : i < m) : (List.replicate i x ++ List.replicate (m - i) y).set i x = List.replicate (i + 1) x ++ List.replicate (m - (i + 1)) y := by
  apply List.ext_getElem?
  intro j
  simp only [List.getElem?_set, List.getElem?_append, List.length_replicate, List.length_append, List.getElem?_replicate]
  by_cases h1 : i = j
  · subst h1; simp; omega
  · by_cases h2 : j < i
    · simp [h1, h2, show j < i + 1 by omega]
    · simp [h1, h2, show ¬ j < i + 1 by omega, show j - i < m - i ↔ j - (i + 1) < m - (i + 1) by omega]
theorem Ic {u s : Nat} {A : Option Addr} : (if u = 0 then A else A.map (·.add (0 * s))) = A := by
  split
  · rfl
  · cases A with
    | none => rfl
    | some a => simp [Addr.add]
theorem Seq.take {K : World} {H : List au} {A : Option Addr} {m h : Nat} {vs : List Value} (hs : Seq K H A m 1 vs) (hh : h ≤ m) : Seq K H A h 1 (vs.take h) := by
  have hl := hs.len
  refine ⟨by rw [List.length_take]; omega, fun i v hi => hs.rd i v ?_⟩
  rw [List.getElem?_take] at hi
  split at hi
  · exact hi
  · cases hi
theorem Br (k : IntKind) (xs : List Int) (n : Nat) : (ints k xs).take n = ints k (xs.take n) := by simp [ints]
theorem qb (k : IntKind) (xs : List Int) (n : Nat) : (ints k xs).drop n = ints k (xs.drop n) := by simp [ints]
theorem aZ.take {xs : List Int} (h : aZ xs) (n : Nat) : aZ (xs.take n) := fun x hx => h x (List.mem_of_mem_take hx)
theorem aZ.append {xs ys : List Int} (h : aZ xs) (h' : aZ ys) : aZ (xs ++ ys) := fun x hx => (List.mem_append.1 hx).elim (h x) (h' x)
theorem aZ.uQ {n : Nat} {x : Int} (h : 0 ≤ x ∧ x < 256) : aZ (List.replicate n x) := fun y hy => by rw [List.eq_of_mem_replicate hy]; exact h
theorem aZ.drop {xs : List Int} (h : aZ xs) (n : Nat) : aZ (xs.drop n) := fun x hx => h x (List.mem_of_mem_drop hx)
theorem Does.have_ {P : Program} {K : World} {F : List au} {f : FuncId} {args : Array Value} {post : Value → List au → Prop} {p : Prop} (hp : ∀ w, Sat K w F → p) (h : p → Does P f args K F post) : Does P f args K F post := fun w hw => h (hp w hw) w hw
theorem Seq.Ed {K : World} {F : List au} {m s : Nat} {vs : List Value} (hs : Seq K F none m s vs) {w : World} (hw : Sat K w F) : vs = [] := by
  cases vs with
  | nil => rfl
  | cons v vs => obtain ⟨a, h, _⟩ := hs.rd 0 v rfl w hw; cases h
end Go.Sl
