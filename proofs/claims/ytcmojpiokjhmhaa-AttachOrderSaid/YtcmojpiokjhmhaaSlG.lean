/- The symbolic executor, seventh part: bytes and strings; copy. -/
import Derived.Test.YtcmojpiokjhmhaaSlF
import Derived.Laws.BytesArg
import Derived.Lib.Bytes
namespace Go.Sl
open Go.RowKit Go.BigFrame
set_option linter.unusedVariables false

section
variable {Mo : Mode} {P : Program} {K : World} {n : Nat} {Q : Post} {e : Env} {H : List Assn} {c : Bool} {dst : Option Tmp} {ty : TypeId} {pos : String} {af : Array Edge} {gd : Option (Nat × Bool)} {ops : Array Oper} {rest : List Oper}

theorem plain_of_cell {w : World} {a : Addr} {v : Value} (h : w.cell? a = some v) : a = ⟨a.block, a.off, none⟩ := by
  cases a with
  | mk b o s =>
    cases s with
    | none => rfl
    | some x =>
      unfold World.cell? at h
      split at h <;> simp at h
/-- string(b), b a slice of bytes. -/
theorem V.bytesStr {x : Operand} {S T E m cap : Nat} {A : Option Addr} {xs : List Int} (hS : P.underlying S = some (.slice E)) (hE : P.underlying E = some (.int .u8)) (hT : P.underlying T = some .string) (hx : OV c e x (.slice A m cap))
    (hs : c = true → Seq K H A m 1 (ints .u8 xs)) : Val Mo P K n c e H ⟨dst, .convert S T x, ty, pos, af, gd⟩ (.string (strOfNums xs)) := fun hc a w ha hw => by
  show ((do pure (Next.value (← convert S T (a.eval x)))) : Sem Next).run P w = _
  rw [hx.ev hc ha]
  have hq := hs hc
  have hl : xs.length = m := by simpa [ints] using hq.len
  have hrun : (convert S T (.slice A m cap)).run P w = .ok (.string (strOfNums xs)) w := by
    cases A with
    | none =>
      have : xs = [] := by
        cases xs with
        | nil => rfl
        | cons y ys => obtain ⟨p, k1, _⟩ := hq.rd 0 _ rfl w hw; simp at k1
      subst this
      exact run_convert_bytes_nil w S E hS hE m cap T hT
    | some p =>
      rcases Nat.eq_zero_or_pos m with h0 | h0
      · subst h0
        have : xs = [] := List.eq_nil_of_length_eq_zero hl
        subst this
        simp [convert, run_underlying hS, run_underlying hE, run_underlying hT, Conv.bytesToString, loadCells, loadCellsFrom, strOfNums, ByteArray.empty, ByteArray.emptyWithCapacity]
        try rfl
      · have hcell : ∀ i, i < m → w.cell? (p.add i) = some (.int .u8 (xs.getD i 0)) := fun i hi => by
          obtain ⟨q, k1, k2⟩ := hq.rd i _ (ints_getD .u8 xs (by omega)) w hw
          simp at k1; subst k1; exact k2
        have hp := plain_of_cell (by have := hcell 0 h0; rwa [show p.add 0 = p from rfl] at this)
        rw [hp]
        refine run_convert_bytes_arg w S E hS hE p.block p.off m cap xs hl (fun i hi => ?_) T hT
        have := hcell i hi
        rw [hp, add_mk] at this
        exact this
  simp [hrun]
/-- Bytes as numbers. -/
def IsBytes (xs : List Int) : Prop := ∀ x ∈ xs, 0 ≤ x ∧ x < 256
theorem IsBytes.at_ {xs : List Int} (h : IsBytes xs) (i : Nat) : 0 ≤ xs.getD i 0 ∧ xs.getD i 0 < 256 := by
  by_cases hi : i < xs.length
  · have := h xs[i] (by simp)
    simpa [List.getD, hi] using this
  · simp [List.getD, List.getElem?_eq_none (Nat.le_of_not_lt hi)]
theorem IsBytes.wide {xs : List Int} (h : IsBytes xs) (i : Nat) : -9223372036854775808 ≤ xs.getD i 0 ∧ xs.getD i 0 ≤ 9223372036854775807 := by have := h.at_ i; omega
theorem strOfNums_inj {xs ys : List Int} (hx : IsBytes xs) (hy : IsBytes ys) (h : (strOfNums xs).data.toList = (strOfNums ys).data.toList) : xs = ys := by
  simp only [strOfNums_data] at h
  induction xs generalizing ys with
  | nil => cases ys with
    | nil => rfl
    | cons y ys => simp at h
  | cons x xs ih =>
    cases ys with
    | nil => simp at h
    | cons y ys =>
      simp only [List.map_cons, List.cons.injEq] at h
      obtain ⟨h1, h2⟩ := h
      have e1 := hx x (by simp)
      have e2 := hy y (by simp)
      have h3 := congrArg UInt8.toNat h1
      simp only [UInt8.toNat_ofNat'] at h3
      have : x = y := by omega
      subst this
      rw [ih (fun z hz => hx z (by simp [hz])) (fun z hz => hy z (by simp [hz])) h2]
theorem str_eq {xs ys : List Int} (hx : IsBytes xs) (hy : IsBytes ys) : ((strOfNums xs).toList == (strOfNums ys).toList) = decide (xs = ys) := by
  have hl : ∀ b : ByteArray, b.toList = b.data.toList := fun b => ByteArray.toList_eq b
  rw [hl, hl, Bool.eq_iff_iff]
  simp only [beq_iff_eq, decide_eq_true_eq]
  exact ⟨strOfNums_inj hx hy, fun h => by rw [h]⟩

/-- copy(dst, "text"). -/
theorem WL.copyStr {d : Nat} {x : Operand} {s : ByteArray} {T T' E b o dl dc : Nat} {news : List Value} {H' : List Assn} (hT : SliceTy P T E 1) (hx : OV true e x (.slice (some ⟨b, o, none⟩) dl dc))
    (hn : s.data.toList.map (fun b => Value.int .u8 b.toNat) = news) (hl : Nat.ble s.size dl = true) (hu : Upd K H b o news H') (hd : Nat.blt d n = true)
    (h : WL Mo P K n ops rest Q ((d, .int .i64 (news.length : Int)) :: e) H') : WL Mo P K n ops (⟨some d, .call ⟨.builtin .copy, #[x, .const (.string s)], #[T, T']⟩, ty, pos, af, none⟩ :: rest) Q e H := by
  refine WL.eff (R := fun v H'' => v = .int .i64 (news.length : Int) ∧ H'' = H') (fun a w ha hw => ?_) hd (fun v H'' ⟨e1, e2⟩ => by subst e1 e2; exact h)
  have h1 : ∀ v ∈ news, v.oneCell' = true := by rw [← hn]; simp [Value.oneCell']
  obtain ⟨k1, k2⟩ := hu.run (P := P) hw h1
  refine ⟨_, _, H', ?_, k2, rfl, rfl⟩
  have hlen : news.length = s.size := by rw [← hn, List.length_map]; rfl
  have hl' : s.size ≤ dl := by simpa using hl
  have ht : List.take s.size (List.map (fun b : UInt8 => Value.int .u8 b.toNat) s.data.toList) = news := by rw [hn]; exact List.take_of_length_le (by omega)
  have hm : s.size.min dl = s.size := Nat.min_eq_left hl'
  rw [execOp_builtin, builtin_copy]
  have ev1 := hx.ev rfl ha
  have ev2 : a.eval (.const (.string s)) = .string s := rfl
  simp [Builtin.copy_, ev1, ev2, hT.1 w, hT.2 w, Builtin.lenOf, Builtin.firstCells, hm, ht, k1, goInt, hlen]
/-- append onto a slice that is read and has no room: a new one. -/
theorem WL.appendNew {d : Nat} {x y : Operand} {T E s bytes m q cap cap' : Nat} {z : Value} {cs news : List Value} {A B : Option Addr} (hT : P.underlying T = some (.slice E)) (hE : ElemTy P E s bytes z) (hx : OV true e x (.slice A m cap)) (hy : OV true e y (.slice B q cap'))
    (hs : Seq K H A m s cs) (hn : Seq K H B q s news) (hroom : cap < m + q) (hm0 : 0 < m) (hq0 : 0 < q) (hb : (m + q) * bytes ≤ 140737488355328) (hby : Nat.blt 0 bytes = true) (hd : Nat.blt d n = true)
    (h : ∀ A cap, (A = none → m + q = 0 ∧ cap = 0) → m + q ≤ cap → WL Mo P K n ops rest Q ((d, .slice A (m + q) cap) :: e) (SlA (.slice A (m + q) cap) E s (m + q) (cs ++ news) :: H)) :
    WL Mo P K n ops (⟨some d, .call ⟨.builtin .append, #[x, y], #[T, T]⟩, ty, pos, af, none⟩ :: rest) Q e H := by
  refine WL.eff (R := fun u H' => ∃ A cap, u = .slice A (m + q) cap ∧ (A = none → m + q = 0 ∧ cap = 0) ∧ m + q ≤ cap ∧ H' = SlA (.slice A (m + q) cap) E s (m + q) (cs ++ news) :: H) (fun a w ha hw => ?_) hd (fun u H' ⟨A, cap, e1, e2, e3, e4⟩ => by subst e1 e4; exact h A cap e2 e3)
  obtain ⟨i, hi, hz, hs', hby', hzs, h0⟩ := hE
  have hbp : 0 < bytes := by simpa using hby
  have hle : m + q ≤ 140737488355328 := Nat.le_trans (Nat.le_mul_of_pos_right _ hbp) hb
  have hmax : m + q ≤ maxLen := by simp only [maxLen]; omega
  have ev1 := hx.ev rfl ha
  have ev2 := hy.ev rfl ha
  have hcs : 0 < cs.length := by rw [hs.len]; exact Nat.mul_pos hm0 h0
  have hns : 0 < news.length := by rw [hn.len]; exact Nat.mul_pos hq0 h0
  obtain ⟨pa, rfl, _⟩ := hs.cell hw (i := 0) (v := cs[0]) (by simp)
  obtain ⟨pb, rfl, _⟩ := hn.cell hw (i := 0) (v := news[0]) (by simp)
  have holds : ∀ j v, cs[j]? = some v → w.cell? (pa.add j) = some v := fun j v hj => by
    obtain ⟨p, k1, k2⟩ := hs.cell hw hj
    simp at k1; subst k1; exact k2
  have hnews : ∀ j v, news[j]? = some v → w.cell? (pb.add j) = some v := fun j v hj => by
    obtain ⟨p, k1, k2⟩ := hn.cell hw hj
    simp at k1; subst k1; exact k2
  subst hs' hby'
  have hr := run_append_grow (P := P) w T ty E i z hT hi hz pa m cap cs hs.len holds pb q cap' news hn.len hnews hroom (by omega) (growslice_fits hroom hb)
  have hge := grownCap_ge w (m + q) cap E
  have hcm := grownCap_le_maxLen w (m + q) cap E hmax
  have hlen : (cs ++ news).length = (m + q) * i.size := by rw [List.length_append, hs.len, hn.len, Nat.add_mul]
  refine ⟨.slice (some ⟨w.heap.size, 0, none⟩) (m + q) (grownCap w (m + q) cap E), w.drew.alloc (.cells (cs.toArray ++ news.toArray ++ Builtin.zeroCells z.cells (grownCap w (m + q) cap E - (m + q))) E),
    SlA (.slice (some ⟨w.heap.size, 0, none⟩) (m + q) (grownCap w (m + q) cap E)) E i.size (m + q) (cs ++ news) :: H, ?_, ⟨hw.1.grow rfl rfl rfl (by simp), ?_⟩, _, _, rfl, (fun h => by simp at h), hge, rfl⟩
  · rw [execOp_builtin, builtin_append]
    simp only [List.map_toArray, List.map_cons, List.map_nil, ev1, ev2, Sem.run_bind, hr, Result.andThen_ok, Sem.run_pure]
  · refine hw.2.push (by simp) (fun b hb' => ?_) ?_ (fun b hb' => ?_)
    · exact heap_alloc_old w.drew _ hb'
    · refine ⟨hlen, .inr ⟨w.heap.size, _, _, rfl, Nat.zero_le _, heap_alloc_new w.drew _, hge, hcm, ?_, ?_⟩⟩
      · simp only [Array.size_append, List.size_toArray, size_zeroCells, hzs, hs.len, hn.len, ← Nat.add_mul]
        congr 1
        omega
      · simp only [Array.toList_append, List.append_assoc]
        rw [← List.append_assoc, ← hlen]
        exact List.take_left
    · simp [SlA, Value.ownBlock] at hb'
      subst hb'
      simp
/-- A row that is only read, whatever its mark. -/
def CellsZ (b T : Nat) (cs : List Value) : Assn where
  foot x := x = b
  holds w := ∃ fr, w.heap[b]? = some (.cells cs.toArray T fr)
  loc w w' h hw := by rw [h b rfl]; exact hw
theorem Rd.hereZ {b T o : Nat} {cs : List Value} {v : Value} (h : cs[o]? = some v) : Rd K (CellsZ b T cs :: H) (some ⟨b, o, none⟩) v := fun w hw => by
  refine ⟨_, rfl, ?_⟩
  obtain ⟨fr, this⟩ := hw.head
  simp [World.cell?, this, h]
theorem Seq.allZ {b T m s : Nat} {cs : List Value} (hl : cs.length = m * s) : Seq K (CellsZ b T cs :: H) (some ⟨b, 0, none⟩) m s cs := ⟨hl, fun i v hi => by
  have := Rd.hereZ (K := K) (H := H) (b := b) (T := T) (o := i) hi
  simpa [add_mk] using this⟩
/-- []byte of a []byte: the same slice, marked. -/
theorem WL.convMark {d : Nat} {x : Operand} {T E b m cap : Nat} {cs : List Value} (hT : P.underlying T = some (.slice E)) (hE : P.underlying E = some (.int .u8)) (hx : OV true e x (.slice (some ⟨b, 0, none⟩) m cap)) (hd : Nat.blt d n = true)
    (h : WL Mo P K n ops rest Q ((d, .slice (some ⟨b, 0, none⟩) m cap) :: e) (CellsZ b E cs :: H)) :
    WL Mo P K n ops (⟨some d, .convert T T x, ty, pos, af, none⟩ :: rest) Q e (Cells b E cs :: H) := by
  refine WL.eff (R := fun u H' => u = .slice (some ⟨b, 0, none⟩) m cap ∧ H' = CellsZ b E cs :: H) (fun a w ha hw => ?_) hd (fun u H' ⟨e1, e2⟩ => by subst e1 e2; exact h)
  have hb := hw.head
  simp only [Cells] at hb
  have hsh : w.shape? b = some (E, cs.length) := by simp [World.shape?, hb]
  refine ⟨_, w.freeze ⟨b, cs.length, none⟩ 1, _, ?_, ⟨hw.1.grow ?_ ?_ ?_ ?_, ?_⟩, rfl, rfl⟩
  · show ((do pure (Next.value (← convert T T (a.eval x)))) : Sem Next).run P w = _
    rw [hx.ev rfl ha]
    simp [convert, run_underlying hT, run_underlying hE, markStringish, hsh]
  · simp [World.freeze]
  · simp [World.freeze]
  · simp [World.freeze]
  · simp [World.freeze]
  · refine hw.2.set (A' := CellsZ b E cs) (by simp [World.freeze]) (fun k hk _ => ?_) ?_ (fun k hk => .inl hk)
    · have : b ≠ k := fun h => hk h.symm
      simp [World.freeze, Array.getElem?_modify, this]
    · refine ⟨(cs.length, cs.length + 1), ?_⟩
      simp [World.freeze, Array.getElem?_modify, hb]
end
/-- What lies in memory, forgotten but for what is said of it. -/
theorem WC.toInv {α : Type} {Mo : Mode} {P : Program} {K : World} {n : Nat} {Q : Post} {e : Env} {H : List Assn} {code : Code} {P' : α → Prop} {M : α → List Assn} (a : α) (ha : P' a) (hM : ∀ w, Sat K w H → Sat K w (M a))
    (h : ∀ a, P' a → WC Mo P K n code Q e (M a)) : WC Mo P K n code Q e H := WC.sub (Sub.refl _) hM (h a ha)
theorem WC.toInvE {α : Type} {Mo : Mode} {P : Program} {K : World} {n : Nat} {Q : Post} {e : Env} {H : List Assn} {code : Code} (P' : α → Prop) (E : α → Env) (M : α → List Assn) (a : α) (ha : P' a) (hE : Sub (E a) e) (hM : ∀ w, Sat K w H → Sat K w (M a))
    (h : ∀ a, P' a → WC Mo P K n code Q (E a) (M a)) : WC Mo P K n code Q e H := WC.sub hE hM (h a ha)
end Go.Sl
