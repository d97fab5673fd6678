import Derived.Test.YtcedojacbhnbiaaGreatP29
namespace Go.Proofs.YtcedojacbhnbiaaGreat
open Go.Sl Go.RowKit
set_option linter.unusedVariables false
set_option linter.unusedSimpArgs false
set_option maxRecDepth 20000
abbrev CY := Option (Hd × Bool × List Nat)
abbrev Lm := Nat → Option (List Nat)
def Lm.put (m : Lm) (i : Nat) (v : Option (List Nat)) : Lm := fun k => if k = i then v else m k
theorem Bl {α : Type} (l : List α) (j i : Nat) (v d : α) : (l.set j v).getD i d = if i = j ∧ j < l.length then v else l.getD i d := by
  simp only [List.getD, List.getElem?_set]
  by_cases h : j = i
  · subst h
    by_cases hl : j < l.length
    · rw [if_pos rfl, if_pos hl, if_pos ⟨rfl, hl⟩]; rfl
    · rw [if_pos rfl, if_neg hl, if_neg (fun h => hl h.2), List.getElem?_eq_none (by omega)]
  · rw [if_neg h, if_neg (fun hh => h hh.1.symm)]
theorem pF (l : List (List Int)) (b : Int) (i : Nat) : (l.map (dR b)).getD i [] = dR b (l.getD i []) := by
  simp only [List.getD, List.getElem?_map]
  cases l[i]? <;> rfl
theorem kJ {b x : Int} {l : List Int} : x ∈ dR b l ↔ x ∈ l ∧ x ≠ b := by
  unfold dR
  rw [List.mem_filter]
  simp
theorem zo {α : Type} {l : List α} {i : Nat} {d : α} (h : i < l.length) : l.getD i d ∈ l := by
  simp only [List.getD, List.getElem?_eq_getElem h, Option.getD_some]
  exact List.getElem_mem h
namespace ak
def Stat (S : ak) (b : Int) : CY → Prop
  | none => S.q8 (b, 0)
  | some (h, true, d) => S.Holds b h d
  | some (h, false, _) => S.Part b h
structure CI (S : ak) (st : Int → CY) : Prop where
  aF : S.g.aF
  len : (S.next.length : Int) = S.g.bl
  few : ∀ k, S.Ll k
  stat : ∀ b, 0 ≤ b → b < S.g.bl → S.marked b = false → S.Stat b (st b)
theorem q8.same {S S' : ak} {k : Int × Int} (hg : S'.g = S.g) (hp : S'.pages k = S.pages k) (h : S.q8 k) : S'.q8 k := fun xs hx => by
  rw [hp] at hx; rw [hg]; exact h xs hx
theorem Stat.same {S S' : ak} {b : Int} (hg : S'.g = S.g) (hp : ∀ p, S'.pages (b, p) = S.pages (b, p)) : ∀ {s : CY}, S.Stat b s → S'.Stat b s
  | none, h => q8.same hg (hp 0) h
  | some (h, true, d), ⟨h1, h2, h3, h4⟩ => ⟨by rw [hg]; exact h1, h2, h3, fun p hp' => by
      unfold qI at hp'
      rw [hg] at hp' ⊢
      rw [hp]; exact h4 p hp'⟩
  | some (h, false, d), ⟨h1, h2, q, h3, h4⟩ => ⟨by rw [hg]; exact h1, by rw [hg, hp]; exact h2, q, by unfold qI; rw [hg]; exact h3, q8.same hg (hp q) h4⟩
theorem CI.step {S S' : ak} {st st' : Int → CY} {b : Int} (h : CI S st) (hr : Rest b S S') (hw : Wr S S') (hs : ∀ k, k ≠ b → st' k = st k) (hx : S'.marked b = false → S'.Stat b (st' b)) : CI S' st' := by
  refine ⟨by rw [hr.g]; exact h.aF, by rw [hr.len, hr.g]; exact h.len, hw.few hr.g h.few, fun c h1 h2 h3 => ?_⟩
  by_cases hc : c = b
  · subst hc; exact hx h3
  · rw [hs c hc]
    exact Stat.same hr.g (fun p => hr.pages (c, p) hc) (h.stat c h1 (by rw [← hr.g]; exact h2) (by rw [← hr.marked c hc]; exact h3))
structure Live (S : ak) (st : Int → CY) (b : Int) (h : Hd) (d : List Nat) : Prop where
  lo : 0 ≤ b
  hi : b < S.g.bl
  un : S.marked b = false
  st : st b = some (h, true, d)
theorem Live.back {S S' : ak} {st st' : Int → CY} {b c : Int} {h : Hd} {d : List Nat} (hr : Rest b S S') (hs : ∀ k, k ≠ b → st' k = st k) (hc : c ≠ b) (hl : Live S' st' c h d) : Live S st c h d :=
  ⟨hl.lo, by rw [← hr.g]; exact hl.hi, by rw [← hr.marked c hc]; exact hl.un, by rw [← hs c hc]; exact hl.st⟩
theorem Live.on {S S' : ak} {st st' : Int → CY} {b c : Int} {h : Hd} {d : List Nat} (hr : Rest b S S') (hs : ∀ k, k ≠ b → st' k = st k) (hc : c ≠ b) (hl : Live S st c h d) : Live S' st' c h d :=
  ⟨hl.lo, by rw [hr.g]; exact hl.hi, by rw [hr.marked c hc]; exact hl.un, by rw [hs c hc]; exact hl.st⟩
structure CM (av L : Nat) (S : ak) (st : Int → CY) (m : Lm) : Prop where
  ci : CI S st
  low : ∀ b h d, Live S st b h d → h.aI < L
  uniq : ∀ b c h h' d d', Live S st b h d → Live S st c h' d' → h.aI = h'.aI → h.num = h'.num → b = c
  none_ : ∀ i, i < av → m i = none → ∀ b h d, Live S st b h d → h.aI ≠ (i : Nat)
  some_ : ∀ i, i < av → ∀ v, m i = some v → ∃ b h, Live S st b h v ∧ h.aI = (i : Nat) ∧ ∀ c h' v', Live S st c h' v' → h'.aI = (i : Nat) → c ≠ b → h'.num < h.num
structure SI (av L B : Nat) (S : ak) (st : Int → CY) (T : St) (m : Lm) : Prop where
  ci : CI S st
  low : ∀ b h d, Live S st b h d → h.aI < L
  uniq : ∀ b c h h' d d', Live S st b h d → Live S st c h' d' → h.aI = h'.aI → h.num = h'.num → b = c
  dead : T.dead = false
  len : T.stands.length = av
  N8 : T.stale.length = av
  at_ : 0 ≤ T.at_ ∧ T.at_ < S.g.bl
  next : 1 ≤ T.next
  num : ∀ b, 0 ≤ b → b < S.g.bl → S.marked b = false → ∀ h w d, st b = some (h, w, d) → h.num < T.next
  long : ∀ l ∈ T.stale, l.length ≤ B
  none_ : ∀ i, i < av → m i = none → T.stands.getD i 0 = -1 ∧ ∀ b h d, Live S st b h d → h.aI ≠ (i : Nat)
  some_ : ∀ i, i < av → ∀ v, m i = some v → ∃ h, Live S st (T.stands.getD i 0) h v ∧ h.aI = (i : Nat) ∧ ∀ c h' v', Live S st c h' v' → h'.aI = (i : Nat) → c ≠ T.stands.getD i 0 → h'.num < h.num ∧ c ∈ T.stale.getD i []
  OC : ∀ i, i < av → ∀ x ∈ T.stale.getD i [], 0 ≤ x ∧ x < S.g.bl ∧ x ∉ T.stands
section
variable {av L B : Nat} {S S' : ak} {st st' : Int → CY} {T : St} {m : Lm} {b : Int}
theorem SI.away (hI : SI av L B S st T m) {i : Nat} (hi : i < av) (hb : b ∉ T.stands) : T.stands.getD i 0 ≠ b := fun e => hb (by rw [← e]; exact zo (by rw [hI.len]; exact hi))
theorem CM.gone (hI : SI av L B S st T m) (hr : Rest b S S') (hw : Wr S S') (hs : ∀ k, k ≠ b → st' k = st k) (hx : S'.marked b = false → S'.Stat b (st' b)) (hn : ∀ h d, ¬ Live S' st' b h d) (hb : b ∉ T.stands) : CM av L S' st' m := by
  have hne : ∀ {c h d}, Live S' st' c h d → c ≠ b := fun h e => hn _ _ (e ▸ h)
  refine ⟨hI.ci.step hr hw hs hx, fun c h d hl => hI.low c h d (hl.back hr hs (hne hl)), fun c c' h h' d d' k1 k2 => hI.uniq c c' h h' d d' (k1.back hr hs (hne k1)) (k2.back hr hs (hne k2)), fun i hi hm c h d hl => (hI.none_ i hi hm).2 c h d (hl.back hr hs (hne hl)), fun i hi v hm => ?_⟩
  obtain ⟨h, h1, h2, h3⟩ := hI.some_ i hi v hm
  exact ⟨_, h, h1.on hr hs (hI.away hi hb), h2, fun c h' v' k1 k2 k3 => (h3 c h' v' (k1.back hr hs (hne k1)) k2 k3).1⟩
theorem SI.fail (hI : SI av L B S st T m) (hr : Rest b S S') (hw : Wr S S') (hm : S'.marked b = true) (hb : b ∉ T.stands) {n : Int} (hn : T.next ≤ n) : SI av L B S' st { T.forget b with next := n } m := by
  have hc := CM.gone (st' := st) hI hr hw (fun _ _ => rfl) (fun h => by rw [hm] at h; cases h) (fun h d hl => by have := hl.un; rw [hm] at this; cases this) hb
  have hne : ∀ {c h d}, Live S' st c h d → c ≠ b := fun h e => by have := h.un; rw [e, hm] at this; cases this
  have hbk : ∀ {c h d}, Live S' st c h d → Live S st c h d := fun h => h.back hr (fun _ _ => rfl) (hne h)
  refine ⟨hc.ci, hc.low, hc.uniq, hI.dead, hI.len, by show (T.stale.map _).length = _; rw [List.length_map]; exact hI.N8, by rw [hr.g]; exact hI.at_, by show 1 ≤ n; have := hI.next; omega, fun c h1 h2 h3 h w d hs => ?_, fun l hl => ?_, fun i hi hm' => ⟨(hI.none_ i hi hm').1, hc.none_ i hi hm'⟩, fun i hi v hm' => ?_, fun i hi x hx => ?_⟩
  · by_cases hcb : c = b
    · subst hcb; rw [hm] at h3; cases h3
    · have := hI.num c h1 (by rw [← hr.g]; exact h2) (by rw [← hr.marked c hcb]; exact h3) h w d hs
      show h.num < n
      omega
  · obtain ⟨l', hl', rfl⟩ := List.mem_map.1 hl
    exact Nat.le_trans (List.length_filter_le _ _) (hI.long l' hl')
  · obtain ⟨h, h1, h2, h3⟩ := hI.some_ i hi v hm'
    refine ⟨h, h1.on hr (fun _ _ => rfl) (hI.away hi hb), h2, fun c h' v' k1 k2 k3 => ?_⟩
    obtain ⟨q1, q2⟩ := h3 c h' v' (hbk k1) k2 k3
    refine ⟨q1, ?_⟩
    show c ∈ (T.stale.map (dR b)).getD i []
    rw [pF]
    exact kJ.2 ⟨q2, hne k1⟩
  · have hx' : x ∈ (T.stale.map (dR b)).getD i [] := hx
    rw [pF] at hx'
    have := hI.OC i hi x (kJ.1 hx').1
    rw [hr.g]; exact this
theorem CM.put (hI : SI av L B S st T m) (hr : Rest b S S') (hw : Wr S S') (hs : ∀ k, k ≠ b → st' k = st k) {h : Hd} {d : List Nat} (hst : st' b = some (h, true, d)) (hH : S'.Holds b h d) (hb : b ∉ T.stands) (hin : 0 ≤ b ∧ b < S.g.bl) (Pm : S'.marked b = false)
    {i0 : Nat} (hi0 : i0 < av) (hL : i0 < L) (zX : h.aI = (i0 : Nat)) (CQ : h.num = T.next) : CM av L S' st' (m.put i0 (some d)) := by
  have RG : Live S' st' b h d := ⟨hin.1, by rw [hr.g]; exact hin.2, Pm, hst⟩
  have heq : ∀ {h' d'}, Live S' st' b h' d' → h' = h := fun hl => by
    have := hl.st
    rw [hst] at this
    injection this with this
    injection this with e1 _
    exact e1.symm
  have hlt : ∀ {c h' d'}, Live S' st' c h' d' → c ≠ b → h'.num < T.next := fun hl hc => by
    have h1 := hl.back hr hs hc
    exact hI.num _ h1.lo h1.hi h1.un _ _ _ h1.st
  refine ⟨hI.ci.step hr hw hs (fun _ => by rw [hst]; exact hH), fun c h' d' hl => ?_, fun c c' h1 h2 d1 d2 k1 k2 e1 e2 => ?_, fun i hi hm c h' d' hl => ?_, fun i hi v hm => ?_⟩
  · by_cases hc : c = b
    · subst hc; rw [heq hl, zX]; omega
    · exact hI.low c h' d' (hl.back hr hs hc)
  · by_cases hc : c = b
    · by_cases hc' : c' = b
      · rw [hc, hc']
      · subst hc
        have := hlt k2 hc'
        rw [heq k1] at e2; omega
    · by_cases hc' : c' = b
      · subst hc'
        have := hlt k1 hc
        rw [heq k2] at e2; omega
      · exact hI.uniq c c' h1 h2 d1 d2 (k1.back hr hs hc) (k2.back hr hs hc') e1 e2
  · by_cases hii : i = i0
    · unfold Lm.put at hm; rw [if_pos hii] at hm; cases hm
    · unfold Lm.put at hm
      rw [if_neg hii] at hm
      by_cases hc : c = b
      · subst hc; rw [heq hl, zX]; omega
      · exact (hI.none_ i hi hm).2 c h' d' (hl.back hr hs hc)
  · by_cases hii : i = i0
    · unfold Lm.put at hm
      rw [if_pos hii] at hm
      injection hm with hm
      subst hm
      refine ⟨b, h, RG, by rw [zX, hii], fun c h' v' k1 k2 k3 => ?_⟩
      rw [CQ]; exact hlt k1 k3
    · unfold Lm.put at hm
      rw [if_neg hii] at hm
      obtain ⟨hd, h1, h2, h3⟩ := hI.some_ i hi v hm
      refine ⟨_, hd, h1.on hr hs (hI.away hi hb), h2, fun c h' v' k1 k2 k3 => ?_⟩
      by_cases hc : c = b
      · subst hc; rw [heq k1, zX] at k2; omega
      · exact (h3 c h' v' (k1.back hr hs hc) k2 k3).1
theorem SI.put (hI : SI av L B S st T m) (hr : Rest b S S') (hw : Wr S S') (hs : ∀ k, k ≠ b → st' k = st k) {h : Hd} {d : List Nat} (hst : st' b = some (h, true, d)) (hH : S'.Holds b h d) (hb : b ∉ T.stands) (hin : 0 ≤ b ∧ b < S.g.bl) (Pm : S'.marked b = false)
    {i0 : Nat} (hi0 : i0 < av) (hL : i0 < L) (zX : h.aI = (i0 : Nat)) (CQ : h.num = T.next) : SI av L (B + 1) S' st' (((T.forget b).mark (i0 : Int)).done (i0 : Int) b S.g.bl) (m.put i0 (some d)) := by
  have hc := CM.put hI hr hw hs hst hH hb hin Pm hi0 hL zX CQ
  have heq : ∀ {h' d'}, Live S' st' b h' d' → h' = h := fun hl => by
    have := hl.st
    rw [hst] at this
    injection this with this
    injection this with e1 _
    exact e1.symm
  obtain ⟨T1, hT1⟩ : ∃ T1, T1 = T.forget b := ⟨_, rfl⟩
  have s1 : T1.stands = T.stands := by rw [hT1]; rfl
  have t1 : ∀ i, T1.stale.getD i [] = dR b (T.stale.getD i []) := fun i => by rw [hT1]; exact pF _ _ _
  have l1 : T1.stale.length = av := by rw [hT1]; show (T.stale.map _).length = _; rw [List.length_map]; exact hI.N8
  have o : T1.at' (i0 : Int) = T.stands.getD i0 0 := by unfold St.at'; rw [s1, Int.toNat_natCast]
  rw [← hT1]
  obtain ⟨T2, Fg⟩ : ∃ T2, T2 = T1.mark (i0 : Int) := ⟨_, rfl⟩
  have s2 : T2.stands = T.stands := by rw [Fg]; unfold St.mark; split <;> exact s1
  have d2 : T2.dead = false := by rw [Fg]; unfold St.mark; split <;> (rw [hT1]; exact hI.dead)
  have n2 : T2.next = T.next := by rw [Fg]; unfold St.mark; split <;> (rw [hT1]; rfl)
  have l2 : T2.stale.length = av := by
    rw [Fg]; unfold St.mark
    split
    · show (T1.stale.set _ _).length = _; rw [List.length_set]; exact l1
    · exact l1
  have t2 : ∀ i, T2.stale.getD i [] = if i = i0 ∧ 0 ≤ T.stands.getD i0 0 then dR b (T.stale.getD i []) ++ [T.stands.getD i0 0] else dR b (T.stale.getD i []) := fun i => by
    rw [Fg]
    unfold St.mark
    rw [o]
    split
    · rename_i h0
      show (T1.stale.set (i0 : Int).toNat (T1.stale.getD (i0 : Int).toNat [] ++ [T.stands.getD i0 0])).getD i [] = _
      rw [Int.toNat_natCast, Bl, l1, t1, t1]
      by_cases hi : i = i0
      · subst hi; rw [if_pos ⟨rfl, hi0⟩, if_pos ⟨rfl, h0⟩]
      · rw [if_neg (fun h => hi h.1), if_neg (fun h => hi h.1)]
    · rename_i h0
      rw [t1, if_neg (fun h => h0 h.2)]
  rw [← Fg]
  have g3 : ∀ i, (T2.done (i0 : Int) b S.g.bl).stands.getD i 0 = if i = i0 then b else T.stands.getD i 0 := fun i => by
    show (T2.stands.set (i0 : Int).toNat b).getD i 0 = _
    rw [Int.toNat_natCast, Bl, s2, hI.len]
    by_cases hi : i = i0
    · rw [if_pos ⟨hi, hi0⟩, if_pos hi]
    · rw [if_neg (fun h => hi h.1), if_neg hi]
  have hmem : ∀ x, x ∈ (T2.done (i0 : Int) b S.g.bl).stands → x = b ∨ ∃ i, i < av ∧ i ≠ i0 ∧ x = T.stands.getD i 0 := fun x hx => by
    obtain ⟨i, hi, e⟩ := List.getElem_of_mem hx
    have hil : i < av := by
      have h1 : i < (T2.stands.set (i0 : Int).toNat b).length := hi
      rw [List.length_set, s2, hI.len] at h1; exact h1
    have e2 : (T2.done (i0 : Int) b S.g.bl).stands.getD i 0 = x := by simp only [List.getD, List.getElem?_eq_getElem hi, Option.getD_some]; exact e
    rw [g3] at e2
    by_cases h0 : i = i0
    · rw [if_pos h0] at e2; exact .inl e2.symm
    · rw [if_neg h0] at e2; exact .inr ⟨i, hil, h0, e2.symm⟩
  have OU : ∀ i j, i < av → j < av → i ≠ j → 0 ≤ T.stands.getD i 0 → T.stands.getD i 0 ≠ T.stands.getD j 0 := fun i j hi hj hij h0 e => by
    cases MN : m i with
    | none => have := (hI.none_ i hi MN).1; omega
    | some v =>
      cases QF : m j with
      | none => have := (hI.none_ j hj QF).1; omega
      | some v' =>
        obtain ⟨h1, k1, k2, _⟩ := hI.some_ i hi v MN
        obtain ⟨h2, q1, q2, _⟩ := hI.some_ j hj v' QF
        have e1 := k1.st
        rw [e, q1.st] at e1
        injection e1 with e1
        injection e1 with e1 _
        rw [← e1, q2] at k2
        omega
  have hgb := hI.ci.aF
  unfold Geo.aF at hgb
  refine ⟨hc.ci, hc.low, hc.uniq, d2, ?_, l2, ?_, ?_, fun c h1 h2 h3 h' w d' hs' => ?_, fun l hl => ?_, fun i hi hm' => ⟨?_, hc.none_ i hi hm'⟩, fun i hi v hm' => ?_, fun i hi x hx => ?_⟩
  · show (T2.stands.set _ _).length = _; rw [List.length_set, s2, hI.len]
  · rw [hr.g]
    exact ⟨Int.emod_nonneg _ (by omega), Int.emod_lt_of_pos _ (by omega)⟩
  · show 1 ≤ T2.next + 1; rw [n2]; have := hI.next; omega
  · show h'.num < T2.next + 1
    rw [n2]
    by_cases hcb : c = b
    · subst hcb
      rw [hst] at hs'
      injection hs' with hs'
      injection hs' with e1 _
      rw [← e1, CQ]; omega
    · have := hI.num c h1 (by rw [← hr.g]; exact h2) (by rw [← hr.marked c hcb]; exact h3) h' w d' (by rw [← hs c hcb]; exact hs')
      omega
  · have hl' : l ∈ T2.stale := hl
    obtain ⟨i, hi, e⟩ := List.getElem_of_mem hl'
    have e2 : T2.stale.getD i [] = l := by simp only [List.getD, List.getElem?_eq_getElem hi, Option.getD_some]; exact e
    have h4 : (dR b (T.stale.getD i [])).length ≤ B := Nat.le_trans (List.length_filter_le _ _) (hI.long _ (zo (by rw [hI.N8]; omega)))
    rw [← e2, t2]
    split
    · rw [List.length_append]; simp only [List.length_singleton]; omega
    · omega
  · rw [g3]
    by_cases hii : i = i0
    · unfold Lm.put at hm'; rw [if_pos hii] at hm'; cases hm'
    · rw [if_neg hii]
      unfold Lm.put at hm'
      rw [if_neg hii] at hm'
      exact (hI.none_ i hi hm').1
  · rw [g3]
    by_cases hii : i = i0
    · subst hii
      unfold Lm.put at hm'
      rw [if_pos rfl] at hm'
      injection hm' with hm'
      subst hm'
      rw [if_pos rfl]
      refine ⟨h, ⟨hin.1, by rw [hr.g]; exact hin.2, Pm, hst⟩, zX, fun c h' v' k1 k2 k3 => ?_⟩
      have kb := k1.back hr hs k3
      refine ⟨by rw [CQ]; exact hI.num _ kb.lo kb.hi kb.un _ _ _ kb.st, ?_⟩
      show c ∈ T2.stale.getD i []
      rw [t2]
      cases MN : m i with
      | none => exact absurd k2 ((hI.none_ i hi MN).2 c h' v' kb)
      | some v =>
        obtain ⟨hd, q1, q2, q3⟩ := hI.some_ i hi v MN
        rw [if_pos ⟨rfl, q1.lo⟩]
        by_cases hco : c = T.stands.getD i 0
        · exact List.mem_append_right _ (List.mem_singleton.2 hco)
        · exact List.mem_append_left _ (kJ.2 ⟨(q3 c h' v' kb k2 hco).2, k3⟩)
    · rw [if_neg hii]
      unfold Lm.put at hm'
      rw [if_neg hii] at hm'
      obtain ⟨hd, q1, q2, q3⟩ := hI.some_ i hi v hm'
      refine ⟨hd, q1.on hr hs (hI.away hi hb), q2, fun c h' v' k1 k2 k3 => ?_⟩
      have hcb : c ≠ b := fun e => by subst e; rw [heq k1, zX] at k2; omega
      obtain ⟨q4, q5⟩ := q3 c h' v' (k1.back hr hs hcb) k2 k3
      refine ⟨q4, ?_⟩
      show c ∈ T2.stale.getD i []
      rw [t2, if_neg (fun h => hii h.1)]
      exact kJ.2 ⟨q5, hcb⟩
  · have hx' : x ∈ T2.stale.getD i [] := hx
    rw [t2] at hx'
    rw [hr.g]
    have old : x ∈ dR b (T.stale.getD i []) → 0 ≤ x ∧ x < S.g.bl ∧ x ∉ (T2.done (i0 : Int) b S.g.bl).stands := fun h4 => by
      obtain ⟨h5, h6⟩ := kJ.1 h4
      obtain ⟨h7, h8, h9⟩ := hI.OC i hi x h5
      refine ⟨h7, h8, fun h10 => ?_⟩
      rcases hmem x h10 with h11 | ⟨j, hj, _, h11⟩
      · exact h6 h11
      · exact h9 (by rw [h11]; exact zo (by rw [hI.len]; exact hj))
    split at hx'
    · rename_i h4
      rcases List.mem_append.1 hx' with h5 | h5
      · exact old h5
      · have h6 := List.mem_singleton.1 h5
        subst h6
        cases MN : m i0 with
        | none => have := (hI.none_ i0 hi0 MN).1; omega
        | some v =>
          obtain ⟨hd, q1, _, _⟩ := hI.some_ i0 hi0 v MN
          refine ⟨q1.lo, q1.hi, fun h10 => ?_⟩
          rcases hmem _ h10 with h11 | ⟨j, hj, hj0, h11⟩
          · exact hI.away hi0 hb h11
          · exact OU i0 j hi0 hj (fun e => hj0 e.symm) h4.2 h11
    · exact old hx'
end
end ak
namespace ak
def IX (S : ak) (st : Int → CY) (N : Int) : Prop := ∀ b, 0 ≤ b → b < S.g.bl → S.marked b = false → ∀ h w d, st b = some (h, w, d) → h.num < N
theorem IX.mono {S : ak} {st : Int → CY} {N N' : Int} (h : IX S st N) (hn : N ≤ N') : IX S st N' := fun b h1 h2 h3 hd w d hs => by have := h b h1 h2 h3 hd w d hs; omega
section
variable {av L B : Nat} {S S' : ak} {st st' : Int → CY} {T : St} {m : Lm} {b : Int}
theorem SI.ready (hI : SI av L B S st T m) {i : Nat} (hi : i < av) : T.ready (i : Int) = 0 := by
  unfold St.ready
  rw [hI.dead, if_neg Bool.false_ne_true, hI.len, if_neg (by omega)]
theorem SI.at' (hI : SI av L B S st T m) (i : Nat) : T.at' (i : Int) = T.stands.getD i 0 := by unfold St.at'; rw [Int.toNat_natCast]
theorem SI.IK (hI : SI av L B S st T m) {i : Nat} (hi : i < av) (hm : m i = none) : fC S T (i : Int) = (⟨5, [], 0⟩, T) ∧ T.at' (i : Int) < 0 := by
  have h1 := (hI.none_ i hi hm).1
  have h2 : T.at' (i : Int) < 0 := by rw [hI.at', h1]; decide
  refine ⟨?_, h2⟩
  unfold fC
  rw [hI.ready hi, if_neg (fun h => h rfl), if_pos h2]
theorem NS {g : Geo} {i0 : Nat} {d : List Nat} {n : Int} (hd : (d.length : Int) ≤ g.cap) (hi : i0 < 64) (hn : 1 ≤ n ∧ n ≤ 1000000000) : Hd.may g ⟨(i0 : Nat), (d.length : Nat), n⟩ = true := by
  unfold Hd.may Geo.fits
  simp only [Bool.and_eq_true, decide_eq_true_eq]
  exact ⟨⟨⟨⟨⟨by omega, hd⟩, by omega⟩, by omega⟩, hn.1⟩, hn.2⟩
theorem ES {i0 : Nat} (hi0 : i0 < av) (hL : i0 < L) (h64 : i0 < 64) {d : List Nat} (h8 : Small 256 d) : ∀ (cs : List Int) (S : ak) (T : St), SI av L B S st T m → S.up = true → (d.length : Int) ≤ S.g.cap → cs.Nodup → (∀ b ∈ cs, 0 ≤ b ∧ b < S.g.bl ∧ S.marked b = false ∧ b ∉ T.stands) → T.next + cs.length ≤ 1000000000 →
    (gq (i0 : Int) d cs S T).1.g = S.g ∧ (gq (i0 : Int) d cs S T).1.weak = S.weak ∧ Wr S (gq (i0 : Int) d cs S T).1 ∧ (S.left = 0 → (gq (i0 : Int) d cs S T).1.left = 0 ∧ (gq (i0 : Int) d cs S T).2.2 ≠ some 70) ∧ (gq (i0 : Int) d cs S T).2.1.next ≤ T.next + cs.length + 1 ∧
    ((gq (i0 : Int) d cs S T).2.2 ≠ some 70 → ∀ c, (gq (i0 : Int) d cs S T).1.marked c = true → S.marked c = true ∨ S.weak c = true) ∧
    (((gq (i0 : Int) d cs S T).2.2 = none ∧ (gq (i0 : Int) d cs S T).1.up = true ∧ SI av L B (gq (i0 : Int) d cs S T).1 st (gq (i0 : Int) d cs S T).2.1 m ∧ ∀ b ∈ cs, S.weak b = true) ∨
     ((gq (i0 : Int) d cs S T).2.2 = some 0 ∧ (gq (i0 : Int) d cs S T).1.up = true ∧ ∃ st', SI av L (B + 1) (gq (i0 : Int) d cs S T).1 st' (gq (i0 : Int) d cs S T).2.1 (m.put i0 (some d))) ∨
     ((gq (i0 : Int) d cs S T).2.2 = some 70 ∧ (gq (i0 : Int) d cs S T).1.up = false ∧ ∃ st', IX (gq (i0 : Int) d cs S T).1 st' (T.next + cs.length + 1) ∧ (CM av L (gq (i0 : Int) d cs S T).1 st' m ∨ CM av L (gq (i0 : Int) d cs S T).1 st' (m.put i0 (some d)))))
  | [], S, T, hI, hu, hd, hnd, hcs, hnx => ⟨rfl, rfl, Wr.refl S, fun h => ⟨h, by intro h; cases h⟩, by show T.next ≤ T.next + (0 : Nat) + 1; omega, fun _ c h => .inl h, .inl ⟨rfl, hu, hI, fun b hb => by cases hb⟩⟩
  | b :: bs, S, T, hI, hu, hd, hnd, hcs, hnx => by
    obtain ⟨hb1, hb2, hb3, hb4⟩ := hcs b (.head _)
    have hnb := hI.next
    rw [List.length_cons] at hnx ⊢
    obtain ⟨w1, w2, w3, w4, w5⟩ := FV (num := T.next) (aI := (i0 : Int)) hI.ci.aF hu ⟨hb1, hb2⟩ hb3 hI.ci.len h8 (NS hd h64 (by omega))
    obtain ⟨W, hW⟩ : ∃ W, W = bL S T.next b (i0 : Int) d := ⟨_, rfl⟩
    rw [← hW] at w1 w2 w3 w4 w5
    have hc1 : zI (i0 : Int) d S T b = if W.2 = 72 then (W.1, { T.forget b with next := min (T.next + 1) 1000000001 }, if 1000000000 < min (T.next + 1) 1000000001 then some 6 else none) else if W.2 ≠ 0 then (W.1, (T.forget b).told W.2, some W.2) else (W.1, ((T.forget b).mark (i0 : Int)).done (i0 : Int) b S.g.bl, some 0) := by
      unfold zI
      rw [← hW]
    have hmk : W.1.marked b = false ∨ W.2 = 72 → ∀ c, W.1.marked c = true → S.marked c = true ∨ S.weak c = true := fun h c hc => by
      by_cases hcb : c = b
      · subst hcb
        rcases h with h | h
        · rw [h] at hc; cases hc
        · cases hwk : S.weak c with
          | true => exact .inr rfl
          | false => exact absurd h (w4 hwk)
      · rw [w1.marked c hcb] at hc; exact .inl hc
    rcases w5 with ⟨a1, a2, a3, a4⟩ | ⟨a1, a2, a3⟩ | ⟨a1, a2, a3⟩
    · have e1 : gq (i0 : Int) d (b :: bs) S T = (W.1, ((T.forget b).mark (i0 : Int)).done (i0 : Int) b S.g.bl, some 0) := by
        have hc2 : zI (i0 : Int) d S T b = (W.1, ((T.forget b).mark (i0 : Int)).done (i0 : Int) b S.g.bl, some 0) := by
          rw [hc1, if_neg (show ¬ W.2 = 72 by rw [a1]; exact wB), if_neg (show ¬ W.2 ≠ 0 from fun h => h a1)]
        rw [gq, hc2, if_neg (by intro h; cases h)]
      rw [e1]
      obtain ⟨st', hst'⟩ : ∃ st' : Int → CY, st' = fun k => if k = b then some (⟨(i0 : Nat), (d.length : Nat), T.next⟩, true, d) else st k := ⟨_, rfl⟩
      refine ⟨w1.g, w1.weak, w2, fun h => ⟨(w3 h).1, by intro h; cases h⟩, ?_, fun _ => hmk (.inl a3), .inr (.inl ⟨rfl, a2, st', ?_⟩)⟩
      · have : (((T.forget b).mark (i0 : Int)).done (i0 : Int) b S.g.bl).next = T.next + 1 := by
          show ((T.forget b).mark (i0 : Int)).next + 1 = _
          unfold St.mark
          split <;> rfl
        show (((T.forget b).mark (i0 : Int)).done (i0 : Int) b S.g.bl).next ≤ _
        omega
      · exact hI.put w1 w2 (fun k hk => by rw [hst']; exact if_neg hk) (by rw [hst']; exact if_pos rfl) a4 hb4 ⟨hb1, hb2⟩ a3 hi0 hL rfl rfl
    · have hmn : min (T.next + 1) 1000000001 = T.next + 1 := by omega
      have e1 : gq (i0 : Int) d (b :: bs) S T = gq (i0 : Int) d bs W.1 { T.forget b with next := T.next + 1 } := by
        have hc2 : zI (i0 : Int) d S T b = (W.1, { T.forget b with next := T.next + 1 }, none) := by
          rw [hc1, if_pos a1, hmn, if_neg (show ¬ 1000000000 < T.next + 1 by omega)]
        rw [gq, hc2, if_pos rfl]
      rw [e1]
      have hI' := hI.fail w1 w2 a3 hb4 (n := T.next + 1) (by omega)
      have J7 := List.nodup_cons.1 hnd
      obtain ⟨r1, r2, r3, r4, r5, r6, r7⟩ := ES hi0 hL h64 h8 bs W.1 { T.forget b with next := T.next + 1 } hI' a2 (by rw [w1.g]; exact hd) J7.2 (fun c hc => by
        obtain ⟨k1, k2, k3, k4⟩ := hcs c (.tail _ hc)
        exact ⟨k1, by rw [w1.g]; exact k2, by rw [w1.marked c (fun e => J7.1 (by rw [← e]; exact hc))]; exact k3, k4⟩) (by show T.next + 1 + _ ≤ _; omega)
      have Sz : (gq (i0 : Int) d bs W.1 { T.forget b with next := T.next + 1 }).2.1.next ≤ T.next + 1 + (bs.length : Int) + 1 := r5
      refine ⟨r1.trans w1.g, r2.trans w1.weak, w2.trans r3, fun h => r4 (w3 h).1, by omega, fun h c hc => ?_, ?_⟩
      · rcases r6 h c hc with h1 | h1
        · exact hmk (.inr a1) c h1
        · rw [w1.weak] at h1; exact .inr h1
      · rcases r7 with ⟨q1, q2, q3, q4⟩ | q | q
        · refine .inl ⟨q1, q2, q3, fun c hc => ?_⟩
          rcases List.mem_cons.1 hc with rfl | hc
          · cases hwk : S.weak c with
            | true => rfl
            | false => exact absurd a1 (w4 hwk)
          · have := q4 c hc
            rw [w1.weak] at this; exact this
        · exact .inr (.inl q)
        · obtain ⟨q1, q2, st', q3, q4⟩ := q
          exact .inr (.inr ⟨q1, q2, st', q3.mono (by show T.next + 1 + (bs.length : Int) + 1 ≤ _; omega), q4⟩)
    · have e1 : gq (i0 : Int) d (b :: bs) S T = (W.1, (T.forget b).told W.2, some 70) := by
        have hc2 : zI (i0 : Int) d S T b = (W.1, (T.forget b).told W.2, some 70) := by
          rw [hc1, if_neg (show ¬ W.2 = 72 by rw [a1]; exact qW), if_pos (show W.2 ≠ 0 by rw [a1]; decide), a1]
        rw [gq, hc2, if_neg (by intro h; cases h)]
      rw [e1]
      refine ⟨w1.g, w1.weak, w2, fun h => absurd a1 (w3 h).2, by show T.next ≤ _; omega, fun h => absurd rfl h, .inr (.inr ⟨rfl, a2, ?_⟩)⟩
      have gone : ∀ st' : Int → CY, (∀ k, k ≠ b → st' k = st k) → (W.1.marked b = false → W.1.Stat b (st' b)) → (∀ h d, ¬ Live W.1 st' b h d) → CM av L W.1 st' m := fun st' h1 h2 h3 => CM.gone hI w1 w2 h1 h2 h3 hb4
      have nb : ∀ st' : Int → CY, (∀ k, k ≠ b → st' k = st k) → (∀ h w d, W.1.marked b = false → st' b = some (h, w, d) → h.num ≤ T.next) → IX W.1 st' (T.next + ((bs.length + 1 : Nat) : Int) + 1) := fun st' h1 h2 c k1 k2 k3 h w d hs => by
        by_cases hc : c = b
        · subst hc; have := h2 h w d k3 hs; omega
        · have := hI.num c k1 (by rw [← w1.g]; exact k2) (by rw [← w1.marked c hc]; exact k3) h w d (by rw [← h1 c hc]; exact hs)
          omega
      rcases a3 with a3 | ⟨a3, a4⟩
      · exact ⟨st, nb st (fun _ _ => rfl) (fun h w d h1 => by rw [a3] at h1; cases h1), .inl (gone st (fun _ _ => rfl) (fun h => by rw [a3] at h; cases h) (fun h d hl => by have := hl.un; rw [a3] at this; cases this))⟩
      · rcases a4 with ⟨a4, a5⟩ | a4 | a4 | a4
        · refine ⟨st, nb st (fun _ _ => rfl) (fun h w d _ h1 => by have := hI.num b hb1 hb2 hb3 h w d h1; omega), .inl ?_⟩
          have hpg : ∀ p, W.1.pages (b, p) = S.pages (b, p) := fun p => by rw [a4]
          have hci := hI.ci.step w1 w2 (st' := st) (fun _ _ => rfl) (fun _ => Stat.same w1.g hpg (hI.ci.stat b hb1 hb2 hb3))
          have hbk : ∀ {c h d}, Live W.1 st c h d → Live S st c h d := fun {c h d} hl => by
            by_cases hcb : c = b
            · subst hcb; exact ⟨hb1, hb2, hb3, hl.st⟩
            · exact hl.back w1 (fun _ _ => rfl) hcb
          refine ⟨hci, fun c h d hl => hI.low c h d (hbk hl), fun c c' h h' d d' k1 k2 => hI.uniq c c' h h' d d' (hbk k1) (hbk k2), fun i hi hm c h d hl => (hI.none_ i hi hm).2 c h d (hbk hl), fun i hi v hm => ?_⟩
          obtain ⟨h, h1, h2, h3⟩ := hI.some_ i hi v hm
          exact ⟨_, h, h1.on w1 (fun _ _ => rfl) (hI.away hi hb4), h2, fun c h' v' k1 k2 k3 => (h3 c h' v' (hbk k1) k2 k3).1⟩
        · refine ⟨fun k => if k = b then none else st k, nb _ (fun k hk => if_neg hk) (fun h w d _ h1 => by rw [if_pos rfl] at h1; cases h1), .inl (gone _ (fun k hk => if_neg hk) (fun _ => ?_) (fun h d hl => ?_))⟩
          · rw [if_pos rfl]; exact a4
          · have := hl.st
            rw [if_pos rfl] at this; cases this
        · refine ⟨fun k => if k = b then some (⟨(i0 : Nat), (d.length : Nat), T.next⟩, false, d) else st k, nb _ (fun k hk => if_neg hk) (fun h w d _ h1 => by rw [if_pos rfl] at h1; injection h1 with h1; injection h1 with h1 _; rw [← h1]; exact Int.le_refl _), .inl (gone _ (fun k hk => if_neg hk) (fun _ => ?_) (fun h d hl => ?_))⟩
          · rw [if_pos rfl]; exact a4
          · have := hl.st
            rw [if_pos rfl] at this
            injection this with this
            injection this with _ this
            injection this with this _
            cases this
        · exact ⟨fun k => if k = b then some (⟨(i0 : Nat), (d.length : Nat), T.next⟩, true, d) else st k, nb _ (fun k hk => if_neg hk) (fun h w d _ h1 => by rw [if_pos rfl] at h1; injection h1 with h1; injection h1 with h1 _; rw [← h1]; exact Int.le_refl _), .inr (CM.put hI w1 w2 (fun k hk => if_neg hk) (if_pos rfl) a4 hb4 ⟨hb1, hb2⟩ a3 hi0 hL rfl rfl)⟩
end
end ak
theorem Dj (x y : Int) : rU x y < 0 ↔ x < y := by
  unfold rU
  split
  · simp; assumption
  · split <;> simp <;> omega
theorem yQ (x y : Fd) : kG x y < 0 ↔ x.hd.num < y.hd.num ∨ (x.hd.num = y.hd.num ∧ y.block < x.block) := by
  have h1 := Dj x.hd.num y.hd.num
  have h2 := Dj y.block x.block
  unfold kG ME
  by_cases h : rU x.hd.num y.hd.num = 0
  · rw [if_neg (fun hh => hh h), h2]
    have : x.hd.num = y.hd.num := by
      unfold rU at h
      split at h
      · exact absurd h (by decide)
      · split at h
        · exact absurd h (by decide)
        · omega
    omega
  · rw [if_pos h, h1]
    have : x.hd.num ≠ y.hd.num := fun e => h (by unfold rU; rw [e]; simp)
    omega
theorem Gl (ys : List Fd) : (bX (ltOf kG) ys).Pairwise (fun a b => ltOf kG b a = false) := by
  refine Ce (fun a b c h1 h2 => ?_) (fun a b h => ?_) ys
  · unfold ltOf at *
    rw [decide_eq_false_iff_not, yQ] at *
    omega
  · unfold ltOf at *
    rw [decide_eq_true_eq] at h
    rw [decide_eq_false_iff_not]
    rw [yQ] at *
    omega
theorem EY {fs : List Fd} : ∀ k, k < fs.length → ∀ j, j ≤ k → (fs.getD j fd0).hd.num ≤ (ou zn fs k).hd.num
  | 0, _, j, hj => by
    rw [show j = 0 by omega]; exact Int.le_refl _
  | k + 1, hk, j, hj => by
    have ih := fun i hi => EY (fs := fs) k (by omega) i hi
    have hcm : ∀ x y : Fd, 0 < zn x y ↔ y.hd.num < x.hd.num := fun x y => by
      unfold zn rU
      split
      · simp; omega
      · split <;> simp <;> omega
    rw [ou]
    by_cases hc : 0 < zn (fs.getD (k + 1) fd0) (ou zn fs k)
    · rw [if_pos hc]
      have := (hcm _ _).1 hc
      by_cases hjk : j = k + 1
      · rw [hjk]; exact Int.le_refl _
      · have := ih j (by omega); omega
    · rw [if_neg hc]
      have h1 : ¬ (ou zn fs k).hd.num < (fs.getD (k + 1) fd0).hd.num := fun h => hc ((hcm _ _).2 h)
      by_cases hjk : j = k + 1
      · rw [hjk]; omega
      · exact ih j (by omega)
theorem JK {fs : List Fd} : ∀ x ∈ fs, x.hd.num < jR fs := fun x hx => by
  obtain ⟨j, hj, rfl⟩ := List.getElem_of_mem hx
  have := EY (fs := fs) (fs.length - 1) (by omega) j (by omega)
  unfold jR
  rw [if_neg (by omega)]
  simp only [List.getD, List.getElem?_eq_getElem hj, Option.getD_some] at this
  omega
namespace ak
section
variable {av L : Nat} {S : ak} {st : Int → CY} {m : Lm}
theorem mQ {S : ak} (hu : S.up = true) : ∀ (k : Nat) (b : Int), b ∈ S.dz k ↔ 0 ≤ b ∧ b < (k : Int) ∧ S.marked b = false
  | 0, b => by
    simp [dz]; omega
  | k + 1, b => by
    have ih := mQ hu k b
    have hb : S.bad (k : Int) = S.marked (k : Int) := by unfold bad; rw [hu]; rfl
    rw [dz, hu, hb]
    cases hm : S.marked (k : Int) with
    | true =>
      rw [if_neg (by decide), ih]
      constructor
      · rintro ⟨h1, h2, h3⟩; exact ⟨h1, by omega, h3⟩
      · rintro ⟨h1, h2, h3⟩
        refine ⟨h1, ?_, h3⟩
        have : b ≠ (k : Int) := fun e => by rw [e, hm] at h3; cases h3
        omega
    | false =>
      rw [if_pos (by decide), List.mem_append, ih, List.mem_singleton]
      constructor
      · rintro (⟨h1, h2, h3⟩ | rfl)
        · exact ⟨h1, by omega, h3⟩
        · exact ⟨by omega, by omega, hm⟩
      · rintro ⟨h1, h2, h3⟩
        by_cases e : b = (k : Int)
        · exact .inr e
        · exact .inl ⟨h1, by omega, h3⟩
theorem l5 (S : ak) : ∀ k, (S.dz k).Pairwise (· < ·)
  | 0 => List.Pairwise.nil
  | k + 1 => by
    rw [dz]
    split
    · refine List.pairwise_append.2 ⟨l5 S k, List.pairwise_singleton _ _, fun a ha b hb => ?_⟩
      rw [List.mem_singleton.1 hb]
      exact (kK S k a ha).2.1
    · exact l5 S k
theorem xR (hc : CI S st) (hu : S.up = true) {b : Int} (h0 : 0 ≤ b) (h1 : b < S.g.bl) (hm : S.marked b = false) : S.gJ b = (st b).map fun x => ⟨b, x.1, x.2.1⟩ := by
  have h2 := hc.stat b h0 h1 hm
  have hf : ∀ p : Nat, S.Ll (b, (p : Int)) := fun p => hc.few _
  cases hs : st b with
  | none => rw [hs] at h2; exact Jc hc.aF hf h2
  | some x =>
    obtain ⟨h, w, d⟩ := x
    rw [hs] at h2
    cases w with
    | true => exact scan_holds hc.aF hu ⟨h0, h1⟩ hm hf h2
    | false => exact IB hc.aF hu ⟨h0, h1⟩ hm hf h2
theorem yD (hc : CI S st) (hu : S.up = true) (x : Fd) : x ∈ S.bN ↔ 0 ≤ x.block ∧ x.block < S.g.bl ∧ S.marked x.block = false ∧ ∃ d, st x.block = some (x.hd, x.whole, d) := by
  have hgb := hc.aF
  unfold Geo.aF at hgb
  unfold bN good
  rw [List.mem_filterMap]
  constructor
  · rintro ⟨b, hb, hs⟩
    obtain ⟨h1, h2, h3⟩ := (mQ hu _ _).1 hb
    rw [xR hc hu h1 (by omega) h3] at hs
    cases hst : st b with
    | none => rw [hst] at hs; cases hs
    | some y =>
      rw [hst] at hs
      injection hs with hs
      subst hs
      exact ⟨h1, by show b < _; omega, h3, y.2.2, hst⟩
  · rintro ⟨h1, h2, h3, d, hst⟩
    refine ⟨x.block, (mQ hu _ _).2 ⟨h1, by omega, h3⟩, ?_⟩
    rw [xR hc hu h1 h2 h3, hst]; rfl
theorem Fv (hc : CI S st) (hu : S.up = true) : S.bN.Nodup := by
  have h1 : S.bN.Pairwise (fun x y => x.block < y.block) := by
    unfold bN
    rw [List.pairwise_filterMap]
    refine (l5 S _).imp (fun {a b} hab x hx y hy => ?_)
    rw [(oG hc.aF hx).1, (oG hc.aF hy).1]
    exact hab
  exact h1.imp fun {a b} h e => by rw [e] at h; omega
theorem JF {l : List Fd} {x : Fd} (h : l.getLast? = some x) : lastB l = x.block := by unfold lastB; rw [h]
theorem zK {fs : List Fd} {i : Nat} (hi : i < av) : (fT av fs).getD i 0 = lastB (bX (ltOf kG) (fs.filter (jh i))) := by
  unfold fT fE
  simp only [List.getD, List.getElem?_map, List.getElem?_range hi, Option.map_some, Option.getD_some]
theorem AY {fs : List Fd} {i : Nat} (hi : i < av) : (kF av fs).getD i [] = (bX (ltOf KJ) (bX (ltOf kG) (fs.filter (jh i))).dropLast).map Fd.block := by
  unfold kF fE
  simp only [List.getD, List.getElem?_map, List.getElem?_range hi, Option.map_some, Option.getD_some]
theorem G8 (hM : CM av L S st m) (hu : S.up = true) : SI av L 256 S st (iQ S av) m := by
  have hc := hM.ci
  have hgb := hc.aF
  unfold Geo.aF at hgb
  have hsf := vT (S := S) hc.aF
  have hnb := EK (fs := S.bN) (fun x hx => Hd.Gc (hsf x hx).2)
  have hmem : ∀ i x, x ∈ bX (ltOf kG) (S.bN.filter (jh i)) ↔ ∃ d, Live S st x.block x.hd d ∧ x.whole = true ∧ x.hd.aI = (i : Nat) := fun i x => by
    rw [p8, List.mem_filter, yD hc hu]
    unfold jh
    rw [Bool.and_eq_true, decide_eq_true_eq]
    constructor
    · rintro ⟨⟨h1, h2, h3, d, h4⟩, h5, h6⟩
      exact ⟨d, ⟨h1, h2, h3, by rw [h4, h5]⟩, h5, h6⟩
    · rintro ⟨d, h1, h2, h3⟩
      exact ⟨⟨h1.lo, h1.hi, h1.un, d, by rw [h1.st, h2]⟩, h2, h3⟩
  have hnd : ∀ i, (bX (ltOf kG) (S.bN.filter (jh i))).Nodup := fun i => (yY _).nodup_iff.2 ((Fv hc hu).filter _)
  have PZ : ∀ i, (iQ S av).stale.getD i [] = (kF av S.bN).getD i [] := fun i => rfl
  have ML : ∀ i, i < av → ∀ x : Int, x ∈ (iQ S av).stale.getD i [] ↔ ∃ z, z ∈ (bX (ltOf kG) (S.bN.filter (jh i))).dropLast ∧ z.block = x := fun i hi x => by
    rw [PZ, AY hi, List.mem_map]
    constructor
    · rintro ⟨z, hz, e⟩; exact ⟨z, p8.1 hz, e⟩
    · rintro ⟨z, hz, e⟩; exact ⟨z, p8.2 hz, e⟩
  have hsame : ∀ {b h h' d d'}, Live S st b h d → Live S st b h' d' → h = h' := fun k1 k2 => by
    have := k1.st
    rw [k2.st] at this
    injection this with this
    injection this with e _
    exact e.symm
  have hpick : ∀ i, i < av → ∀ x, (bX (ltOf kG) (S.bN.filter (jh i))).getLast? = some x → (iQ S av).stands.getD i 0 = x.block := fun i hi x hx => by
    show (fT av S.bN).getD i 0 = _
    rw [zK hi, JF hx]
  refine ⟨hc, hM.low, hM.uniq, rfl, fF _ _, lV _ _, ⟨Int.le_refl _, by show (0 : Int) < _; omega⟩, hnb.1, fun b h1 h2 h3 h w d hs => ?_, fun l hl => ?_, fun i hi hm => ⟨?_, hM.none_ i hi hm⟩, fun i hi v hm => ?_, fun i hi x hx => ?_⟩
  · exact JK ⟨b, h, w⟩ ((yD hc hu _).2 ⟨h1, h2, h3, d, hs⟩)
  · obtain ⟨i, hi, e⟩ := List.getElem_of_mem (show l ∈ kF av S.bN from hl)
    have hil : i < av := by rw [lV] at hi; exact hi
    have e2 : (kF av S.bN).getD i [] = l := by simp only [List.getD, List.getElem?_eq_getElem hi, Option.getD_some]; exact e
    rw [← e2, AY hil, List.length_map, eT, List.length_dropLast, eT]
    have h1 := List.length_filter_le (jh i) S.bN
    have h2 : S.bN.length ≤ S.good.length := List.length_filterMap_le _ _
    have h3 := fV S S.g.bl.toNat
    unfold good at h2
    omega
  · show (fT av S.bN).getD i 0 = -1
    rw [zK hi]
    cases hs : bX (ltOf kG) (S.bN.filter (jh i)) with
    | nil => rfl
    | cons x xs =>
      obtain ⟨d, h1, _, h3⟩ := (hmem i x).1 (by rw [hs]; exact .head _)
      exact absurd h3 (hM.none_ i hi hm _ _ _ h1)
  · obtain ⟨b, h, h1, h2, h3⟩ := hM.some_ i hi v hm
    have hy : (⟨b, h, true⟩ : Fd) ∈ bX (ltOf kG) (S.bN.filter (jh i)) := (hmem i _).2 ⟨v, h1, rfl, h2⟩
    obtain ⟨x, hx⟩ : ∃ x, (bX (ltOf kG) (S.bN.filter (jh i))).getLast? = some x := by
      cases hl : (bX (ltOf kG) (S.bN.filter (jh i))).getLast? with
      | none => rw [List.getLast?_eq_none_iff.1 hl] at hy; cases hy
      | some x => exact ⟨x, rfl⟩
    have hdl : bX (ltOf kG) (S.bN.filter (jh i)) = (bX (ltOf kG) (S.bN.filter (jh i))).dropLast ++ [x] := by
      obtain ⟨ys, e⟩ := List.getLast?_eq_some_iff.1 hx
      rw [e, List.dropLast_concat]
    obtain ⟨d, hx1, hx2, hx3⟩ := (hmem i x).1 (List.mem_of_getLast? hx)
    have hso := Gl (S.bN.filter (jh i))
    rw [hdl] at hso hy
    have hxb : x.block = b := by
      rcases List.mem_append.1 hy with hy | hy
      · have h4 := (List.pairwise_append.1 hso).2.2 _ hy x (.head _)
        unfold ltOf at h4
        rw [decide_eq_false_iff_not, yQ] at h4
        by_cases e : x.block = b
        · exact e
        · have := h3 _ _ _ hx1 hx3 e
          exact absurd (.inl this) h4
      · rw [← List.mem_singleton.1 hy]
    rw [hpick i hi x hx, hxb]
    refine ⟨h, h1, h2, fun c h' v' k1 k2 k3 => ⟨h3 c h' v' k1 k2 k3, ?_⟩⟩
    refine (ML i hi c).2 ⟨⟨c, h', true⟩, ?_, rfl⟩
    have hz : (⟨c, h', true⟩ : Fd) ∈ bX (ltOf kG) (S.bN.filter (jh i)) := (hmem i _).2 ⟨v', k1, rfl, k2⟩
    rw [hdl] at hz
    rcases List.mem_append.1 hz with hz | hz
    · exact hz
    · exfalso
      have := List.mem_singleton.1 hz
      rw [← this] at hxb
      exact k3 hxb
  · obtain ⟨z, hz, rfl⟩ := (ML i hi x).1 hx
    obtain ⟨d, hz1, hz2, hz3⟩ := (hmem i z).1 (List.dropLast_subset _ hz)
    refine ⟨hz1.lo, hz1.hi, fun h4 => ?_⟩
    obtain ⟨j, hj, e⟩ := List.getElem_of_mem h4
    have hjl : j < av := by
      have h5 : j < (fT av S.bN).length := hj
      rw [fF] at h5; exact h5
    have e2 : (iQ S av).stands.getD j 0 = z.block := by simp only [List.getD, List.getElem?_eq_getElem hj, Option.getD_some]; exact e
    cases hl : (bX (ltOf kG) (S.bN.filter (jh j))).getLast? with
    | none =>
      have e3 : (iQ S av).stands.getD j 0 = -1 := by
        show (fT av S.bN).getD j 0 = _
        rw [zK hjl]
        unfold lastB
        rw [hl]
      have := hz1.lo
      omega
    | some y =>
      rw [hpick j hjl y hl] at e2
      obtain ⟨d', hy1, hy2, hy3⟩ := (hmem j y).1 (List.mem_of_getLast? hl)
      rw [e2] at hy1
      have e3 := hsame hy1 hz1
      have hij : i = j := by rw [e3] at hy3; omega
      subst hij
      have e4 : y = z := by
        obtain ⟨yb, yh, yw⟩ := y
        obtain ⟨zb, zh, zw⟩ := z
        dsimp only at e2 e3 hy2 hz2
        rw [e2, e3, hy2, hz2]
      have hnn := hnd i
      obtain ⟨ys, e5⟩ := List.getLast?_eq_some_iff.1 hl
      rw [e5] at hz hnn
      rw [List.dropLast_concat] at hz
      rw [e4] at hnn
      have := (List.nodup_append.1 hnn).2.2 z hz z (.head _)
      exact this rfl
end
end ak
theorem Ik {T : St} {e : Int} (h : e ≠ 70) : T.told e = T := by
  unfold St.told
  rw [decide_eq_false h, Bool.or_false]
def J2 : ak × St × Option Int → ak × St × Int
  | (S', T', some e) => (S', T', e)
  | (S', T', none) => (S', T'.told (if S'.jF = 70 then 70 else 6), if S'.jF = 70 then 70 else 6)
theorem Oe : (6 : Int) ≠ 70 := by decide
namespace ak
section
variable {av L B : Nat} {S : ak} {st : Int → CY} {T : St} {m : Lm}
theorem Jz (hI : SI av L B S st T m) (hu : S.up = true) : (ig S.good T.stands T.at_ S.g.bl S.g.bl.toNat 0).Nodup ∧ (ig S.good T.stands T.at_ S.g.bl S.g.bl.toNat 0).length ≤ S.g.bl.toNat ∧
    ∀ b, b ∈ ig S.good T.stands T.at_ S.g.bl S.g.bl.toNat 0 ↔ 0 ≤ b ∧ b < S.g.bl ∧ S.marked b = false ∧ b ∉ T.stands := by
  have hgb := hI.ci.aF
  unfold Geo.aF at hgb
  have ha := hI.at_
  have hgd : ∀ b, b ∈ S.good ↔ 0 ≤ b ∧ b < S.g.bl ∧ S.marked b = false := fun b => by
    unfold good
    rw [mQ hu, Int.toNat_of_nonneg (by omega)]
  unfold ig
  refine ⟨?_, ?_, fun b => ?_⟩
  · refine List.Pairwise.filter _ ?_
    rw [List.pairwise_map]
    refine (List.nodup_range' (n := S.g.bl.toNat - 0)).imp_of_mem ?_
    intro i j hi hj hij e
    rw [List.mem_range'_1] at hi hj
    have h1 := Int.emod_add_mul_ediv (T.at_ + (i : Int)) S.g.bl
    have h2 := Int.emod_add_mul_ediv (T.at_ + (j : Int)) S.g.bl
    rw [e] at h1
    have h3 : S.g.bl * ((T.at_ + (i : Int)) / S.g.bl - (T.at_ + (j : Int)) / S.g.bl) = (i : Int) - (j : Int) := by rw [Int.mul_sub]; omega
    have h4 : (T.at_ + (i : Int)) / S.g.bl - (T.at_ + (j : Int)) / S.g.bl = 0 := by
      have a1 : -S.g.bl < (i : Int) - (j : Int) := by omega
      have a2 : (i : Int) - (j : Int) < S.g.bl := by omega
      rw [← h3] at a1 a2
      have b1 : -1 < (T.at_ + (i : Int)) / S.g.bl - (T.at_ + (j : Int)) / S.g.bl := Int.lt_of_mul_lt_mul_left (a := S.g.bl) (by omega) (by omega)
      have b2 : (T.at_ + (i : Int)) / S.g.bl - (T.at_ + (j : Int)) / S.g.bl < 1 := Int.lt_of_mul_lt_mul_left (a := S.g.bl) (by omega) (by omega)
      omega
    rw [h4, Int.mul_zero] at h3
    omega
  · refine Nat.le_trans (List.length_filter_le _ _) ?_
    rw [List.length_map, List.length_range']; omega
  · rw [List.mem_filter, decide_eq_true_eq, hgd, List.mem_map]
    constructor
    · rintro ⟨_, h1, h2⟩; exact ⟨h1.1, h1.2.1, h1.2.2, h2⟩
    · rintro ⟨h1, h2, h3, h4⟩
      refine ⟨⟨((b - T.at_) % S.g.bl).toNat, ?_, ?_⟩, ⟨h1, h2, h3⟩, h4⟩
      · have a1 := Int.emod_nonneg (b - T.at_) (show S.g.bl ≠ 0 by omega)
        have a2 := Int.emod_lt_of_pos (b - T.at_) (show 0 < S.g.bl by omega)
        rw [List.mem_range'_1]; omega
      · have a1 := Int.emod_nonneg (b - T.at_) (show S.g.bl ≠ 0 by omega)
        rw [Int.toNat_of_nonneg a1, Int.add_emod_emod, show T.at_ + (b - T.at_) = b by omega]
        exact Int.emod_eq_of_lt h1 h2
theorem EA (hI : SI av L B S st T m) (hu : S.up = true) {i0 : Nat} (hi0 : i0 < av) (hL : i0 < L) (h64 : i0 < 64) {d : List Nat} (h8 : Small 256 d) (hd : (d.length : Int) ≤ S.g.cap) (hnx : T.next + S.g.bl ≤ 1000000000) :
    (aX S T (i0 : Int) d).1.g = S.g ∧ (aX S T (i0 : Int) d).1.weak = S.weak ∧ Wr S (aX S T (i0 : Int) d).1 ∧ (S.left = 0 → (aX S T (i0 : Int) d).1.left = 0 ∧ (aX S T (i0 : Int) d).2.2 ≠ 70) ∧ (aX S T (i0 : Int) d).2.1.next ≤ T.next + S.g.bl + 1 ∧
    ((aX S T (i0 : Int) d).2.2 ≠ 70 → ∀ c, (aX S T (i0 : Int) d).1.marked c = true → S.marked c = true ∨ S.weak c = true) ∧
    (((aX S T (i0 : Int) d).2.2 = 6 ∧ (aX S T (i0 : Int) d).1.up = true ∧ SI av L B (aX S T (i0 : Int) d).1 st (aX S T (i0 : Int) d).2.1 m ∧ ∀ b, 0 ≤ b → b < S.g.bl → S.marked b = false → b ∉ T.stands → S.weak b = true) ∨
     ((aX S T (i0 : Int) d).2.2 = 0 ∧ (aX S T (i0 : Int) d).1.up = true ∧ ∃ st', SI av L (B + 1) (aX S T (i0 : Int) d).1 st' (aX S T (i0 : Int) d).2.1 (m.put i0 (some d))) ∨
     ((aX S T (i0 : Int) d).2.2 = 70 ∧ (aX S T (i0 : Int) d).1.up = false ∧ ∃ st', IX (aX S T (i0 : Int) d).1 st' (T.next + S.g.bl + 1) ∧ (CM av L (aX S T (i0 : Int) d).1 st' m ∨ CM av L (aX S T (i0 : Int) d).1 st' (m.put i0 (some d))))) := by
  have hgb := hI.ci.aF
  unfold Geo.aF at hgb
  obtain ⟨c1, c2, c3⟩ := Jz hI hu
  obtain ⟨cs, hcs⟩ : ∃ cs, cs = ig S.good T.stands T.at_ S.g.bl S.g.bl.toNat 0 := ⟨_, rfl⟩
  rw [← hcs] at c1 c2 c3
  have hbl : (cs.length : Int) ≤ S.g.bl := by omega
  obtain ⟨r1, r2, r3, r4, r5, r6, r7⟩ := ES hi0 hL h64 h8 cs S T hI hu hd c1 (fun b hb => (c3 b).1 hb) (by omega)
  have e0 : aX S T (i0 : Int) d = J2 (gq (i0 : Int) d cs S T) := by
    unfold aX
    rw [hI.ready hi0, if_neg (fun h => h rfl), if_neg (by omega), if_neg (by omega), ← hcs]
    rfl
  obtain ⟨X, hX⟩ : ∃ X, X = gq (i0 : Int) d cs S T := ⟨_, rfl⟩
  rw [← hX] at e0
  rw [← hX] at r1 r2 r3 r4 r5 r6 r7
  obtain ⟨S', T', r⟩ := X
  dsimp only at r1 r2 r3 r4 r5 r6 r7
  rcases r7 with ⟨rfl, q2, q3, q4⟩ | ⟨rfl, q2, q3⟩ | ⟨rfl, q2, q3⟩
  · have hsc : S'.jF = 0 := tL q3.ci.aF q2
    have e1 : aX S T (i0 : Int) d = (S', T', 6) := by
      rw [e0]
      unfold J2
      dsimp only
      rw [hsc, if_neg (by decide), Ik (by decide)]
    rw [e1]
    exact ⟨r1, r2, r3, fun h => ⟨(r4 h).1, Oe⟩, by show T'.next ≤ _; omega, fun _ => r6 (by intro h; cases h), .inl ⟨rfl, q2, q3, fun b h1 h2 h3 h4 => q4 b ((c3 b).2 ⟨h1, h2, h3, h4⟩)⟩⟩
  · rw [e0]
    exact ⟨r1, r2, r3, fun h => ⟨(r4 h).1, DV⟩, by show T'.next ≤ _; omega, fun _ => r6 (by intro h; injection h with h; exact absurd h DV), .inr (.inl ⟨rfl, q2, q3⟩)⟩
  · rw [e0]
    exact ⟨r1, r2, r3, fun h => absurd rfl (r4 h).2, by show T'.next ≤ _; omega, fun h => absurd rfl h, .inr (.inr ⟨rfl, q2, by obtain ⟨st', k1, k2⟩ := q3; exact ⟨st', k1.mono (by omega), k2⟩⟩)⟩
theorem Gt (hI : SI av L B S st T m) (hf : ∀ b, 0 ≤ b → b < S.g.bl → S.marked b = false → b ∉ T.stands → S.weak b = true) :
    ((List.range S.g.bl.toNat).filter fun (b : Nat) => !S.marked (b : Int) && !S.weak (b : Int)).length ≤ ((List.range av).filter fun i => (m i).isSome).length := by
  have hgb := hI.ci.aF
  unfold Geo.aF at hgb
  have hlm : (((List.range av).filter fun i => (m i).isSome).map fun i => (T.stands.getD i 0).toNat).length = ((List.range av).filter fun i => (m i).isSome).length := List.length_map _
  rw [← hlm]
  refine yG (List.Pairwise.filter _ List.nodup_range) (fun b hb => ?_)
  obtain ⟨h1, h2⟩ := List.mem_filter.1 hb
  have h1 := List.mem_range.1 h1
  simp only [Bool.and_eq_true, Bool.not_eq_true'] at h2
  have h3 : (b : Int) ∈ T.stands := by
    by_cases h : (b : Int) ∈ T.stands
    · exact h
    · have := hf (b : Int) (by omega) (by omega) h2.1 h
      rw [this] at h2; cases h2.2
  obtain ⟨i, hi, e⟩ := List.getElem_of_mem h3
  have hil : i < av := by rw [hI.len] at hi; exact hi
  have e2 : T.stands.getD i 0 = (b : Int) := by simp only [List.getD, List.getElem?_eq_getElem hi, Option.getD_some]; exact e
  refine List.mem_map.2 ⟨i, List.mem_filter.2 ⟨List.mem_range.2 hil, ?_⟩, by rw [e2, Int.toNat_natCast]⟩
  cases hm : m i with
  | none => have := (hI.none_ i hil hm).1; omega
  | some v => rfl
end
theorem CM.new {g : Geo} {bad : List Int} (hg : g.aF) (av L : Nat) : CM av L (ak.new g bad) (fun _ => none) (fun _ => none) := by
  have hgb := hg
  unfold Geo.aF at hgb
  have hno : ∀ b h d, ¬ Live (ak.new g bad) (fun _ => none) b h d := fun b h d hl => by have := hl.st; cases this
  refine ⟨⟨hg, ?_, fun k w hw => (by cases hw), fun b _ _ _ xs hx => (by cases hx)⟩, fun b h d hl => absurd hl (hno _ _ _), fun b c h h' d d' hl => absurd hl (hno _ _ _), fun i _ _ b h d hl => absurd hl (hno _ _ _), fun i _ v hv => by cases hv⟩
  show ((List.replicate g.bl.toNat (0 : Int)).length : Int) = g.bl
  rw [List.length_replicate]; omega
end ak
end Go.Proofs.YtcedojacbhnbiaaGreat
