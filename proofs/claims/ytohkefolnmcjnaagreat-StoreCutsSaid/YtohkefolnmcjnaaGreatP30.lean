import Derived.Test.YtohkefolnmcjnaaGreatP29
namespace Go.Proofs.YtohkefolnmcjnaaGreat
open Go.Sl Go.RowKit
set_option linter.unusedVariables false
set_option linter.unusedSimpArgs false
set_option maxRecDepth 20000
theorem chgL_dead (leb : Int) (d : List Nat) : ∀ (cs : List Int) (S : Chip) (T : St), (chgL leb d cs S T).2.2 = some 70 → (chgL leb d cs S T).2.1.dead = true
  | [], S, T, h => by cases h
  | b :: bs, S, T, h => by
    rw [chgL] at h ⊢
    by_cases hn : (chg1 leb d S T b).2.2 = none
    · rw [if_pos hn] at h ⊢
      exact chgL_dead leb d bs _ _ h
    · rw [if_neg hn] at h ⊢
      unfold chg1 at h ⊢
      by_cases h1 : (sWrite S T.next b leb d).2 = 72
      · rw [if_pos h1] at h
        dsimp only at h
        split at h
        · injection h with h; exact absurd h n6_70
        · cases h
      · rw [if_neg h1] at h ⊢
        by_cases h2 : (sWrite S T.next b leb d).2 ≠ 0
        · rw [if_pos h2] at h ⊢
          dsimp only at h ⊢
          injection h with h
          show (_ || decide ((sWrite S T.next b leb d).2 = 70)) = true
          rw [decide_eq_true h, Bool.or_true]
        · rw [if_neg h2] at h
          dsimp only at h
          injection h with h
          exact absurd h n0_70
theorem ready_dead {T : St} {leb : Int} (h : T.ready leb = 70) : T.dead = true := by
  unfold St.ready at h
  cases hd : T.dead with
  | true => rfl
  | false =>
    rw [hd, if_neg Bool.false_ne_true] at h
    split at h <;> exact absurd h (by decide)
theorem change_dead {S : Chip} {T : St} {leb : Int} {d : List Nat} (h : (sChange S T leb d).2.2 = 70) : (sChange S T leb d).2.1.dead = true := by
  unfold sChange at h ⊢
  by_cases h1 : T.ready leb ≠ 0
  · rw [if_pos h1] at h ⊢; exact ready_dead h
  · rw [if_neg h1] at h ⊢
    by_cases h2 : S.g.cap < d.length
    · rw [if_pos h2] at h; exact absurd h (by show ¬ (2 : Int) = 70; decide)
    · rw [if_neg h2] at h ⊢
      by_cases h3 : 1000000000 < T.next
      · rw [if_pos h3] at h; exact absurd h n6_70
      · rw [if_neg h3] at h ⊢
        have hd := chgL_dead leb d (candsF S.good T.stands T.at_ S.g.bl S.g.bl.toNat 0) S T
        obtain ⟨X, hX⟩ : ∃ X, X = chgL leb d (candsF S.good T.stands T.at_ S.g.bl S.g.bl.toNat 0) S T := ⟨_, rfl⟩
        rw [← hX] at h hd ⊢
        obtain ⟨S', T', r⟩ := X
        cases r with
        | none =>
          dsimp only at h ⊢
          show (_ || decide (_ = 70)) = true
          rw [decide_eq_true h, Bool.or_true]
        | some e =>
          dsimp only at h hd ⊢
          exact hd (by rw [h])
theorem unmap_dead {S : Chip} {T : St} {leb : Int} (h : (sUnmap S T leb).2.2 = 70) : (sUnmap S T leb).2.1.dead = true := by
  unfold sUnmap at h ⊢
  by_cases h1 : T.ready leb ≠ 0
  · rw [if_pos h1] at h ⊢; exact ready_dead h
  · rw [if_neg h1] at h ⊢
    by_cases h2 : T.at' leb < 0
    · rw [if_pos h2] at h; exact absurd h n0_70
    · rw [if_neg h2] at h ⊢
      split at h
      · rename_i h3
        rw [if_pos h3]
        show (_ || decide ((70 : Int) = 70)) = true
        rw [decide_eq_true rfl, Bool.or_true]
      · exact absurd h n0_70
structure CutI (lebs : Nat) (g : Geo) (i : Nat) (C : Cw) (T : Stw) (M : Mw) : Prop where
  ok : C.Ok
  geo : C.g = g
  tok : T.Ok g
  up : C.sem.up = true
  si : ∃ st, Chip.SI lebs lebs (256 + i) C.sem st T.sem M.sem
  next : T.sem.next ≤ 1 + 20 * (i : Int)
  lh : M.has.length = lebs
  ld : M.dat.length = lebs
section
variable {lebs i : Nat} {g : Geo} {C C' : Cw} {T : Stw} {M : Mw}
theorem CutI.turn (h : CutI lebs g i C T M) (h1 : C'.Ok) (h2 : C'.g = g) (h3 : C'.sem.up = true) (e : Chip.Eqv C.sem C'.sem) : CutI lebs g (i + 1) C' T M := by
  obtain ⟨st, hI⟩ := h.si
  exact ⟨h1, h2, h.tok, h3, ⟨st, (hI.eqv e).wider (by omega)⟩, by have := h.next; omega, h.lh, h.ld⟩
theorem CutI.stay (h : CutI lebs g i C T M) : CutI lebs g (i + 1) C T M := h.turn h.ok h.geo h.up (Chip.Eqv.of rfl rfl rfl rfl rfl)
structure Outc (lebs : Nat) (g : Geo) (N : Nat) (S : Chip) (T : St) (e : Int) (m m3 : Lm) : Prop where
  geo : S.g = g
  next : T.next ≤ 1 + 20 * (N : Int)
  res : (e = 0 ∧ S.up = true ∧ ∃ st, Chip.SI lebs lebs (256 + N) S st T m3) ∨ (e = 6 ∧ S.up = true ∧ ∃ st, Chip.SI lebs lebs (256 + N) S st T m) ∨
    (e = 70 ∧ T.dead = true ∧ ∃ st, Chip.NumB S st (1 + 20 * (N : Int)) ∧ (Chip.CM lebs lebs S st m ∨ Chip.CM lebs lebs S st m3))
theorem outc_change (h : CutI lebs g i C T M) (hbl : g.bl ≤ 12) (hi : i ≤ 1000) {i0 : Nat} (hi0 : i0 < lebs) (h64 : lebs ≤ 64) {d : List Nat} (h8 : Small 256 d) (hd : (d.length : Int) ≤ g.cap) :
    Outc lebs g (i + 1) (sChange C.sem T.sem (i0 : Int) d).1 (sChange C.sem T.sem (i0 : Int) d).2.1 (sChange C.sem T.sem (i0 : Int) d).2.2 M.sem (M.sem.put i0 (some d)) := by
  obtain ⟨st, hI⟩ := h.si
  have hgs : C.sem.g = g := h.geo
  have hnx := h.next
  obtain ⟨r1, r2, r3, r4, r5, r6, r7⟩ := Chip.sChange_out hI h.up hi0 hi0 (by omega) h8 (by rw [hgs]; exact hd) (by rw [hgs]; omega)
  rw [hgs] at r5 r7
  refine ⟨r1.trans hgs, by omega, ?_⟩
  rcases r7 with ⟨q1, q2, q3, _⟩ | ⟨q1, q2, st', q3⟩ | ⟨q1, q2, st', q3, q4⟩
  · exact .inr (.inl ⟨q1, q2, st, q3.wider (by omega)⟩)
  · exact .inl ⟨q1, q2, st', q3.wider (by omega)⟩
  · exact .inr (.inr ⟨q1, change_dead q1, st', q3.mono (by omega), q4⟩)
theorem outc_unmap (h : CutI lebs g i C T M) {i0 : Nat} (hi0 : i0 < lebs) :
    Outc lebs g (i + 1) (sUnmap C.sem T.sem (i0 : Int)).1 (sUnmap C.sem T.sem (i0 : Int)).2.1 (sUnmap C.sem T.sem (i0 : Int)).2.2 M.sem (M.sem.put i0 none) := by
  obtain ⟨st, hI⟩ := h.si
  have hgs : C.sem.g = g := h.geo
  have hnx := h.next
  obtain ⟨r1, r2, r3, r4, r5, r6, r7⟩ := Chip.sUnmap_out hI h.up hi0
  refine ⟨r1.trans hgs, by omega, ?_⟩
  rcases r7 with ⟨q1, q2, st', q3⟩ | ⟨q1, q2, st', q3, q4⟩
  · exact .inl ⟨q1, q2, st', q3.wider (by omega)⟩
  · exact .inr (.inr ⟨q1, unmap_dead q1, st', q3.mono (by omega), q4⟩)
theorem Outc.opened {N : Nat} {S S' : Chip} {T : St} {e : Int} {m m3 : Lm} (h : Outc lebs g N S T e m m3) (he : e = 70) (hE : Chip.Eqv S S') (hu : S'.up = true) : ∃ mm : Lm, (mm = m ∨ mm = m3) ∧ (∃ st, Chip.SI lebs lebs (256 + N) S' st (openF S' lebs) mm) ∧ (openF S' lebs).next ≤ 1 + 20 * (N : Int) := by
  rcases h.res with ⟨h1, _⟩ | ⟨h1, _⟩ | ⟨_, _, st, h2, h3⟩
  · rw [he] at h1; exact absurd h1 (by decide)
  · rw [he] at h1; exact absurd h1 (by decide)
  · have hn := h2.eqv hE
    rcases h3 with h3 | h3
    · have h4 := h3.eqv hE
      exact ⟨m, .inl rfl, ⟨st, (Chip.open_si h4 hu).wider (by omega)⟩, Chip.open_num h4.ci hu hn (by omega) lebs⟩
    · have h4 := h3.eqv hE
      exact ⟨m3, .inr rfl, ⟨st, (Chip.open_si h4 hu).wider (by omega)⟩, Chip.open_num h4.ci hu hn (by omega) lebs⟩
end
theorem natsOf_strOf {d : List Nat} (h8 : Small 256 d) : natsOf (bytesOf (strOfNums (intsOf d))) = d := by
  rw [strOf_inj (bytesOf_bytes _) (intsOf_bytes h8) (strOf_bytesOf _), natsOf_intsOf]
theorem sem_set (M : Mw) {i0 : Nat} (h1 : i0 < M.has.length) (h2 : i0 < M.dat.length) (b : Bool) (s : ByteArray) : Mw.sem { M with has := M.has.set i0 b, dat := M.dat.set i0 s } = M.sem.put i0 (if b then some (natsOf (bytesOf s)) else none) := by
  funext k
  unfold Lm.put Mw.sem
  dsimp only
  have e1 : (M.has.set i0 b).getD k false = if k = i0 then b else M.has.getD k false := by
    rw [getD_setL]
    by_cases h : k = i0
    · rw [if_pos ⟨h, h1⟩, if_pos h]
    · rw [if_neg (fun hh => h hh.1), if_neg h]
  have e2 : (M.dat.set i0 s).getD k ByteArray.empty = if k = i0 then s else M.dat.getD k ByteArray.empty := by
    rw [getD_setL]
    by_cases h : k = i0
    · rw [if_pos ⟨h, h2⟩, if_pos h]
    · rw [if_neg (fun hh => h hh.1), if_neg h]
  rw [e1, e2]
  by_cases h : k = i0
  · simp only [if_pos h]
  · simp only [if_neg h]
end Go.Proofs.YtohkefolnmcjnaaGreat
