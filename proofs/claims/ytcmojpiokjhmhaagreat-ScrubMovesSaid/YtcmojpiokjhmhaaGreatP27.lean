import Derived.Test.YtcmojpiokjhmhaaGreatP26
import Derived.Test.YtcmojpiokjhmhaaGreatP3
import Derived.Test.YtcmojpiokjhmhaaGreatP4
import Derived.Lib.ConvBytes
import Derived.Deep.Strs
namespace Go.Proofs.YtcmojpiokjhmhaaGreat
open Go.Sl Go.RowKit
set_option linter.unusedVariables false
set_option linter.unusedSimpArgs false
set_option maxRecDepth 20000
namespace ah
structure Core (aj L i0 : Nat) (sd : Nat → Int) (S : ah) (st : Int → uN) (m : Lm) : Prop where
  ci : CI S st
  low : ∀ b h d, Live S st b h d → h.aB < L
  uniq : ∀ b c h h' d d', Live S st b h d → Live S st c h' d' → h.aB = h'.aB → h.num = h'.num → b = c
  none_ : ∀ i, i < aj → i ≠ i0 → m i = none → ∀ b h d, Live S st b h d → h.aB ≠ (i : Nat)
  some_ : ∀ i, i < aj → i ≠ i0 → ∀ v, m i = some v → ∃ h, Live S st (sd i) h v ∧ h.aB = (i : Nat) ∧ ∀ c h' v', Live S st c h' v' → h'.aB = (i : Nat) → c ≠ sd i → h'.num < h.num
section
variable {aj L B i0 : Nat} {sd : Nat → Int} {S S' : ah} {st st' : Int → uN} {T : St} {m : Lm} {x : Int}
theorem Core.step (h : Core aj L i0 sd S st m) (hr : Rest x S S') (hw : Wr S S') (hs : ∀ k, k ≠ x → st' k = st k) (hx : S'.marked x = false → S'.Stat x (st' x)) (hsub : ∀ c h d, Live S' st' c h d → Live S st c h d) (hn : ∀ j, j < aj → j ≠ i0 → sd j ≠ x) : Core aj L i0 sd S' st' m :=
  ⟨h.ci.step hr hw hs hx, fun b hd d hl => h.low b hd d (hsub _ _ _ hl), fun b c h1 h2 d1 d2 k1 k2 => h.uniq b c h1 h2 d1 d2 (hsub _ _ _ k1) (hsub _ _ _ k2), fun i hi hi0 hm b hd d hl => h.none_ i hi hi0 hm b hd d (hsub _ _ _ hl), fun i hi hi0 v hm => by
    obtain ⟨hd, h1, h2, h3⟩ := h.some_ i hi hi0 v hm
    exact ⟨hd, h1.on hr hs (hn i hi hi0), h2, fun c h' v' k1 k2 k3 => h3 c h' v' (hsub _ _ _ k1) k2 k3⟩⟩
theorem PN (h : Core aj L i0 sd S st m) (hu : S.up = true) (hx : 0 ≤ x ∧ x < S.g.bl) (hn : ∀ j, j < aj → j ≠ i0 → sd j ≠ x) : ∃ st' : Int → uN, Core aj L i0 sd (S.aM x).1 st' m ∧ (∀ c h d, Live (S.aM x).1 st' c h d → Live S st c h d) ∧ (∀ c h d, c ≠ x → Live S st c h d → Live (S.aM x).1 st' c h d) ∧
    (∀ k w, st' k = some w → st k = some w) ∧
    (S.aM x).1.g = S.g ∧ (S.aM x).1.weak = S.weak ∧ Wr S (S.aM x).1 ∧ (S.left = 0 → (S.aM x).1.left = 0 ∧ (S.aM x).2 ≠ 70) ∧ ((S.aM x).2 ≠ 70 → ∀ c, (S.aM x).1.marked c = true → S.marked c = true ∨ S.weak c = true) ∧ (∀ c, (S.aM x).1.marked c = false → S.marked c = false) ∧
    (((S.aM x).2 ≠ 70 ∧ (S.aM x).1.up = true ∧ ∀ h d, ¬ Live (S.aM x).1 st' x h d) ∨ ((S.aM x).2 = 70 ∧ (S.aM x).1.up = false ∧ ((∀ h d, ¬ Live (S.aM x).1 st' x h d) ∨ ∀ h d, Live S st x h d → Live (S.aM x).1 st' x h d))) := by
  have hg := h.ci.aD
  have hgb := hg
  unfold Geo.aD at hgb
  cases hm : S.marked x with
  | true =>
    have e1 : S.aM x = (S, 73) := by
      unfold aM
      rw [if_pos (by rw [Cn hu ⟨hx.1, hx.2, Int.le_refl _, by omega⟩ hm]; decide), Cn hu ⟨hx.1, hx.2, Int.le_refl _, by omega⟩ hm]
    have n73 : (73 : Int) ≠ 70 := by decide
    rw [e1]
    exact ⟨st, h, fun _ _ _ hl => hl, fun _ _ _ _ hl => hl, fun _ _ h => h, rfl, rfl, Wr.refl S, fun h0 => ⟨h0, n73⟩, fun _ c hc => .inl hc, fun c hc => hc, .inl ⟨n73, hu, fun hd d hl => by have := hl.un; rw [hm] at this; cases this⟩⟩
  | false =>
    obtain ⟨r1, r2, r3, r4⟩ := uq hu hx (by omega) hm h.ci.len
    have r5 := zK (S := S) (b := x)
    obtain ⟨X, hX⟩ : ∃ X, X = S.aM x := ⟨_, rfl⟩
    rw [← hX] at r1 r2 r3 r4 r5 ⊢
    have hback : ∀ st' : Int → uN, (∀ k, k ≠ x → st' k = st k) → (∀ h d, ¬ Live X.1 st' x h d) → ∀ c h d, Live X.1 st' c h d → Live S st c h d := fun st' h1 h2 c hd d hl => by
      by_cases hc : c = x
      · subst hc; exact absurd hl (h2 _ _)
      · exact hl.back r1 h1 hc
    have hon : ∀ st' : Int → uN, (∀ k, k ≠ x → st' k = st k) → ∀ c h d, c ≠ x → Live S st c h d → Live X.1 st' c h d := fun st' h1 c hd d hc hl => hl.on r1 h1 hc
    have hmk : X.1.marked x = false ∨ X.2 = 72 → ∀ c, X.1.marked c = true → S.marked c = true ∨ S.weak c = true := fun h1 c hc => by
      by_cases hcx : c = x
      · subst hcx
        rcases h1 with h1 | h1
        · rw [h1] at hc; cases hc
        · cases hwk : S.weak c with
          | true => exact .inr rfl
          | false => exact absurd h1 (r3 hwk)
      · rw [r1.marked c hcx] at hc; exact .inl hc
    have hmu : ∀ c, X.1.marked c = false → S.marked c = false := fun c hc => by
      by_cases hcx : c = x
      · rw [hcx]; exact hm
      · rw [r1.marked c hcx] at hc; exact hc
    obtain ⟨st0, PL⟩ : ∃ st0 : Int → uN, st0 = fun k => if k = x then none else st k := ⟨_, rfl⟩
    have s0 : ∀ k, k ≠ x → st0 k = st k := fun k hk => by rw [PL]; exact if_neg hk
    have RI : st0 x = none := by rw [PL]; exact if_pos rfl
    have n0 : ∀ h d, ¬ Live X.1 st0 x h d := fun hd d hl => by have := hl.st; rw [RI] at this; cases this
    have w0 : ∀ k w, st0 k = some w → st k = some w := fun k w hk => by
      by_cases hkx : k = x
      · rw [hkx, RI] at hk; cases hk
      · rw [s0 k hkx] at hk; exact hk
    have gone : X.1.marked x = true → ∀ h d, ¬ Live X.1 st x h d := fun h1 hd d hl => by have := hl.un; rw [h1] at this; cases this
    have TI : X.1.marked x = true → Core aj L i0 sd X.1 st m := fun h1 => h.step r1 r5 (fun _ _ => rfl) (fun h2 => by rw [h1] at h2; cases h2) (hback st (fun _ _ => rfl) (gone h1)) hn
    have S9 : X.1.rZ (x, 0) → Core aj L i0 sd X.1 st0 m := fun h1 => h.step r1 r5 s0 (fun _ => by rw [RI]; exact h1) (hback st0 s0 n0) hn
    rcases r4 with ⟨a1, a2, a3, _, a5⟩ | (⟨a1, a2, a3⟩ | ⟨a1, a2, a3⟩) | ⟨a1, a2, a3, n, a4, a5⟩
    · refine ⟨st0, S9 (mY (a5 0 (Int.le_refl _) (by omega)).1), hback st0 s0 n0, hon st0 s0, w0, r1.g, r1.weak, r5, r2, fun _ => hmk (.inl a3), hmu, .inl ⟨by rw [a1]; exact oU, a2, n0⟩⟩
    · exact ⟨st, TI a3, hback st (fun _ _ => rfl) (gone a3), hon st (fun _ _ => rfl), fun _ _ h => h, r1.g, r1.weak, r5, r2, fun _ => hmk (.inr a1), hmu, .inl ⟨by rw [a1]; exact Ma, a2, gone a3⟩⟩
    · rcases a3 with a3 | ⟨a3, a4, a5⟩
      · exact ⟨st, TI a3, hback st (fun _ _ => rfl) (gone a3), hon st (fun _ _ => rfl), fun _ _ h => h, r1.g, r1.weak, r5, r2, fun h1 => absurd a1 h1, hmu, .inr ⟨a1, a2, .inl (gone a3)⟩⟩
      · have hb2 : ∀ c h d, Live X.1 st c h d → Live S st c h d := fun c hd d hl => by
          by_cases hc : c = x
          · subst hc; exact ⟨hx.1, hx.2, hm, hl.st⟩
          · exact hl.back r1 (fun _ _ => rfl) hc
        have hpg : ∀ p, X.1.pages (x, p) = S.pages (x, p) := fun p => by rw [a4]
        refine ⟨st, h.step r1 r5 (fun _ _ => rfl) (fun _ => Stat.same r1.g hpg (h.ci.stat x hx.1 hx.2 hm)) hb2 hn, hb2, hon st (fun _ _ => rfl), fun _ _ h => h, r1.g, r1.weak, r5, r2, fun h1 => absurd a1 h1, hmu, .inr ⟨a1, a2, .inr fun hd d hl => ⟨hl.lo, by rw [r1.g]; exact hl.hi, by rw [a3]; exact hm, hl.st⟩⟩⟩
    · by_cases hn0 : 0 < n
      · exact ⟨st0, S9 (mY (by rw [a4]; exact if_pos ⟨rfl, Int.le_refl _, hn0⟩)), hback st0 s0 n0, hon st0 s0, w0, r1.g, r1.weak, r5, r2, fun h1 => absurd a1 h1, hmu, .inr ⟨a1, a2, .inl n0⟩⟩
      · have hd : ∀ (f : Int × Int → Option (List Int)), aP f x n = f := fun f => by
          funext k
          unfold aP
          rw [if_neg (fun h => by omega)]
        have hb2 : ∀ c h d, Live X.1 st c h d → Live S st c h d := fun c hd d hl => by
          by_cases hc : c = x
          · subst hc; exact ⟨hx.1, hx.2, hm, hl.st⟩
          · exact hl.back r1 (fun _ _ => rfl) hc
        have hpg : ∀ p, X.1.pages (x, p) = S.pages (x, p) := fun p => by rw [a4, hd]
        exact ⟨st, h.step r1 r5 (fun _ _ => rfl) (fun _ => Stat.same r1.g hpg (h.ci.stat x hx.1 hx.2 hm)) hb2 hn, hb2, hon st (fun _ _ => rfl), fun _ _ h => h, r1.g, r1.weak, r5, r2, fun h1 => absurd a1 h1, hmu, .inr ⟨a1, a2, .inr fun hd d hl => ⟨hl.lo, by rw [r1.g]; exact hl.hi, a3, hl.st⟩⟩⟩
theorem zC : ∀ (xs : List Int) (S : ah) (st : Int → uN), Core aj L i0 sd S st m → S.up = true → (∀ x ∈ xs, 0 ≤ x ∧ x < S.g.bl ∧ ∀ j, j < aj → j ≠ i0 → sd j ≠ x) → ∃ st' : Int → uN, Core aj L i0 sd (bU xs S).1 st' m ∧ (∀ c h d, Live (bU xs S).1 st' c h d → Live S st c h d) ∧ (∀ c h d, c ∉ xs → Live S st c h d → Live (bU xs S).1 st' c h d) ∧
    (∀ k w, st' k = some w → st k = some w) ∧
    (bU xs S).1.g = S.g ∧ (bU xs S).1.weak = S.weak ∧ Wr S (bU xs S).1 ∧ (S.left = 0 → (bU xs S).1.left = 0 ∧ (bU xs S).2 ≠ 70) ∧ ((bU xs S).2 ≠ 70 → ∀ c, (bU xs S).1.marked c = true → S.marked c = true ∨ S.weak c = true) ∧ (∀ c, (bU xs S).1.marked c = false → S.marked c = false) ∧
    (((bU xs S).2 = 0 ∧ (bU xs S).1.up = true ∧ ∀ x ∈ xs, ∀ h d, ¬ Live (bU xs S).1 st' x h d) ∨
     ((bU xs S).2 = 70 ∧ (bU xs S).1.up = false ∧ ∃ ys x zs, xs = ys ++ x :: zs ∧ (∀ y ∈ ys, ∀ h d, ¬ Live (bU xs S).1 st' y h d) ∧ (∀ c h d, c ∉ ys → c ≠ x → Live S st c h d → Live (bU xs S).1 st' c h d)))
  | [], S, st, h, hu, _ => ⟨st, h, fun _ _ _ hl => hl, fun _ _ _ _ hl => hl, fun _ _ h => h, rfl, rfl, Wr.refl S, fun h0 => ⟨h0, oU⟩, fun _ c hc => .inl hc, fun c hc => hc, .inl ⟨rfl, hu, fun x hx => by cases hx⟩⟩
  | x :: xs, S, st, h, hu, hxs => by
    obtain ⟨hx1, hx2, hx3⟩ := hxs x (.head _)
    obtain ⟨st1, a1, a2, a3, a4, a5, a6, a7, a8, a9, TF, Ub⟩ := PN h hu ⟨hx1, hx2⟩ hx3
    rcases Ub with ⟨b1, b2, b3⟩ | ⟨b1, b2, b3⟩
    · have e1 : bU (x :: xs) S = bU xs (S.aM x).1 := by rw [bU, if_neg b1]
      rw [e1]
      obtain ⟨st2, c1, c2, c3, c4, c5, c6, c7, c8, c9, c10, c11⟩ := zC xs (S.aM x).1 st1 a1 b2 (fun y hy => by
        obtain ⟨k1, k2, k3⟩ := hxs y (.tail _ hy)
        exact ⟨k1, by rw [a5]; exact k2, k3⟩)
      refine ⟨st2, c1, fun c hd d hl => a2 _ _ _ (c2 _ _ _ hl), fun c hd d hc hl => ?_, fun k w hk => a4 k w (c4 k w hk), c5.trans a5, c6.trans a6, a7.trans c7, fun h0 => c8 (a8 h0).1, fun hh c hc => ?_, fun c hc => TF c (c10 c hc), ?_⟩
      · exact c3 c hd d (fun h => hc (.tail _ h)) (a3 c hd d (fun e => hc (by rw [e]; exact .head _)) hl)
      · rcases c9 hh c hc with h1 | h1
        · exact a9 b1 c h1
        · rw [a6] at h1; exact .inr h1
      · have hxg : ∀ hd d, ¬ Live (bU xs (S.aM x).1).1 st2 x hd d := fun hd d hl => b3 _ _ (c2 _ _ _ hl)
        rcases c11 with ⟨d1, d2, d3⟩ | ⟨d1, d2, ys, y, zs, d3, d4, d5⟩
        · refine .inl ⟨d1, d2, fun z hz => ?_⟩
          rcases List.mem_cons.1 hz with rfl | hz
          · exact hxg
          · exact d3 z hz
        · refine .inr ⟨d1, d2, x :: ys, y, zs, by rw [d3]; rfl, fun z hz => ?_, fun c hd d hc1 hc2 hl => ?_⟩
          · rcases List.mem_cons.1 hz with rfl | hz
            · exact hxg
            · exact d4 z hz
          · exact d5 c hd d (fun h => hc1 (.tail _ h)) hc2 (a3 c hd d (fun e => hc1 (by rw [e]; exact .head _)) hl)
    · have e1 : bU (x :: xs) S = S.aM x := by rw [bU, if_pos b1]
      rw [e1]
      exact ⟨st1, a1, a2, fun c hd d hc hl => a3 c hd d (fun e => hc (by rw [e]; exact .head _)) hl, a4, a5, a6, a7, a8, a9, TF, .inr ⟨b1, b2, [], x, xs, rfl, fun y hy => (by cases hy), fun c hd d _ hc hl => a3 c hd d hc hl⟩⟩
theorem SI.core (hI : SI aj L B S st T m) (i0 : Nat) : Core aj L i0 (fun i => T.stands.getD i 0) S st m :=
  ⟨hI.ci, hI.low, hI.uniq, fun i hi _ hm => (hI.none_ i hi hm).2, fun i hi _ v hm => by
    obtain ⟨h, h1, h2, h3⟩ := hI.some_ i hi v hm
    exact ⟨h, h1, h2, fun c h' v' k1 k2 k3 => (h3 c h' v' k1 k2 k3).1⟩⟩
theorem HV (hI : SI aj L B S st T m) (hu : S.up = true) (hi0 : i0 < aj) :
    (dh S T (i0 : Int)).1.g = S.g ∧ (dh S T (i0 : Int)).1.weak = S.weak ∧ Wr S (dh S T (i0 : Int)).1 ∧ (S.left = 0 → (dh S T (i0 : Int)).1.left = 0 ∧ (dh S T (i0 : Int)).2.2 ≠ 70) ∧ (dh S T (i0 : Int)).2.1.next ≤ T.next ∧
    ((dh S T (i0 : Int)).2.2 ≠ 70 → ∀ c, (dh S T (i0 : Int)).1.marked c = true → S.marked c = true ∨ S.weak c = true) ∧
    (((dh S T (i0 : Int)).2.2 = 0 ∧ (dh S T (i0 : Int)).1.up = true ∧ ∃ st', SI aj L B (dh S T (i0 : Int)).1 st' (dh S T (i0 : Int)).2.1 (m.put i0 none)) ∨
     ((dh S T (i0 : Int)).2.2 = 70 ∧ (dh S T (i0 : Int)).1.up = false ∧ ∃ st', wQ (dh S T (i0 : Int)).1 st' T.next ∧ (CM aj L (dh S T (i0 : Int)).1 st' m ∨ CM aj L (dh S T (i0 : Int)).1 st' (m.put i0 none)))) := by
  have hpn : ∀ i, m.put i0 none i = if i = i0 then none else m i := fun i => rfl
  cases hm : m i0 with
  | none =>
    have h1 := (hI.none_ i0 hi0 hm).1
    have e1 : dh S T (i0 : Int) = (S, T, 0) := by
      unfold dh
      rw [hI.ready hi0, if_neg (fun h => h rfl), if_pos (by rw [hI.at', h1]; decide)]
    have e2 : m.put i0 none = m := by
      funext k
      rw [hpn]
      by_cases hk : k = i0
      · rw [if_pos hk, hk, hm]
      · rw [if_neg hk]
    rw [e1, e2]
    exact ⟨rfl, rfl, Wr.refl S, fun h => ⟨h, oU⟩, Int.le_refl _, fun _ c hc => .inl hc, .inl ⟨rfl, hu, st, hI⟩⟩
  | some v =>
    obtain ⟨h, h1, h2, h3⟩ := hI.some_ i0 hi0 v hm
    obtain ⟨b, hb⟩ : ∃ b, b = T.stands.getD i0 0 := ⟨_, rfl⟩
    rw [← hb] at h1 h3
    obtain ⟨xs, hxs⟩ : ∃ xs, xs = T.stale.getD i0 [] ++ [b] := ⟨_, rfl⟩
    have L6 : ∀ j, j < aj → j ≠ i0 → T.stands.getD j 0 ≠ b := fun j hj hj0 e => by
      cases Qh : m j with
      | none => have := (hI.none_ j hj Qh).1; have := h1.lo; omega
      | some v' =>
        obtain ⟨h', k1, k2, _⟩ := hI.some_ j hj v' Qh
        rw [e] at k1
        have e3 := k1.st
        rw [h1.st] at e3
        injection e3 with e3
        injection e3 with e3 _
        rw [← e3, h2] at k2
        omega
    have hbs : b ∉ T.stale.getD i0 [] := fun Ri => (hI.Fa i0 hi0 b Ri).2.2 (by rw [hb]; exact ng (by rw [hI.len]; exact hi0))
    obtain ⟨st', c1, c2, c3, c4, c5, c6, c7, c8, c9, c10, c11⟩ := zC xs S st (hI.core i0) hu (fun x hx => by
      rw [hxs] at hx
      rcases List.mem_append.1 hx with hx | hx
      · obtain ⟨k1, k2, k3⟩ := hI.Fa i0 hi0 x hx
        exact ⟨k1, k2, fun j hj _ e => k3 (by rw [← e]; exact ng (by rw [hI.len]; exact hj))⟩
      · rw [List.mem_singleton.1 hx]
        exact ⟨h1.lo, h1.hi, L6⟩)
    have hmem : ∀ c h' v', Live S st c h' v' → h'.aB = (i0 : Nat) → c ∈ xs := fun c h' v' k1 k2 => by
      rw [hxs]
      by_cases hc : c = b
      · exact List.mem_append_right _ (List.mem_singleton.2 hc)
      · exact List.mem_append_left _ (h3 c h' v' k1 k2 hc).2
    obtain ⟨X, hX⟩ : ∃ X, X = bU xs S := ⟨_, rfl⟩
    have e0 : dh S T (i0 : Int) = if X.2 = 70 then (X.1, T.told 70, 70) else (X.1, T.drop (i0 : Int), 0) := by
      unfold dh
      rw [hI.ready hi0, if_neg (fun h => h rfl), hI.at', ← hb, if_neg (by have := h1.lo; omega), Int.toNat_natCast, ← hxs, ← hX]
    rw [← hX] at c1 c2 c3 c5 c6 c7 c8 c9 c10 c11
    have hcm : (∀ c h' v', Live X.1 st' c h' v' → h'.aB ≠ (i0 : Nat)) → CM aj L X.1 st' (m.put i0 none) := fun hno => by
      refine ⟨c1.ci, c1.low, c1.uniq, fun i hi pz c h' d hl => ?_, fun i hi w pz => ?_⟩
      · by_cases hii : i = i0
        · subst hii; exact hno c h' d hl
        · rw [hpn, if_neg hii] at pz; exact c1.none_ i hi hii pz c h' d hl
      · by_cases hii : i = i0
        · rw [hpn, if_pos hii] at pz; cases pz
        · rw [hpn, if_neg hii] at pz
          obtain ⟨hd, k1, k2, k3⟩ := c1.some_ i hi hii w pz
          exact ⟨_, hd, k1, k2, k3⟩
    rcases c11 with ⟨d1, d2, d3⟩ | ⟨d1, d2, ys, x, zs, d3, d4, d5⟩
    · have hno : ∀ c h' v', Live X.1 st' c h' v' → h'.aB ≠ (i0 : Nat) := fun c h' v' hl hle => d3 c (hmem c h' v' (c2 _ _ _ hl) hle) _ _ hl
      have hC := hcm hno
      rw [e0, if_neg (by rw [d1]; exact oU)]
      have g3 : ∀ i, (T.drop (i0 : Int)).stands.getD i 0 = if i = i0 then -1 else T.stands.getD i 0 := fun i => by
        show (T.stands.set (i0 : Int).toNat (-1)).getD i 0 = _
        rw [Int.toNat_natCast, kV, hI.len]
        by_cases hi : i = i0
        · rw [if_pos ⟨hi, hi0⟩, if_pos hi]
        · rw [if_neg (fun h => hi h.1), if_neg hi]
      have t3 : ∀ i, (T.drop (i0 : Int)).stale.getD i [] = if i = i0 then [] else T.stale.getD i [] := fun i => by
        show (T.stale.set (i0 : Int).toNat []).getD i [] = _
        rw [Int.toNat_natCast, kV, hI.EZ]
        by_cases hi : i = i0
        · rw [if_pos ⟨hi, hi0⟩, if_pos hi]
        · rw [if_neg (fun h => hi h.1), if_neg hi]
      refine ⟨c5, c6, c7, fun h0 => ⟨(c8 h0).1, oU⟩, Int.le_refl _, fun _ => c9 (by rw [d1]; exact oU), .inl ⟨rfl, d2, st', ?_⟩⟩
      refine ⟨hC.ci, hC.low, hC.uniq, hI.dead, ?_, ?_, by rw [c5]; exact hI.at_, hI.next, fun c k1 k2 k3 h' w d hs => ?_, fun l hl => ?_, fun i hi pz => ⟨?_, hC.none_ i hi pz⟩, fun i hi w pz => ?_, fun i hi y hy => ?_⟩
      · show (T.stands.set _ _).length = _; rw [List.length_set]; exact hI.len
      · show (T.stale.set _ _).length = _; rw [List.length_set]; exact hI.EZ
      · exact hI.num c k1 (by rw [← c5]; exact k2) (c10 c k3) h' w d (c4 c _ hs)
      · have hl' : l ∈ T.stale.set (i0 : Int).toNat [] := hl
        rcases List.mem_or_eq_of_mem_set hl' with hl' | rfl
        · exact hI.long l hl'
        · exact Nat.zero_le _
      · rw [g3]
        by_cases hii : i = i0
        · rw [if_pos hii]
        · rw [if_neg hii]
          rw [hpn, if_neg hii] at pz
          exact (hI.none_ i hi pz).1
      · by_cases hii : i = i0
        · rw [hpn, if_pos hii] at pz; cases pz
        · rw [hpn, if_neg hii] at pz
          obtain ⟨hd, k1, k2, k3⟩ := c1.some_ i hi hii w pz
          obtain ⟨hd', q1, q2, q3⟩ := hI.some_ i hi w pz
          rw [g3, if_neg hii]
          refine ⟨hd, k1, k2, fun c h' v' p1 p2 p3 => ⟨k3 c h' v' p1 p2 p3, ?_⟩⟩
          rw [t3, if_neg hii]
          exact (q3 c h' v' (c2 _ _ _ p1) p2 p3).2
      · rw [t3] at hy
        by_cases hii : i = i0
        · rw [if_pos hii] at hy; cases hy
        · rw [if_neg hii] at hy
          obtain ⟨k1, k2, k3⟩ := hI.Fa i hi y hy
          refine ⟨k1, by rw [c5]; exact k2, fun hy2 => ?_⟩
          have hy3 : y ∈ T.stands.set (i0 : Int).toNat (-1) := hy2
          rcases List.mem_or_eq_of_mem_set hy3 with h5 | h5
          · exact k3 h5
          · omega
    · rw [e0, if_pos d1]
      refine ⟨c5, c6, c7, fun h0 => absurd d1 (c8 h0).2, Int.le_refl _, fun hh => absurd rfl hh, .inr ⟨rfl, d2, st', fun c k1 k2 k3 h' w d' hs' => hI.num c k1 (by rw [← c5]; exact k2) (c10 c k3) h' w d' (c4 c _ hs'), ?_⟩⟩
      by_cases hlive : ∃ hd d, Live X.1 st' b hd d
      · refine .inl ⟨c1.ci, c1.low, c1.uniq, fun i hi pz => ?_, fun i hi w pz => ?_⟩
        · by_cases hii : i = i0
          · subst hii; rw [hm] at pz; cases pz
          · exact c1.none_ i hi hii pz
        · by_cases hii : i = i0
          · subst hii
            obtain ⟨hd, d, k1⟩ := hlive
            have k2 := c2 _ _ _ k1
            have e3 := k2.st
            rw [h1.st] at e3
            injection e3 with e3
            injection e3 with e3 e4
            injection e4 with _ e4
            rw [hm] at pz
            injection pz with pz
            rw [← pz, e4]
            refine ⟨b, hd, k1, by rw [← e3]; exact h2, fun c h' v' p1 p2 p3 => ?_⟩
            rw [← e3]
            exact (h3 c h' v' (c2 _ _ _ p1) p2 p3).1
          · obtain ⟨hd, k1, k2, k3⟩ := c1.some_ i hi hii w pz
            exact ⟨_, hd, k1, k2, k3⟩
      · refine .inr (hcm fun c h' v' hl hle => ?_)
        have hbn : b ∈ ys ∨ b = x := by
          by_cases h4 : b ∈ ys
          · exact .inl h4
          · by_cases h5 : b = x
            · exact .inr h5
            · exact absurd ⟨_, _, d5 b _ _ h4 h5 h1⟩ hlive
        have PG : ys = T.stale.getD i0 [] ∧ x = b := by
          rw [hxs] at d3
          rcases List.eq_nil_or_concat zs with rfl | ⟨zs', z, rfl⟩
          · have h6 : T.stale.getD i0 [] ++ [b] = ys ++ [x] := d3
            have h7 := List.append_inj' h6 rfl
            injection h7.2 with h8 _
            exact ⟨h7.1.symm, h8.symm⟩
          · exfalso
            have h6 : T.stale.getD i0 [] ++ [b] = (ys ++ x :: zs') ++ [z] := by rw [d3]; simp
            have h7 := List.append_inj' h6 rfl
            rcases hbn with h8 | h8
            · exact hbs (by rw [h7.1]; exact List.mem_append_left _ h8)
            · exact hbs (by rw [h7.1, h8]; exact List.mem_append_right _ (.head _))
        have hc := hmem c h' v' (c2 _ _ _ hl) hle
        rw [hxs] at hc
        rcases List.mem_append.1 hc with hc | hc
        · exact d4 c (by rw [PG.1]; exact hc) _ _ hl
        · rw [List.mem_singleton.1 hc] at hl
          exact hlive ⟨_, _, hl⟩
end
end ah
namespace ah
structure sj (S S' : ah) : Prop where
  g : S'.g = S.g
  len : S'.next.length = S.next.length
  pages : S'.pages = S.pages
  few : (∀ k, S.IQ k) → ∀ k, S'.IQ k
  marked : S'.marked = S.marked
theorem sj.of {S S' : ah} (h1 : S'.g = S.g) (h2 : S'.next = S.next) (h3 : S'.pages = S.pages) (h4 : S'.wrong = S.wrong) (h5 : S'.marked = S.marked) : sj S S' := ⟨h1, by rw [h2], h3, fun h k w hw => by rw [h4] at hw; rw [h1]; exact h k w hw, h5⟩
theorem sj.on (S : ah) : sj S S.on := sj.of rfl rfl rfl rfl rfl
theorem sj.arm (S : ah) (n k : Int) : sj S (S.arm n k) := sj.of rfl rfl rfl rfl rfl
theorem sj.trans {S T U : ah} (h : sj S T) (h' : sj T U) : sj S U := ⟨h'.g.trans h.g, h'.len.trans h.len, h'.pages.trans h.pages, fun k => h'.few (h.few k), h'.marked.trans h.marked⟩
section
variable {aj L B : Nat} {S S' : ah} {st : Int → uN} {T : St} {m : Lm}
theorem CI.eqv (h : CI S st) (e : sj S S') : CI S' st := ⟨by rw [e.g]; exact h.aD, by rw [e.len, e.g]; exact h.len, e.few h.few, fun b h1 h2 h3 => Stat.same e.g (fun p => by rw [e.pages]) (h.stat b h1 (by rw [← e.g]; exact h2) (by rw [← e.marked]; exact h3))⟩
theorem Live.eqv {b : Int} {h : Hd} {d : List Nat} (hl : Live S' st b h d) (e : sj S S') : Live S st b h d := ⟨hl.lo, by rw [← e.g]; exact hl.hi, by rw [← e.marked]; exact hl.un, hl.st⟩
theorem Live.Qe {b : Int} {h : Hd} {d : List Nat} (hl : Live S st b h d) (e : sj S S') : Live S' st b h d := ⟨hl.lo, by rw [e.g]; exact hl.hi, by rw [e.marked]; exact hl.un, hl.st⟩
theorem CM.eqv (h : CM aj L S st m) (e : sj S S') : CM aj L S' st m :=
  ⟨h.ci.eqv e, fun b hd d hl => h.low b hd d (hl.eqv e), fun b c h1 h2 d1 d2 k1 k2 => h.uniq b c h1 h2 d1 d2 (k1.eqv e) (k2.eqv e), fun i hi hm b hd d hl => h.none_ i hi hm b hd d (hl.eqv e), fun i hi v hm => by
    obtain ⟨b, hd, h1, h2, h3⟩ := h.some_ i hi v hm
    exact ⟨b, hd, h1.Qe e, h2, fun c h' v' k1 k2 k3 => h3 c h' v' (k1.eqv e) k2 k3⟩⟩
theorem SI.eqv (h : SI aj L B S st T m) (e : sj S S') : SI aj L B S' st T m :=
  ⟨h.ci.eqv e, fun b hd d hl => h.low b hd d (hl.eqv e), fun b c h1 h2 d1 d2 k1 k2 => h.uniq b c h1 h2 d1 d2 (k1.eqv e) (k2.eqv e), h.dead, h.len, h.EZ, by rw [e.g]; exact h.at_, h.next, fun b h1 h2 h3 => h.num b h1 (by rw [← e.g]; exact h2) (by rw [← e.marked]; exact h3), h.long, fun i hi hm => ⟨(h.none_ i hi hm).1, fun b hd d hl => (h.none_ i hi hm).2 b hd d (hl.eqv e)⟩, fun i hi v hm => by
    obtain ⟨hd, h1, h2, h3⟩ := h.some_ i hi v hm
    exact ⟨hd, h1.Qe e, h2, fun c h' v' k1 k2 k3 => h3 c h' v' (k1.eqv e) k2 k3⟩, fun i hi x hx => by rw [e.g]; exact h.Fa i hi x hx⟩
theorem SI.wider {B' : Nat} (h : SI aj L B S st T m) (hB : B ≤ B') : SI aj L B' S st T m :=
  ⟨h.ci, h.low, h.uniq, h.dead, h.len, h.EZ, h.at_, h.next, h.num, fun l hl => Nat.le_trans (h.long l hl) hB, h.none_, h.some_, h.Fa⟩
theorem CM.same {m' : Lm} (h : CM aj L S st m) (hm : ∀ i, i < aj → m' i = m i) : CM aj L S st m' :=
  ⟨h.ci, h.low, h.uniq, fun i hi hi' => h.none_ i hi (by rw [← hm i hi]; exact hi'), fun i hi v hi' => h.some_ i hi v (by rw [← hm i hi]; exact hi')⟩
theorem SI.same {m' : Lm} (h : SI aj L B S st T m) (hm : ∀ i, i < aj → m' i = m i) : SI aj L B S st T m' :=
  ⟨h.ci, h.low, h.uniq, h.dead, h.len, h.EZ, h.at_, h.next, h.num, h.long, fun i hi hi' => h.none_ i hi (by rw [← hm i hi]; exact hi'), fun i hi v hi' => h.some_ i hi v (by rw [← hm i hi]; exact hi'), h.Fa⟩
theorem wQ.eqv {N : Int} (h : wQ S st N) (e : sj S S') : wQ S' st N := fun b h1 h2 h3 => h b h1 (by rw [← e.g]; exact h2) (by rw [← e.marked]; exact h3)
theorem jX {N : Int} (hc : CI S st) (hu : S.up = true) (hN : wQ S st N) (h1 : 1 ≤ N) (k : Nat) : (gY S k).next ≤ N := by
  show kg S.bQ ≤ N
  unfold kg
  split
  · exact h1
  · rename_i h0
    have h1 := AL (c := yt) (fs := S.bQ) (by omega) (S.bQ.length - 1) (by omega)
    obtain ⟨k1, k2, k3, d, k4⟩ := (vU hc hu _).1 h1
    have := hN _ k1 k2 k3 _ _ _ k4
    omega
end
end ah
end Go.Proofs.YtcmojpiokjhmhaaGreat
namespace Go.Sl
open Go.ChangeShapes Go.WideShapes Go.ChangeAt Go.RowKit
set_option linter.unusedVariables false
set_option linter.unusedSimpArgs false
section
variable {H : Type} {enc : TypeId × Value → H} {P : Program} {W : World}
theorem PI {α : Type} (n : Nat) (p : Nat → α → Prop) (h : ∀ i, i < n → ∃ a, p i a) : ∃ l : List α, l.length = n ∧ ∀ i a, l[i]? = some a → p i a := by
  induction n with
  | zero => exact ⟨[], rfl, fun i a hi => by simp at hi⟩
  | succ n ih =>
    obtain ⟨l, h1, h2⟩ := ih fun i hi => h i (by omega)
    obtain ⟨a, ha⟩ := h n (by omega)
    refine ⟨l ++ [a], by simp [h1], fun i b hi => ?_⟩
    rcases Nat.lt_or_ge i l.length with hlt | hge
    · exact h2 i b (by rwa [List.getElem?_append_left hlt] at hi)
    · rw [List.getElem?_append_right hge] at hi
      by_cases h0 : i - l.length = 0
      · have : i = n := by omega
        subst this
        rw [h0] at hi
        simp at hi
        subst hi
        exact ha
      · rw [List.getElem?_eq_none (by simp; omega)] at hi
        cases hi
theorem Fe {s : Nat} {l : List (List Value)} (hs : ∀ x ∈ l, x.length = s) {k : Nat} {v : Value} (h : l.flatten[k]? = some v) : ∃ x, l[k / s]? = some x ∧ x[k % s]? = some v := by
  induction l generalizing k with
  | nil => simp at h
  | cons x l ih =>
    have hx := hs x (.head _)
    rw [List.flatten_cons] at h
    rcases Nat.lt_or_ge k x.length with hlt | hge
    · rw [List.getElem?_append_left hlt] at h
      refine ⟨x, ?_, ?_⟩
      · rw [Nat.div_eq_of_lt (by omega)]; rfl
      · rw [Nat.mod_eq_of_lt (by omega)]; exact h
    · rw [List.getElem?_append_right hge] at h
      obtain ⟨y, h1, h2⟩ := ih (fun z hz => hs z (.tail _ hz)) h
      have h0 : 0 < s := by
        rcases Nat.eq_zero_or_pos s with h | h
        · subst h
          obtain hy := hs y (.tail _ (List.mem_of_getElem? h1))
          rw [List.eq_nil_of_length_eq_zero hy] at h2
          simp at h2
        · exact h
      refine ⟨y, ?_, ?_⟩
      · rw [hx] at h1
        rw [show k / s = (k - s) / s + 1 by rw [← Nat.add_div_right _ h0]; congr 1; omega]
        exact h1
      · rw [hx] at h2
        rw [show k % s = (k - s) % s by rw [← Nat.add_mod_right (k - s) s]; congr 1; omega]
        exact h2
theorem FZ {s : Nat} {l : List (List Value)} (hs : ∀ x ∈ l, x.length = s) : l.flatten.length = l.length * s := by
  induction l with
  | nil => simp
  | cons x l ih => rw [List.flatten_cons, List.length_append, ih (fun z hz => hs z (.tail _ hz)), hs x (.head _), List.length_cons, Nat.add_mul]; omega
theorem Bp {r : Reach} {base : Nat} {t e s : TypeId} {v : Value} {d : DataW H} {p : List MemPlace} (ht : P.underlying t = some (.slice e)) (hc : P.cellsOf e = s) (hval : Value.okWide P W r base t v)
    (h : DataW.Trod enc P W 0 (fun _ => true) true t v d p) :
    ∃ A m cap, ∃ css : List (List Value), v = .slice A m cap ∧ css.length = m ∧ m ≤ maxLen ∧ (∀ cs ∈ css, cs.length = s ∧ ∃ n y, DataW.trod enc P W 0 (fun _ => true) true n e cs = some y) ∧ Seq W [Old W] A m s css.flatten := by
  obtain ⟨a0, len, cap, rfl⟩ := okWide_slice ht hval
  obtain ⟨fuel, hf⟩ := h
  rcases DataW.trod_slice ht hf with ⟨hcs, _⟩ | ⟨a, len', cap', elems, rest, n, _, hcs, _, _, hl, hm, hlen, hel, _, _⟩
  · simp [Value.cells] at hcs
    obtain ⟨rfl, rfl, rfl⟩ := hcs
    exact ⟨none, 0, 0, [], rfl, rfl, Nat.zero_le _, fun x hx => by (cases hx), ⟨by simp, fun i v hi => by simp at hi⟩⟩
  · simp [Value.cells] at hcs
    obtain ⟨rfl, rfl, rfl⟩ := hcs
    obtain ⟨css, h1, h2⟩ := PI len (fun i (cs : List Value) => (cs.length = s ∧ ∃ n y, DataW.trod enc P W 0 (fun _ => true) true n e cs = some y) ∧ ∀ j v, cs[j]? = some v → W.cell? (a.add (i * s + j)) = some v) fun i hi => by
      have h3 := hel i hi
      have h4 : elems[i]? = some elems[i] := List.getElem?_eq_getElem (by omega)
      rw [h4, Option.bind_eq_some_iff] at h3
      obtain ⟨cs, h5, h6⟩ := h3
      rw [hc] at h5
      obtain ⟨k1, k2, k3⟩ := World.cells?_some h5
      refine ⟨cs, ⟨?_, n, _, h6⟩, fun j v hj => ?_⟩
      · omega
      · have hjs : j < s := by
          rcases Nat.lt_or_ge j cs.length with h | h
          · omega
          · rw [List.getElem?_eq_none h] at hj; cases hj
        rw [← add_add, k3 j (by omega), hj]
    refine ⟨some a, len, cap, css, rfl, h1, by omega, fun cs hcs => ?_, FZ (fun x hx => ?_) |>.trans (by rw [h1]), fun i v hi w hw => ?_⟩
    · obtain ⟨i, hi⟩ := List.getElem?_of_mem hcs
      exact (h2 i cs hi).1
    · obtain ⟨i, hi⟩ := List.getElem?_of_mem hx
      exact (h2 i x hi).1.1
    · obtain ⟨x, k1, k2⟩ := Fe (s := s) (fun x hx => by
        obtain ⟨i, hi⟩ := List.getElem?_of_mem hx
        exact (h2 i x hi).1.1) hi
      have h3 := (h2 _ x k1).2 _ v k2
      rw [Nat.mul_comm, Nat.div_add_mod] at h3
      exact ⟨_, rfl, (hw.below.cell (World.block_lt_of_cell? _ _ h3)).trans h3⟩
theorem iF {t : TypeId} {k : IntKind} {fuel : Nat} {cs : List Value} {x : DataW H × List MemPlace} (ht : P.underlying t = some (.int k)) (hf : DataW.trod enc P W 0 (fun _ => true) true fuel t cs = some x) : ∃ i, cs = [.int k i] ∧ k.min ≤ i ∧ i ≤ k.max := by
  obtain ⟨n', h, hx, hw⟩ := DataW.trod_int ht hf
  exact ⟨n', h, by simpa [Lit.wf] using hw⟩
end
open Go.RowKit Go.BigFrame Go.ChangeShapes Go.WideShapes
def bytesOf (s : ByteArray) : List Int := s.data.toList.map fun b => (b.toNat : Int)
theorem bytesOf_length (s : ByteArray) : (bytesOf s).length = s.size := by
  unfold bytesOf
  rw [List.length_map, Array.length_toList]; rfl
theorem mM (s : ByteArray) : bF (bytesOf s) := fun x hx => by
  obtain ⟨b, _, rfl⟩ := List.mem_map.1 hx
  have := b.toNat_lt
  omega
theorem Bw (s : ByteArray) : strOfNums (bytesOf s) = s := by
  unfold strOfNums bytesOf
  rw [List.map_map]
  obtain ⟨⟨l⟩⟩ := s
  congr 1
  show (List.map _ l).toArray = l.toArray
  congr 1
  conv => rhs; rw [← List.map_id l]
  apply List.map_congr_left
  intro b _
  show UInt8.ofNat ((b.toNat : Int)).toNat = b
  simp
section
variable {Mo : Mode} {P : Program} {K : World} {n : Nat} {Q : Post} {e : Env} {H : List ak} {ty : TypeId} {pos : String} {af : Array Edge} {ops : Array Oper} {rest : List Oper}
theorem WL.Lh {d : Nat} {x : Operand} {S T E : Nat} {s : ByteArray} {k : List Int} (hk : k = bytesOf s) (hS : P.underlying S = some .string) (hT : P.underlying T = some (.slice E)) (hE : P.underlying E = some (.int .u8)) (hx : OV true e x (.string s)) (hd : Nat.blt d n = true)
    (h : ∀ b cap cs, s.size ≤ cap → (∀ H' : List ak, Seq K (jG b E cs :: H') (some ⟨b, 0, none⟩) s.size 1 (ints .u8 k)) → WL Mo P K n ops rest Q ((d, .slice (some ⟨b, 0, none⟩) s.size cap) :: e) (jG b E cs :: H)) :
    WL Mo P K n ops (⟨some d, .convert S T x, ty, pos, af, none⟩ :: rest) Q e H := by
  refine WL.Kt (R := fun u H' => ∃ b cap cs, u = .slice (some ⟨b, 0, none⟩) s.size cap ∧ H' = jG b E cs :: H ∧ s.size ≤ cap ∧ ∀ H' : List ak, Seq K (jG b E cs :: H') (some ⟨b, 0, none⟩) s.size 1 (ints .u8 k)) (fun a w ha hw => ?_) hd (fun u H' ⟨b, cap, cs, e1, e2, e3, e4⟩ => by subst e1 e2; exact h b cap cs e3 e4)
  have hr := Lib.run_convert_string_bytes (P := P) w S T E s hS hT hE
  refine ⟨_, Lib.bytesWorld w E s, jG w.heap.size E (Lib.bytesCells w E s).toList :: H, ?_, ⟨hw.1.grow ?_ ?_ ?_ ?_, hw.2.push ?_ (fun b hb => Lib.bytesWorld_at_old w E s b hb) ⟨((Lib.bytesCells w E s).size, (Lib.bytesCells w E s).size + 1), ?_⟩ (fun b hb => ?_)⟩, w.heap.size, grownCap w s.size 0 E, _, rfl, rfl, grownCap_ge w s.size 0 E, fun H' => ⟨?_, fun i v hi => ?_⟩⟩
  · show ((do pure (Next.value (← convert S T (a.eval x)))) : Sem Next).run P w = _
    rw [hx.ev rfl ha]
    simp [hr]
  · simp [Lib.bytesWorld, World.freeze] <;> rfl
  · simp [Lib.bytesWorld, World.freeze] <;> rfl
  · simp [Lib.bytesWorld, World.freeze] <;> rfl
  · rw [Lib.bytesWorld_size]; omega
  · rw [Lib.bytesWorld_size]; omega
  · have := Lib.bytesWorld_at_new w E s
    simpa using this
  · have hb : b = w.heap.size := hb
    rw [Lib.bytesWorld_size]; omega
  · rw [hk, aG, bytesOf_length, Nat.mul_one]
  · rw [hk] at hi
    have hil : i < s.size := by
      rcases Nat.lt_or_ge i s.size with h | h
      · exact h
      · rw [List.getElem?_eq_none (by rw [aG, bytesOf_length]; exact h)] at hi; cases hi
    have hg : (Lib.bytesCells w E s).toList[i]? = some v := by
      rw [← hi]
      unfold Lib.bytesCells ints bytesOf
      have hsz : s.data.size = s.size := rfl
      have Ql : i < s.data.toList.length := by rw [Array.length_toList]; exact hil
      simp [Array.getElem?_append, hsz, hil]
      rw [List.getElem?_append_left (by rw [List.length_map]; exact Ql), List.getElem?_map, List.getElem?_eq_getElem Ql]
      rfl
    have := Rd.Oz (K := K) (H := H') (b := w.heap.size) (T := E) (o := i) hg
    simpa [gL] using this
end
def strs (ss : List ByteArray) : List Value := ss.map Value.string
theorem Seq.Gr {K : World} {H : List ak} {A : Option Addr} {m i : Nat} {ss : List ByteArray} (h : Seq K H A m 1 (strs ss)) (hi : i < m) : Rd K H (A.map (·.add (i * 1))) (.string (ss.getD i ByteArray.empty)) := by
  have hl : ss.length = m := by have := h.len; simpa [strs] using this
  have := h.rd i (.string (ss.getD i ByteArray.empty)) (by simp [strs, List.getD, hl, hi])
  rwa [Nat.mul_one]
theorem kJ {H : Type} {enc : TypeId × Value → H} {P : Program} {W : World} {r : Reach} {base : Nat} {t e : TypeId} {v : Value} {d : DataW H} {p : List MemPlace} (ht : P.underlying t = some (.slice e)) (he : P.underlying e = some .string)
    (hc : P.cellsOf e = 1) (hval : Value.okWide P W r base t v) (h : DataW.Trod enc P W 0 (fun _ => true) true t v d p) :
    ∃ A m cap ss, v = .slice A m cap ∧ Seq W [Old W] A m 1 (strs ss) ∧ ss.length = m ∧ m ≤ maxLen ∧ (∀ s ∈ ss, s.size ≤ maxLen) := by
  obtain ⟨a0, len, cap, rfl⟩ := okWide_slice ht hval
  obtain ⟨fuel, hf⟩ := h
  rcases Deep.open_strs ht he hc hf with ⟨hcs, hx⟩ | ⟨a, len', cap', m, Sx, hcs, _, hl, hm, hmm, hx, hcell⟩
  · simp [Value.cells] at hcs
    obtain ⟨rfl, rfl, rfl⟩ := hcs
    exact ⟨none, 0, 0, [], rfl, Seq.nil, rfl, Nat.zero_le _, fun s hs => (by cases hs)⟩
  · simp [Value.cells] at hcs
    obtain ⟨rfl, rfl, rfl⟩ := hcs
    simp only [if_true] at hmm
    refine ⟨some a, len, cap, (List.range len).map Sx, rfl, ⟨by simp [strs], fun i v hi w hw => ?_⟩, by simp, by omega, fun s hs => ?_⟩
    · have hil : i < len := by
        rcases Nat.lt_or_ge i len with h | h
        · exact h
        · rw [List.getElem?_eq_none (by simp [strs]; exact h)] at hi; cases hi
      have h1 := (hcell i (by omega)).1
      have hb := World.block_lt_of_cell? _ _ h1
      refine ⟨_, rfl, ((hw.below.cell hb).trans h1).trans ?_⟩
      rw [← hi]
      simp [strs, hil]
    · obtain ⟨i, hi, rfl⟩ := List.mem_map.1 hs
      exact (hcell i (by have := List.mem_range.1 hi; omega)).2
end Go.Sl
namespace Go.Proofs.YtcmojpiokjhmhaaGreat
open Go.Sl Go.RowKit
set_option linter.unusedVariables false
set_option linter.unusedSimpArgs false
set_option maxRecDepth 20000
def bools (l : List Bool) : List Value := l.map Value.bool
structure Mw where
  Ah : Option Addr
  ch : Nat
  Ad : Option Addr
  cd : Nat
  has : List Bool
  dat : List ByteArray
namespace Mw
def v (M : Mw) : Value := .agg #[.slice M.Ah M.has.length M.ch, .slice M.Ad M.dat.length M.cd]
abbrev cells (M : Mw) : List Value := [.slice M.Ah M.has.length M.ch, .slice M.Ad M.dat.length M.cd]
abbrev hs (M : Mw) : ak := aU (.slice M.Ah M.has.length M.ch) 4 1 M.has.length (bools M.has)
abbrev ds (M : Mw) : ak := aU (.slice M.Ad M.dat.length M.cd) 9 1 M.dat.length (strs M.dat)
abbrev parts (M : Mw) : List ak := [M.hs, M.ds]
def A (M : Mw) : ak := bG M.parts
def sem (M : Mw) : Lm := fun i => if M.has.getD i false then some (dU (bytesOf (M.dat.getD i ByteArray.empty))) else none
end Mw
section
variable {K : World} {F : List ak} {M : Mw}
end
end Go.Proofs.YtcmojpiokjhmhaaGreat
