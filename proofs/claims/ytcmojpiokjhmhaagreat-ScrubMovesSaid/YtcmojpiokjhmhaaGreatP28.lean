import Derived.Test.YtcmojpiokjhmhaaGreatP25
import Derived.Test.YtcmojpiokjhmhaaGreatP17
import Derived.Test.YtcmojpiokjhmhaaGreatP26
import Derived.Test.YtcmojpiokjhmhaaGreatP27
import Derived.Test.YtcmojpiokjhmhaaGreatP4
namespace Go.Proofs.YtcmojpiokjhmhaaGreat
open Go.Sl Go.RowKit
set_option linter.unusedVariables false
set_option linter.unusedSimpArgs false
set_option maxRecDepth 20000
section
variable {K : World} {F : List ak}
theorem Jq (aB : Int) : aL Tryz.prog 51 #[.pointer none, .int .i64 aB] K F (.int .i64 3) := by
  refine Does.enter Tryz.func51 rfl Tryz.ntmps51 rfl ?_
  simp only [aI, Nat.reduceAdd]
  refine WC.sr (WL.sg rfl rfl (WL.nil (WC.seq (WC.block (WC.sr (WL.mv rfl rfl (WL.val (V.lQ Tryz.underlying33 (OV.p rfl) (OV.p rfl)) rfl (WL.sg rfl rfl (WL.nil ?_)))))))))
  refine WC.dV rfl (by first | rfl | (simp; done) | (simp; omega)) ?_
  refine WC.sr (WL.sg rfl rfl (WL.nil (WC.ret ?_)))
  exact au.ret (H' := F) (aO.tmp rfl rfl) (fun w h => h) ⟨rfl, rfl⟩
theorem KR (aB : Int) : aL Tryz.prog 36 #[.pointer none, .int .i64 aB] K F (.tuple #[.slice none 0 0, .int .i64 0, .int .i64 3]) := by
  refine Does.enter Tryz.func36 rfl Tryz.ntmps36 rfl ?_
  simp only [aI, Nat.reduceAdd]
  refine WC.sr (WL.sg rfl rfl (WL.sg rfl rfl (WL.sg rfl rfl (WL.nil (WC.seq (WC.sr (WL.mv rfl rfl (WL.mv rfl rfl (WL.call (vs := [_, _]) Tryz.call51 ⟨OV.p rfl, OV.p rfl, trivial⟩ (Jq aB) rfl ?_)))))))))
  rintro _ H0 ⟨rfl, h0⟩
  subst H0
  refine WL.sg rfl rfl (WL.nil (WC.sr (WL.mv rfl rfl (WL.val (V.neq (OV.p rfl) (OV.p rfl)) rfl (WL.nil ?_)))))
  refine WC.dV rfl ((by simp)) ?_
  refine WC.sr (WL.mv rfl rfl (WL.sg rfl rfl (WL.sg rfl rfl (WL.sg rfl rfl (WL.nil (WC.ret ?_))))))
  exact au.ret (H' := F) (aO.r9 rfl rfl rfl rfl) (fun w h => h) ⟨rfl, rfl⟩
end
def Pb : Geo := ⟨4, 3, 1, 16, 1⟩
def Da : List Nat := [97, 98, 99]
def QA : ah := ah.new Pb []
def Rv : St := gY QA 2
def c11 : ah × St × Int := aK QA Rv 0 Da
section
variable {bs bd bc : Nat} {g : Geo} {C : Cw} {K : World} {F : List ak}
theorem Kl (hg : g.aD) : aL Tryz.prog 15 #[g.v] K F (.int .i64 g.cap) := by
  have hr := Geo.iQ hg
  have hcb := Geo.nT hg
  have hgb := hg
  unfold Geo.aD at hgb
  have hq : (g.pg - 1) * g.room = g.cap := rfl
  refine Does.enter Tryz.func15 rfl Tryz.ntmps15 rfl ?_
  simp only [aI, Nat.reduceAdd]
  refine WC.sr ?_
  refine WL.box (cs := [_, _, _, _, _]) (OV.p rfl) rfl rfl (fun b1 => ?_)
  refine WL.sg rfl rfl (WL.nil (WC.seq ?_))
  refine WC.eG (by kernel_rfl) (by kernel_rfl) ?_
  refine WQ.val (V.fieldAddr nR (OV.p rfl)) rfl ?_
  refine WQ.val (V.load Tryz.isAgg3 (OV.p rfl) (fun _ => by repeat (first | exact Rd.here rfl | apply Rd.up))) rfl ?_
  refine WQ.val (V.tu (OV.p rfl) (OV.p rfl) (fun hc => by first | omega | (simp at hc; omega))) rfl ?_
  refine WQ.val (V.bB (vs := [_, _, _, _, _]) ⟨Tryz.isAgg23, Tryz.sizeOf23⟩ (OV.p rfl) rfl (fun _ => by repeat (first | exact bD.gets ⟨rfl, rfl, rfl, rfl, rfl, trivial⟩ | apply bD.up))) rfl ?_
  refine WQ.call (vs := [_]) Tryz.call44 ⟨OV.p rfl, trivial⟩ (zN g hg _ _) rfl ?_
  refine WQ.val (V.jF (OV.p rfl) (OV.p rfl) (fun hc => by first | omega | (simp at hc; omega))) rfl ?_
  refine WQ.val (V.assign (OV.p rfl)) rfl (WQ.nil (WC.ret ?_))
  exact au.ret (H' := F) (aO.tmp rfl rfl) (fun w h => by repeat (first | exact h | replace h := h.tail)) ⟨rfl, rfl⟩
end
theorem KX {g : Geo} {bad : List Int} (hg : g.aD) : (ah.new g bad).bQ = [] := by
  rw [List.eq_nil_iff_forall_not_mem]
  intro x hx
  obtain ⟨_, _, _, d, h⟩ := (ah.vU (ah.CM.new (bad := bad) hg 0 0).ci rfl x).1 hx
  cases h
theorem BZ {g : Geo} {bad : List Int} (hg : g.aD) (aj : Nat) : (gY (ah.new g bad) aj).next = 1 := by
  show kg (ah.new g bad).bQ = 1
  rw [KX hg]; rfl
section
variable {K : World} {F : List ak} {M : Mw}
end
section
variable {bs bd bc aj L B : Nat} {g : Geo} {T : bC} {C : Cw} {M : Mw} {m : Lm} {st : Int → uN} {K : World} {F : List ak}
end
open Go.Sl Go.ChangeShapes Go.WideShapes Go.ChangeAt Go.RowKit
structure BD where
  (kind aB block n keep : Int)
  dA : Option Addr
  dc : Nat
  dx : List Nat
namespace BD
abbrev cells (o : BD) : List Value := [.int .i64 o.kind, .int .i64 o.aB, .int .i64 o.block, .int .i64 o.n, .int .i64 o.keep, .slice o.dA o.dx.length o.dc]
structure Ok (K : World) (F : List ak) (o : BD) : Prop where
  n : o.n ≤ 9223372036854775807
  kp : -9223372036854775808 ≤ o.keep ∧ o.keep ≤ 9223372036854775807
  data : Seq K F o.dA o.dx.length 1 (aA .u8 o.dx)
  d8 : Small 256 o.dx
  dle : o.dx.length ≤ o.dc
theorem Ok.up {K : World} {F : List ak} {o : BD} {X : ak} (h : o.Ok K F) : o.Ok K (X :: F) := ⟨h.n, h.kp, h.data.up, h.d8, h.dle⟩
end BD
structure pJ (K : World) (F : List ak) (A : Option Addr) (m : Nat) (l : List BD) : Prop where
  seq : Seq K F A m 6 (l.map BD.cells).flatten
  len : l.length = m
  ok : ∀ o ∈ l, o.Ok K F
theorem pJ.up {K : World} {F : List ak} {A : Option Addr} {m : Nat} {l : List BD} {X : ak} (h : pJ K F A m l) : pJ K (X :: F) A m l := ⟨h.seq.up, h.len, fun o ho => (h.ok o ho).up⟩
theorem kQ {s : Nat} : ∀ {l : List (List Value)}, (∀ x ∈ l, x.length = s) → ∀ {i j : Nat} {x : List Value} {v : Value}, l[i]? = some x → x[j]? = some v → l.flatten[i * s + j]? = some v
  | [], _, _, _, _, _, h, _ => by simp at h
  | y :: l, hs, 0, j, x, v, h, hj => by
    simp at h; subst h
    rw [List.flatten_cons, Nat.zero_mul, Nat.zero_add, List.getElem?_append_left]
    · exact hj
    · rcases Nat.lt_or_ge j y.length with h | h
      · exact h
      · rw [List.getElem?_eq_none h] at hj; cases hj
  | y :: l, hs, i + 1, j, x, v, h, hj => by
    have hy := hs y (.head _)
    rw [List.flatten_cons, List.getElem?_append_right (by rw [hy, Nat.add_mul]; omega), hy, show (i + 1) * s + j - s = i * s + j by rw [Nat.add_mul]; omega]
    exact kQ (fun z hz => hs z (.tail _ hz)) (by simpa using h) hj
theorem pJ.elem {K : World} {F : List ak} {A : Option Addr} {m : Nat} {l : List BD} (h : pJ K F A m l) {i : Nat} {o : BD} (hi : l[i]? = some o) {j : Nat} {v : Value} (hj : o.cells[j]? = some v) : Rd K F (A.map (·.add (i * 6 + j))) v :=
  h.seq.rd _ _ (kQ (fun x hx => by obtain ⟨o, _, rfl⟩ := List.mem_map.1 hx; rfl) (by rw [List.getElem?_map, hi]; rfl) hj)
structure JO (aj : Nat) (g : Geo) (i : Nat) (C : Cw) (T : bC) (M : Mw) : Prop where
  ok : C.Ok
  TD : C.g = g
  tok : T.Ok g
  up : C.sem.up = true
  si : ∃ st, ah.SI aj aj (256 + i) C.sem st T.sem M.sem
  next : T.sem.next ≤ 1 + 20 * (i : Int)
  lh : M.has.length = aj
  ld : M.dat.length = aj
section
variable {aj i : Nat} {g : Geo} {C C' : Cw} {T : bC} {M : Mw}
theorem JO.turn (h : JO aj g i C T M) (h1 : C'.Ok) (h2 : C'.g = g) (h3 : C'.sem.up = true) (e : ah.sj C.sem C'.sem) : JO aj g (i + 1) C' T M := by
  obtain ⟨st, hI⟩ := h.si
  exact ⟨h1, h2, h.tok, h3, ⟨st, (hI.eqv e).wider (by omega)⟩, by have := h.next; omega, h.lh, h.ld⟩
theorem JO.stay (h : JO aj g i C T M) : JO aj g (i + 1) C T M := h.turn h.ok h.TD h.up (ah.sj.of rfl rfl rfl rfl rfl)
structure Q5 (aj : Nat) (g : Geo) (N : Nat) (S : ah) (T : St) (e : Int) (m m3 : Lm) : Prop where
  TD : S.g = g
  next : T.next ≤ 1 + 20 * (N : Int)
  res : (e = 0 ∧ S.up = true ∧ ∃ st, ah.SI aj aj (256 + N) S st T m3) ∨ (e = 6 ∧ S.up = true ∧ ∃ st, ah.SI aj aj (256 + N) S st T m) ∨
    (e = 70 ∧ T.dead = true ∧ ∃ st, ah.wQ S st (1 + 20 * (N : Int)) ∧ (ah.CM aj aj S st m ∨ ah.CM aj aj S st m3))
theorem Q5.opened {N : Nat} {S S' : ah} {T : St} {e : Int} {m m3 : Lm} (h : Q5 aj g N S T e m m3) (he : e = 70) (hE : ah.sj S S') (hu : S'.up = true) : ∃ mm : Lm, (mm = m ∨ mm = m3) ∧ (∃ st, ah.SI aj aj (256 + N) S' st (gY S' aj) mm) ∧ (gY S' aj).next ≤ 1 + 20 * (N : Int) := by
  rcases h.res with ⟨h1, _⟩ | ⟨h1, _⟩ | ⟨_, _, st, h2, h3⟩
  · rw [he] at h1; exact absurd h1 (by decide)
  · rw [he] at h1; exact absurd h1 (by decide)
  · have hn := h2.eqv hE
    rcases h3 with h3 | h3
    · have h4 := h3.eqv hE
      exact ⟨m, .inl rfl, ⟨st, (ah.nX h4 hu).wider (by omega)⟩, ah.jX h4.ci hu hn (by omega) aj⟩
    · have h4 := h3.eqv hE
      exact ⟨m3, .inr rfl, ⟨st, (ah.nX h4 hu).wider (by omega)⟩, ah.jX h4.ci hu hn (by omega) aj⟩
end
end Go.Proofs.YtcmojpiokjhmhaaGreat
