/- bch: Encode, nought; bits.Ones. -/
import Derived.Test.YtohkefolnmcjnaaB7
import Derived.Test.YtohkefolnmcjnaaB8
import Derived.Test.YtohkefolnmcjnaaSlV
namespace Go.Proofs.Ytohkefolnmcjnaa
open Go.Sl Go.RowKit
set_option linter.unusedVariables false
set_option linter.unusedSimpArgs false
set_option maxRecDepth 20000

/-- x to the 13 t. -/
def shiftB (t : Nat) : List Nat := (List.replicate (moreLen t + 1) 0).set (13 * t / 8) (2 ^ (13 * t % 8))
def prodB (t : Nat) (d : List Nat) : List Nat := (bmulF (shiftB t) d).take (normLen (bmulF (shiftB t) d) ((shiftB t).length + d.length + 1))
def restB (t : Nat) (d : List Nat) : List Nat := bmodTo (prodB t d) (genB t) (genB t).length (13 * t) (8 * (prodB t d).length - 13 * t)
def restLen (t : Nat) (d : List Nat) : Nat := normLen (restB t d) ((prodB t d).length + 1)
def encB (t : Nat) (d : List Nat) : List Nat := (restB t d).take (restLen t d) ++ List.replicate (moreLen t - restLen t d) 0
theorem shiftB_length (t : Nat) : (shiftB t).length = moreLen t + 1 := by simp [shiftB]
theorem shiftB_small (t : Nat) : Small 256 (shiftB t) := (Small.repl (by decide)).set (pow8_lt (Nat.mod_lt _ (by decide)))
theorem prodB_small {t : Nat} {d : List Nat} (h : Small 256 d) : Small 256 (prodB t d) := Small.take (bmulTo_small h _)
theorem restB_length (t : Nat) (d : List Nat) : (restB t d).length = (prodB t d).length + 1 := bmodTo_length _ _ _ _ _
theorem restB_small {t : Nat} {d : List Nat} (ht : 1 ≤ t ∧ t ≤ 8) (h : Small 256 d) : Small 256 (restB t d) := bmodTo_small (prodB_small h) (gen_facts ht).2.2.2.2 _
theorem restLen_le {t : Nat} {d : List Nat} (ht : 1 ≤ t ∧ t ≤ 8) (h : Small 256 d) : restLen t d ≤ moreLen t ∧ restLen t d ≤ (prodB t d).length + 1 := by
  obtain ⟨g1, g2, g3, g4, g5⟩ := gen_facts ht
  refine ⟨normLen_bits (restB_small ht h) (fun k hk => bmod_rest (prodB_small h) g5 rfl g3 g4 hk) _, normLen_le _ _⟩
theorem encB_length {t : Nat} {d : List Nat} (ht : 1 ≤ t ∧ t ≤ 8) (h : Small 256 d) : (encB t d).length = moreLen t := by
  have h1 := restLen_le ht h
  unfold encB
  rw [List.length_append, List.length_take, List.length_replicate, restB_length]; omega
theorem encB_small {t : Nat} {d : List Nat} (ht : 1 ≤ t ∧ t ≤ 8) (h : Small 256 d) : Small 256 (encB t d) := (Small.take (restB_small ht h)).append (Small.repl (by decide))

section
variable {K : World} {F : List Assn}
theorem bch_Encode {t : Nat} {A : Option Addr} {m cap : Nat} {d : List Nat} (ht : 1 ≤ t ∧ t ≤ 8) (hd : Seq K F A m 1 (nats .u8 d)) (hd8 : Small 256 d) (hdl : 1 ≤ m ∧ m ≤ 512) :
    Does Try.prog 43 #[.int .i64 (t : Int), .slice A m cap] K F
      (fun v H' => ∃ A' cap', v = .tuple #[.slice A' (moreLen t) cap', .int .i64 0] ∧ H' = SlA (.slice A' (moreLen t) cap') 5 1 (moreLen t) (nats .u8 (encB t d)) :: F) := by
  have hl : d.length = m := by simpa [nats] using hd.len
  have hn13 : 2 ≤ moreLen t ∧ moreLen t ≤ 13 ∧ 13 * t / 8 ≤ moreLen t := by unfold moreLen; omega
  obtain ⟨n, hn⟩ : ∃ n, n = moreLen t := ⟨_, rfl⟩
  obtain ⟨g1, g2, g3, g4, g5⟩ := gen_facts ht
  have hrl := restLen_le ht hd8
  have hpl : (prodB t d).length = normLen (bmulF (shiftB t) d) ((shiftB t).length + d.length + 1) := by
    unfold prodB bmulF
    have := normLen_le (bmulTo (shiftB t) d (8 * (shiftB t).length)) ((shiftB t).length + d.length + 1)
    rw [List.length_take, bmulTo_length]; omega
  have hpl2 : (prodB t d).length ≤ n + 1 + m + 1 := by rw [hpl, shiftB_length, hl, ← hn]; exact normLen_le _ _
  rw [← hn] at hn13 hrl ⊢
  refine Does.enter Try.func43 rfl Try.ntmps43 rfl ?_
  simp only [env0, Nat.reduceAdd]
  refine WC.seq ?_
  refine WC.region ?_
  refine WL.val (V.assign (OV.p rfl)) rfl ?_
  refine WL.val (V.assign (OV.p rfl)) rfl ?_
  refine WL.nil ?_
  refine WC.seq ?_
  refine WC.region ?_
  refine WL.val (V.move (OV.p rfl)) rfl ?_
  refine WL.val (V.move (OV.p rfl)) rfl ?_
  refine WL.call (vs := [_, _]) Try.call57 ⟨OV.p rfl, OV.p rfl, trivial⟩ (Tells.eq (v' := .tuple #[.int .i64 (n : Int), .int .i64 0]) (bch_size ht hdl) (by rw [hn])) rfl ?_
  rintro _ H0 ⟨rfl, h0⟩
  subst H0
  refine WL.val (V.move (OV.p rfl)) rfl ?_
  refine WL.val (V.extract (OV.p rfl) rfl) rfl ?_
  refine WL.val (V.extract (OV.p rfl) rfl) rfl ?_
  refine WL.val (V.assign (OV.p rfl)) rfl ?_
  refine WL.val (V.assign (OV.p rfl)) rfl ?_
  refine WL.nil ?_
  refine WC.seq ?_
  refine WC.seq ?_
  refine WC.region ?_
  refine WL.val (V.move (OV.p rfl)) rfl ?_
  refine WL.val (V.neq (OV.p rfl) (OV.p rfl)) rfl ?_
  refine WL.nil ?_
  refine WC.condF' rfl (by first | rfl | (simp; done) | (simp; omega)) ?_
  refine WC.skip ?_
  refine WC.seq ?_
  refine WC.region ?_
  refine WL.val (V.move (OV.p rfl)) rfl ?_
  refine WL.call (vs := [_]) Try.call58 ⟨OV.p rfl, trivial⟩ (bpoly_Generator ht) rfl ?_
  rintro _ _ ⟨gg, gfull, gcap, rfl, hgc, hgf, rfl⟩
  have hgs : ∀ {H : List Assn}, Seq K (Cells gg 5 (nats .u8 gfull) :: H) (some ⟨gg, 0, none⟩) (genB t).length 1 (nats .u8 (genB t)) := fun {H} => Seq.here (by rw [nats_length]; omega) (by rw [List.drop_zero]; exact nats_prefix (by rw [hgf]; exact List.take_prefix _ _))
  refine WL.val (V.move (OV.p rfl)) rfl ?_
  refine WL.val (V.extract (OV.p rfl) rfl) rfl ?_
  refine WL.val (V.extract (OV.p rfl) rfl) rfl ?_
  refine WL.val (V.assign (OV.p rfl)) rfl ?_
  refine WL.val (V.assign (OV.p rfl)) rfl ?_
  refine WL.nil ?_
  refine WC.seq ?_
  refine WC.region ?_
  refine WL.val (V.move (OV.p rfl)) rfl ?_
  refine WL.val (V.addI (OV.p rfl) (OV.p rfl) (fun hc => by first | omega | (simp at hc; omega))) rfl ?_
  refine WL.make1 (m := n + 1) Try.underlying24 el5 (OV.p rfl) (OV.p rfl) (by omega) (by omega) (by omega) rfl rfl rfl (fun b29 => ?_)
  refine WL.val (V.assign (OV.p rfl)) rfl ?_
  refine WL.nil ?_
  refine WC.seq ?_
  refine WC.region ?_
  refine WL.val (V.move (OV.p rfl)) rfl ?_
  refine WL.val (V.move (OV.p rfl)) rfl ?_
  refine WL.val (V.mulI (OV.p rfl) (OV.p rfl) (fun hc => by first | omega | (simp at hc; omega))) rfl ?_
  refine WL.val (V.quoI (OV.p rfl) (OV.p rfl) (fun hc => by first | omega | (simp at hc; omega))) rfl ?_
  refine WL.val (V.move (OV.p rfl)) rfl ?_
  refine WL.val (V.mulI (OV.p rfl) (OV.p rfl) (fun hc => by first | omega | (simp at hc; omega))) rfl ?_
  refine WL.val (V.val_eq (v' := .int .i64 ((13 * t % 8 : Nat) : Int)) (V.remI (OV.p rfl) (OV.p rfl) (fun _ => by omega)) (fun _ => by simp)) rfl ?_
  refine WL.val (V.val_eq (v' := .int .u8 ((2 ^ (13 * t % 8) : Nat) : Int)) (V.shl (OV.p rfl) (OV.p rfl) (by omega)) (fun _ => by rw [shl8_one (by omega)])) rfl ?_
  refine WL.val (V.idxB st24 (OV.p rfl) (OV.p rfl) (fun hc => by omega)) rfl ?_
  refine WL.store (cs := [_]) Try.sizeOf5 (OV.p rfl) (OV.p rfl) rfl rfl rfl (Upd.at_ (by rw [List.length_replicate]; omega)) ?_
  have hsh : (List.replicate (n + 1) (Value.int .u8 0)).set (0 + (13 * (t : Int) / 8).toNat * 1) (.int .u8 ((2 ^ (13 * t % 8) : Nat) : Int)) = nats .u8 (shiftB t) := by
    unfold shiftB
    rw [← nats_set, nats_replicate, ← hn, show 0 + (13 * (t : Int) / 8).toNat * 1 = 13 * t / 8 by omega]; rfl
  rw [hsh]
  refine WL.nil ?_
  refine WC.seq ?_
  refine WC.region ?_
  refine WL.val (V.move (OV.p rfl)) rfl ?_
  refine WL.val (V.move (OV.p rfl)) rfl ?_
  refine WL.call (vs := [_, _]) Try.call60 ⟨OV.p rfl, OV.p rfl, trivial⟩ (bpoly_Mul (ps := shiftB t) (qs := d) (Seq.allN (by rw [shiftB_length, hn])) hd.up.up (shiftB_small t) hd8 (by rw [shiftB_length, hl, ← hn]; omega)) rfl ?_
  rintro _ _ ⟨gp, rfl, rfl⟩
  have hps : ∀ {H : List Assn}, Seq K (Cells gp 5 (nats .u8 (bmulF (shiftB t) d)) :: H) (some ⟨gp, 0, none⟩) (normLen (bmulF (shiftB t) d) ((shiftB t).length + d.length + 1)) 1 (nats .u8 (prodB t d)) := fun {H} => Seq.here (by rw [nats_length, hpl]; omega) (by rw [List.drop_zero]; exact nats_prefix (List.take_prefix _ _))
  refine WL.val (V.move (OV.p rfl)) rfl ?_
  refine WL.call (vs := [_, _]) Try.call59 ⟨OV.p rfl, OV.p rfl, trivial⟩ (bpoly_Mod (ps := prodB t d) (qs := genB t) (d := 13 * t) hps (by repeat (first | exact hgs | apply Seq.up)) (prodB_small hd8) g5 hgc (by rw [g3]; omega) g1 (by rw [g2, List.take_of_length_le (by omega), ← g3]; exact g1) (by rw [g2])) rfl ?_
  rintro _ _ ⟨gr, rfl, rfl⟩
  have hrb : bmodTo (prodB t d) ((genB t).take (normLen (genB t) (genB t).length)) (normLen (genB t) (genB t).length) (13 * t) (8 * normLen (bmulF (shiftB t) d) ((shiftB t).length + d.length + 1) - 13 * t) = restB t d := by
    unfold restB
    rw [g2, List.take_of_length_le (by omega), ← hpl, g3]
  rw [hrb]
  have hrl2 : normLen (restB t d) (normLen (bmulF (shiftB t) d) ((shiftB t).length + d.length + 1) + 1) = restLen t d := by unfold restLen; rw [hpl]
  rw [hrl2, ← hpl]
  refine WL.val (V.move (OV.p rfl)) rfl ?_
  refine WL.val (V.extract (OV.p rfl) rfl) rfl ?_
  refine WL.val (V.extract (OV.p rfl) rfl) rfl ?_
  refine WL.val (V.assign (OV.p rfl)) rfl ?_
  refine WL.val (V.assign (OV.p rfl)) rfl ?_
  refine WL.nil ?_
  refine WC.seq ?_
  refine WC.region ?_
  refine WL.val (V.move (OV.p rfl)) rfl ?_
  refine WL.val (V.move (OV.p rfl)) rfl ?_
  refine WL.val (V.move (OV.p rfl)) rfl ?_
  refine WL.val (V.len (t := 24) Try.runUnderlying24 (OV.p rfl)) rfl ?_
  refine WL.val (V.subI (OV.p rfl) (OV.p rfl) (fun hc => by first | omega | (simp at hc; omega))) rfl ?_
  refine WL.sub (Sub.refl _) (fun w h => Sat.toSl (m := restLen t d) (cap := (prodB t d).length + 1) (s := 1) h (by rw [nats_length, restB_length, Nat.mul_one]) hrl.2 (by simp only [maxLen]; omega)) ?_
  refine WL.appendZ (m := restLen t d) (q := n - restLen t d) Try.underlying24 Try.underlying3 el5 rfl rfl (OV.p rfl) (OV.p rfl) (by omega) (by omega) (by omega) rfl (fun A' c' hn' hc' => ?_)
  refine WL.val (V.assign (OV.p rfl)) rfl ?_
  refine WL.val (V.assign (OV.p rfl)) rfl ?_
  refine WL.nil ?_
  refine WC.ret ?_
  have he : (nats .u8 (restB t d)).take (restLen t d * 1) ++ List.replicate (n - restLen t d) (.int .u8 0) = nats .u8 (encB t d) := by
    unfold encB
    rw [nats_append, Nat.mul_one, nats_take, ← hn, nats_replicate]; rfl
  have hnn : restLen t d + (n - restLen t d) = n := by omega
  refine BodyQ.ret (H' := SlA (.slice A' n c') 5 1 n (nats .u8 (encB t d)) :: F) (Res.tmp2 rfl (look_eq rfl (by rw [hnn])) rfl) (fun w h => ?_) ⟨A', c', rfl, rfl⟩
  have h' := h.sel 4 [0] rfl
  rw [he, hnn] at h'
  exact h'
end
end Go.Proofs.Ytohkefolnmcjnaa
