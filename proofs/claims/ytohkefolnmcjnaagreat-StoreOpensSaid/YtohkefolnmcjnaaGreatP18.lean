import Derived.Test.YtohkefolnmcjnaaGreatP17
import Derived.Test.YtohkefolnmcjnaaGreatP15
import Derived.Test.YtohkefolnmcjnaaGreatP16
/- The drive's functions at any geometry; a nil drive; casematelaw08: small, tiny, awake. -/
namespace Go.Proofs.YtohkefolnmcjnaaGreat
open Go.Sl Go.RowKit
set_option linter.unusedVariables false
set_option linter.unusedSimpArgs false
set_option maxRecDepth 20000

namespace Chip
theorem program_g (S : Chip) (b p : Int) (xs : List Int) : (S.program b p xs).1.g = S.g := by unfold program; repeat (first | rfl | split)
theorem erase_g (S : Chip) (b : Int) : (S.erase b).1.g = S.g := by unfold erase; repeat (first | rfl | split)
theorem mark_g (S : Chip) (b : Int) : (S.mark b).1.g = S.g := by
  unfold mark all
  repeat (first | rfl | split)
theorem done_g (b : Int) (x : Chip × Int) : (done b x).1.g = x.1.g := by
  unfold done
  split
  · rfl
  · split
    · exact mark_g _ _
    · exact mark_g _ _
theorem dWrite_g (S : Chip) (b p : Int) (d : List Nat) : (S.dWrite b p d).1.g = S.g := by
  unfold dWrite
  split
  · rfl
  · rw [done_g, program_g]
theorem dErase_g (S : Chip) (b : Int) : (S.dErase b).1.g = S.g := by
  unfold dErase
  split
  · rfl
  · rw [done_g, erase_g]
end Chip
theorem Cw.g_sem {C C' : Cw} {S : Chip} (h : C'.sem = S) (hg : S.g = C.sem.g) : C'.g = C.g := by
  have : C'.sem.g = C.sem.g := by rw [h, hg]
  exact this
section
variable {bc bd : Nat} {C : Cw} {g : Geo} {K : World} {F : List Assn}
theorem drive_WriteG (hC : C.Ok) (hg : C.g = g) (b p : Int) {A : Option Addr} {m cap : Nat} {d : List Nat} (hd : Seq K F A m 1 (nats .u8 d)) (h8 : Small 256 d) (hmc : m ≤ cap) (hm : m ≤ 1000000) :
    Does Tryz.prog 23 #[ptr bd 0, .int .i64 b, .int .i64 p, .slice A m cap] K (C.A bc :: DvA bd bc g :: F)
    (fun v H' => ∃ C' : Cw, C'.Ok ∧ C'.g = g ∧ H' = C'.A bc :: DvA bd bc g :: F ∧ C'.sem = (C.sem.dWrite b p d).1 ∧ v = .int .i64 (C.sem.dWrite b p d).2) := by
  subst hg
  exact (drive_Write hC b p hd h8 hmc hm).mono fun v H' ⟨C', h1, h2, h3, h4⟩ => ⟨C', h1, Cw.g_sem h3 (Chip.dWrite_g _ _ _ _), h2, h3, h4⟩
theorem drive_EraseG (hC : C.Ok) (hg : C.g = g) (b : Int) : Does Tryz.prog 61 #[ptr bd 0, .int .i64 b] K (C.A bc :: DvA bd bc g :: F)
    (fun v H' => ∃ C' : Cw, C'.Ok ∧ C'.g = g ∧ H' = C'.A bc :: DvA bd bc g :: F ∧ C'.sem = (C.sem.dErase b).1 ∧ v = .int .i64 (C.sem.dErase b).2) := by
  subst hg
  exact (drive_Erase hC b).mono fun v H' ⟨C', h1, h2, h3, h4⟩ => ⟨C', h1, Cw.g_sem h3 (Chip.dErase_g _ _), h2, h3, h4⟩
theorem drive_ReadG (hC : C.Ok) (hg : C.g = g) (b p : Int) : Does Tryz.prog 26 #[ptr bd 0, .int .i64 b, .int .i64 p] K (C.A bc :: DvA bd bc g :: F)
    (fun v H' => ∃ A' c', v = .tuple #[.slice A' (C.sem.dRead b p).d.length c', .int .i64 ((C.sem.dRead b p).n : Nat), .int .i64 (C.sem.dRead b p).err] ∧
      H' = SlA (.slice A' (C.sem.dRead b p).d.length c') 5 1 (C.sem.dRead b p).d.length (nats .u8 (C.sem.dRead b p).d) :: C.A bc :: DvA bd bc g :: F) := by
  subst hg
  exact drive_Read hC b p
theorem drive_WholeG (hC : C.Ok) (hg : C.g = g) (b n : Int) (hn : -9223372036854775808 ≤ n ∧ n ≤ 9223372036854775807) : Tells Tryz.prog 27 #[ptr bd 0, .int .i64 b, .int .i64 n] K (C.A bc :: DvA bd bc g :: F) (.tuple #[.bool (C.sem.dWhole b n).1, .int .i64 (C.sem.dWhole b n).2]) := by
  subst hg
  exact drive_Whole hC b n hn
theorem drive_GoodG (hC : C.Ok) (hg : C.g = g) : Does Tryz.prog 18 #[ptr bd 0] K (C.A bc :: DvA bd bc g :: F)
    (fun v H' => ∃ A' c', v = .slice A' C.sem.good.length c' ∧ H' = SlA (.slice A' C.sem.good.length c') 3 1 C.sem.good.length (ints .i64 C.sem.good) :: C.A bc :: DvA bd bc g :: F) := by
  subst hg
  exact drive_Good hC
theorem drive_NewG (hC : C.Ok) (hg : C.g = g) : Does Tryz.prog 14 #[ptr bc 0] K (C.A bc :: F) (fun v H' => ∃ bd, v = .tuple #[ptr bd 0, .int .i64 0] ∧ H' = C.A bc :: DvA bd bc g :: F) := by
  subst hg
  exact drive_New hC
theorem chip_WeakG (hC : C.Ok) (hg : C.g = g) (b : Int) : Does Tryz.prog 43 #[ptr bc 0, .int .i64 b] K (C.A bc :: F) (fun v H' => ∃ C' : Cw, C'.Ok ∧ C'.g = g ∧ H' = C'.A bc :: F ∧ C'.sem = C.sem.weaken b) := by
  refine (chip_Weak (C := C) b).mono fun v H' h => ?_
  subst h
  cases hb : C.sem.block b with
  | true => exact ⟨C.weaken b, hC.weaken, hg, rfl, by unfold Chip.weaken; rw [if_pos hb]; rfl⟩
  | false => exact ⟨C, hC, hg, rfl, by unfold Chip.weaken; rw [if_neg (by rw [hb]; decide)]⟩
/-! ### A nil drive -/
theorem nil_New : Tells Tryz.prog 14 #[.pointer none] K F (.tuple #[.pointer none, .int .i64 3]) := by
  refine Does.enter Tryz.func14 rfl Tryz.ntmps14 rfl ?_
  simp only [env0, Nat.reduceAdd]
  refine WC.sr ?_
  refine WL.val (V.assign (OV.p rfl)) rfl ?_
  refine WL.val (V.assign (OV.p rfl)) rfl ?_
  refine WL.nil ?_
  refine WC.seq ?_
  refine WC.sr ?_
  refine WL.val (V.move (OV.p rfl)) rfl ?_
  refine WL.val (V.eqlP Tryz.underlying27 (OV.p rfl) (OV.p rfl)) rfl ?_
  refine WL.nil ?_
  refine WC.condT' rfl (by first | rfl | (simp; done) | (simp; omega)) ?_
  refine WC.sr ?_
  refine WL.val (V.assign (OV.p rfl)) rfl ?_
  refine WL.val (V.assign (OV.p rfl)) rfl ?_
  refine WL.nil ?_
  refine WC.ret ?_
  exact BodyQ.ret (H' := F) (Res.tmp2 rfl rfl rfl) (fun w h => h) ⟨rfl, rfl⟩
theorem nilD_Geometry : Tells Tryz.prog 20 #[.pointer none] K F (Geo.mk 0 0 0 0 0).v := by
  refine Does.enter Tryz.func20 rfl Tryz.ntmps20 rfl ?_
  simp only [env0, Nat.reduceAdd]
  refine WC.sr ?_
  refine WL.alloc (cs := [(.int .i64 0), (.int .i64 0), (.int .i64 0), (.int .i64 0), (.int .i64 0)]) Tryz.zeroValue23 rfl rfl (fun b2 => ?_)
  refine WL.nil ?_
  refine WC.seq ?_
  refine WC.sr ?_
  refine WL.val (V.move (OV.p rfl)) rfl ?_
  refine WL.val (V.eqlP Tryz.underlying31 (OV.p rfl) (OV.p rfl)) rfl ?_
  refine WL.nil ?_
  refine WC.condT' rfl (by first | rfl | (simp; done) | (simp; omega)) ?_
  refine WC.sr ?_
  refine WL.val (V.build (vs := []) trivial rfl (bld23 )) rfl ?_
  refine WL.store (cs := [_, _, _, _, _]) Tryz.sizeOf23 (OV.p rfl) (OV.p rfl) rfl rfl rfl (by repeat (first | exact Upd.here (cs' := [_, _, _, _, _]) rfl rfl | apply Upd.up)) ?_
  refine WL.nil ?_
  refine WC.ret ?_
  exact BodyQ.ret (H' := F) (Res.one rfl (R1.cellA (vs := [_, _, _, _, _]) rfl ⟨Tryz.isAgg23, Tryz.sizeOf23⟩ rfl (by repeat (first | exact Rds.gets ⟨rfl, rfl, rfl, rfl, rfl, trivial⟩ | apply Rds.up)))) (fun w h => h.drop 1) ⟨rfl, rfl⟩
theorem nilD_ahead (b p : Int) (ok : Bool) : Tells Tryz.prog 74 #[.pointer none, .int .i64 b, .int .i64 p, .bool ok] K F (.int .i64 3) := by
  refine Does.enter Tryz.func74 rfl Tryz.ntmps74 rfl ?_
  simp only [env0, Nat.reduceAdd]
  refine WC.sr ?_
  refine WL.val (V.assign (OV.p rfl)) rfl ?_
  refine WL.nil ?_
  refine WC.seq ?_
  refine WC.block ?_
  refine WC.sr ?_
  refine WL.val (V.move (OV.p rfl)) rfl ?_
  refine WL.val (V.eqlP Tryz.underlying31 (OV.p rfl) (OV.p rfl)) rfl ?_
  refine WL.val (V.assign (OV.p rfl)) rfl ?_
  refine WL.nil ?_
  refine WC.condT' rfl (by first | rfl | (simp; done) | (simp; omega)) ?_
  refine WC.sr ?_
  refine WL.val (V.assign (OV.p rfl)) rfl ?_
  refine WL.nil ?_
  refine WC.ret ?_
  exact BodyQ.ret (H' := F) (Res.tmp rfl rfl) (fun w h => h) ⟨rfl, rfl⟩
theorem nilD_Read (b p : Int) : Tells Tryz.prog 26 #[.pointer none, .int .i64 b, .int .i64 p] K F (.tuple #[.slice none 0 0, .int .i64 0, .int .i64 3]) := by
  refine Does.enter Tryz.func26 rfl Tryz.ntmps26 rfl ?_
  simp only [env0, Nat.reduceAdd]
  refine WC.sr ?_
  refine WL.val (V.assign (OV.p rfl)) rfl ?_
  refine WL.val (V.assign (OV.p rfl)) rfl ?_
  refine WL.val (V.assign (OV.p rfl)) rfl ?_
  refine WL.nil ?_
  refine WC.seq ?_
  refine WC.sr ?_
  refine WL.val (V.move (OV.p rfl)) rfl ?_
  refine WL.val (V.move (OV.p rfl)) rfl ?_
  refine WL.val (V.move (OV.p rfl)) rfl ?_
  refine WL.call (vs := [_, _, _, _]) Tryz.call74 ⟨OV.p rfl, OV.p rfl, OV.p rfl, OV.p rfl, trivial⟩ (nilD_ahead b p true) rfl ?_
  rintro _ H0 ⟨rfl, h0⟩
  subst H0
  refine WL.val (V.assign (OV.p rfl)) rfl ?_
  refine WL.nil ?_
  refine WC.sr ?_
  refine WL.val (V.move (OV.p rfl)) rfl ?_
  refine WL.val (V.neq (OV.p rfl) (OV.p rfl)) rfl ?_
  refine WL.nil ?_
  refine WC.condT' rfl (by first | rfl | (simp; done) | (simp; omega)) ?_
  refine WC.sr ?_
  refine WL.val (V.move (OV.p rfl)) rfl ?_
  refine WL.val (V.assign (OV.p rfl)) rfl ?_
  refine WL.val (V.assign (OV.p rfl)) rfl ?_
  refine WL.val (V.assign (OV.p rfl)) rfl ?_
  refine WL.nil ?_
  refine WC.ret ?_
  exact BodyQ.ret (H' := F) (Res.tmp3 rfl rfl rfl rfl) (fun w h => h) ⟨rfl, rfl⟩
theorem nilD_Erase (b : Int) : Tells Tryz.prog 61 #[.pointer none, .int .i64 b] K F (.int .i64 3) := by
  refine Does.enter Tryz.func61 rfl Tryz.ntmps61 rfl ?_
  simp only [env0, Nat.reduceAdd]
  refine WC.sr ?_
  refine WL.val (V.assign (OV.p rfl)) rfl ?_
  refine WL.nil ?_
  refine WC.seq ?_
  refine WC.sr ?_
  refine WL.val (V.move (OV.p rfl)) rfl ?_
  refine WL.val (V.move (OV.p rfl)) rfl ?_
  refine WL.call (vs := [_, _, _, _]) Tryz.call74 ⟨OV.p rfl, OV.p rfl, OV.p rfl, OV.p rfl, trivial⟩ (nilD_ahead b 0 true) rfl ?_
  rintro _ H0 ⟨rfl, h0⟩
  subst H0
  refine WL.val (V.assign (OV.p rfl)) rfl ?_
  refine WL.nil ?_
  refine WC.sr ?_
  refine WL.val (V.move (OV.p rfl)) rfl ?_
  refine WL.val (V.neq (OV.p rfl) (OV.p rfl)) rfl ?_
  refine WL.nil ?_
  refine WC.condT' rfl (by first | rfl | (simp; done) | (simp; omega)) ?_
  refine WC.sr ?_
  refine WL.val (V.move (OV.p rfl)) rfl ?_
  refine WL.val (V.assign (OV.p rfl)) rfl ?_
  refine WL.nil ?_
  refine WC.ret ?_
  exact BodyQ.ret (H' := F) (Res.tmp rfl rfl) (fun w h => h) ⟨rfl, rfl⟩
theorem nilD_Whole (b n : Int) : Tells Tryz.prog 27 #[.pointer none, .int .i64 b, .int .i64 n] K F (.tuple #[.bool false, .int .i64 3]) := by
  refine Does.enter Tryz.func27 rfl Tryz.ntmps27 rfl ?_
  simp only [env0, Nat.reduceAdd]
  refine WC.sr ?_
  refine WL.val (V.assign (OV.p rfl)) rfl ?_
  refine WL.val (V.assign (OV.p rfl)) rfl ?_
  refine WL.nil ?_
  refine WC.sr ?_
  refine WL.val (V.move (OV.p rfl)) rfl ?_
  refine WL.val (V.move (OV.p rfl)) rfl ?_
  refine WL.val (V.move (OV.p rfl)) rfl ?_
  refine WL.val (V.geq (OV.p rfl) (OV.p rfl)) rfl ?_
  refine WL.val (V.move (OV.p rfl)) rfl ?_
  refine WL.valG (oj := _) rfl rfl rfl GC.t (V.move (OV.p rfl)) rfl ?_
  refine WL.valG (oj := _) rfl rfl rfl GC.t (V.move (OV.p rfl)) rfl ?_
  refine WL.callG (oj := _) (vs := [_]) rfl rfl rfl GC.t Tryz.call20 ⟨OV.g rfl id, trivial⟩ (fun hg => nilD_Geometry) rfl ?_
  refine WL.valG (oj := _) rfl rfl rfl GC.t (V.field (OV.g rfl id) (fld23_1 _ _ _ _ _)) rfl ?_
  refine WL.valG (oj := _) rfl rfl rfl GC.t (V.leq (OV.g rfl id) (OV.g rfl id)) rfl ?_
  refine WL.val (V.pickAnd (OV.p rfl) (OV.g rfl id)) rfl ?_
  refine WL.call (vs := [_, _, _, _]) Tryz.call74 ⟨OV.p rfl, OV.p rfl, OV.p rfl, OV.p rfl, trivial⟩ (nilD_ahead b 0 _) rfl ?_
  rintro _ H0 ⟨rfl, h0⟩
  subst H0
  refine WL.val (V.assign (OV.p rfl)) rfl ?_
  refine WL.nil ?_
  refine WC.seq ?_
  refine WC.sr ?_
  refine WL.val (V.move (OV.p rfl)) rfl ?_
  refine WL.val (V.eql (OV.p rfl) (OV.p rfl)) rfl ?_
  refine WL.nil ?_
  refine WC.condF' rfl (by first | rfl | (simp; done) | (simp; omega)) ?_
  refine WC.skip ?_
  refine WC.seq ?_
  refine WC.sr ?_
  refine WL.val (V.move (OV.p rfl)) rfl ?_
  refine WL.val (V.neq (OV.p rfl) (OV.p rfl)) rfl ?_
  refine WL.nil ?_
  refine WC.condT' rfl (by first | rfl | (simp; done) | (simp; omega)) ?_
  refine WC.sr ?_
  refine WL.val (V.move (OV.p rfl)) rfl ?_
  refine WL.val (V.assign (OV.p rfl)) rfl ?_
  refine WL.val (V.assign (OV.p rfl)) rfl ?_
  refine WL.nil ?_
  refine WC.ret ?_
  exact BodyQ.ret (H' := F) (Res.tmp2 rfl rfl rfl) (fun w h => h) ⟨rfl, rfl⟩
theorem nilD_Write (b p : Int) {A : Option Addr} {m cap : Nat} : Tells Tryz.prog 23 #[.pointer none, .int .i64 b, .int .i64 p, .slice A m cap] K F (.int .i64 3) := by
  refine Does.enter Tryz.func23 rfl Tryz.ntmps23 rfl ?_
  simp only [env0, Nat.reduceAdd]
  refine WC.sr ?_
  refine WL.val (V.assign (OV.p rfl)) rfl ?_
  refine WL.nil ?_
  refine WC.sr ?_
  refine WL.val (V.move (OV.p rfl)) rfl ?_
  refine WL.call (vs := [_]) Tryz.call20 ⟨OV.p rfl, trivial⟩ (nilD_Geometry) rfl ?_
  rintro _ H0 ⟨rfl, h0⟩
  subst H0
  refine WL.call (vs := [_]) Tryz.call73 ⟨OV.p rfl, trivial⟩ (Tells.eq (v' := .tuple #[.int .i64 0, .int .i64 1]) (ecc_Room ⟨0, 0, 0, 0, 0⟩) (by rfl)) rfl ?_
  rintro _ H0 ⟨rfl, h0⟩
  subst H0
  refine WL.val (V.move (OV.p rfl)) rfl ?_
  refine WL.val (V.extract (OV.p rfl) rfl) rfl ?_
  refine WL.val (V.extract (OV.p rfl) rfl) rfl ?_
  refine WL.val (V.assign (OV.p rfl)) rfl ?_
  refine WL.val (V.assign (OV.p rfl)) rfl ?_
  refine WL.nil ?_
  refine WC.seq ?_
  refine WC.sr ?_
  refine WL.val (V.move (OV.p rfl)) rfl ?_
  refine WL.val (V.move (OV.p rfl)) rfl ?_
  refine WL.val (V.move (OV.p rfl)) rfl ?_
  refine WL.val (V.move (OV.p rfl)) rfl ?_
  refine WL.val (V.len (t := 38) Tryz.runUnderlying38 (OV.p rfl)) rfl ?_
  refine WL.val (V.move (OV.p rfl)) rfl ?_
  refine WL.val (V.eql (OV.p rfl) (OV.p rfl)) rfl ?_
  refine WL.call (vs := [_, _, _, _]) Tryz.call74 ⟨OV.p rfl, OV.p rfl, OV.p rfl, OV.p rfl, trivial⟩ (nilD_ahead b p _) rfl ?_
  rintro _ H0 ⟨rfl, h0⟩
  subst H0
  refine WL.val (V.assign (OV.p rfl)) rfl ?_
  refine WL.nil ?_
  refine WC.sr ?_
  refine WL.val (V.move (OV.p rfl)) rfl ?_
  refine WL.val (V.neq (OV.p rfl) (OV.p rfl)) rfl ?_
  refine WL.nil ?_
  refine WC.condT' rfl (by first | rfl | (simp; done) | (simp; omega)) ?_
  refine WC.sr ?_
  refine WL.val (V.move (OV.p rfl)) rfl ?_
  refine WL.val (V.assign (OV.p rfl)) rfl ?_
  refine WL.nil ?_
  refine WC.ret ?_
  exact BodyQ.ret (H' := F) (Res.tmp rfl rfl) (fun w h => h) ⟨rfl, rfl⟩
theorem nilD_Good : Tells Tryz.prog 18 #[.pointer none] K F (.slice none 0 0) := by
  refine Does.enter Tryz.func18 rfl Tryz.ntmps18 rfl ?_
  simp only [env0, Nat.reduceAdd]
  refine WC.sr ?_
  refine WL.val (V.assign (OV.p rfl)) rfl ?_
  refine WL.nil ?_
  refine WC.sr ?_
  refine WL.val (V.assign (OV.p rfl)) rfl ?_
  refine WL.nil ?_
  refine WC.seq ?_
  refine WC.sr ?_
  refine WL.val (V.move (OV.p rfl)) rfl ?_
  refine WL.call (vs := [_]) Tryz.call20 ⟨OV.p rfl, trivial⟩ (nilD_Geometry) rfl ?_
  rintro _ H0 ⟨rfl, h0⟩
  subst H0
  refine WL.val (V.field (OV.p rfl) (fld23_0 _ _ _ _ _)) rfl ?_
  refine WL.val (V.move (OV.p rfl)) rfl ?_
  refine WL.nil ?_
  refine WC.block ?_
  refine WC.loop (σ := Unit) (fun _ => [(3, .slice none 0 0), (7, .int .i64 0), (8, .int .i64 0)]) (fun _ => F) (fun _ => True) (fun _ => 0) () trivial (.cons rfl (.cons rfl (.cons rfl (.nil _)))) (fun w h => h) ?_
  rintro _ _
  refine WC.sr ?_
  refine WL.val (V.lss (OV.p rfl) (OV.p rfl)) rfl ?_
  refine WL.nil ?_
  refine WC.seq ?_
  refine WC.condF' rfl (by first | rfl | (simp; done) | (simp; omega)) ?_
  refine WC.exit ?_
  refine WC.sr ?_
  refine WL.val (V.move (OV.p rfl)) rfl ?_
  refine WL.val (V.assign (OV.p rfl)) rfl ?_
  refine WL.nil ?_
  refine WC.ret ?_
  exact BodyQ.ret (H' := F) (Res.tmp rfl rfl) (fun w h => h) ⟨rfl, rfl⟩
end
end Go.Proofs.YtohkefolnmcjnaaGreat
/- A word of Encode has no sums: what Decode tells of it. -/
namespace Go.Proofs.YtohkefolnmcjnaaGreat
open Go.Sl Go.RowKit
set_option linter.unusedVariables false
set_option linter.unusedSimpArgs false
set_option maxRecDepth 20000

theorem xor4 (a b c d : Nat) : (a ^^^ b) ^^^ (c ^^^ d) = (a ^^^ c) ^^^ (b ^^^ d) := by
  rw [Nat.xor_assoc, Nat.xor_assoc, ← Nat.xor_assoc b, ← Nat.xor_assoc c, Nat.xor_comm b c]
theorem red_bit {a : Nat} (h : a < 8192) : red (2 * a) = 2 * a ^^^ (if a.testBit 12 = true then 8219 else 0) := by
  have h1 : a.testBit 12 = decide (8192 ≤ 2 * a) := by
    rw [Nat.testBit_eq_decide_div_mod_eq]
    apply decide_eq_decide.2
    omega
  unfold red
  rw [h1]
  by_cases h2 : 8192 ≤ 2 * a
  · simp [h2]
  · simp [h2]
theorem two_xor (a b : Nat) : 2 * (a ^^^ b) = 2 * a ^^^ 2 * b := by
  apply Nat.eq_of_testBit_eq
  intro i
  rw [Nat.testBit_xor, Nat.mul_comm 2, Nat.mul_comm 2, Nat.mul_comm 2, ← Nat.pow_one 2]
  rw [testBit_mul_pow, testBit_mul_pow, testBit_mul_pow, Nat.testBit_xor]
  cases decide (1 ≤ i) <;> simp
theorem red_xor {a b : Nat} (ha : a < 8192) (hb : b < 8192) : red (2 * (a ^^^ b)) = red (2 * a) ^^^ red (2 * b) := by
  rw [red_bit ha, red_bit hb, red_bit (xor_lt (k := 13) ha hb), two_xor, xor4, Nat.testBit_xor]
  congr 1
  cases a.testBit 12 <;> cases b.testBit 12 <;> simp
theorem gmulF_xor : ∀ (k o1 o2 a1 a2 b : Nat), a1 < 8192 → a2 < 8192 → gmulF k (o1 ^^^ o2) (a1 ^^^ a2) b = gmulF k o1 a1 b ^^^ gmulF k o2 a2 b
  | 0, _, _, _, _, _, _, _ => rfl
  | k + 1, o1, o2, a1, a2, b, h1, h2 => by
    rw [gmulF, gmulF, gmulF]
    by_cases hb : b = 0
    · rw [if_pos hb, if_pos hb, if_pos hb]
    · rw [if_neg hb, if_neg hb, if_neg hb, red_xor h1 h2]
      by_cases h3 : b % 2 = 1
      · rw [if_pos h3, if_pos h3, if_pos h3, xor4]
        exact gmulF_xor k _ _ _ _ _ (red_lt h1) (red_lt h2)
      · rw [if_neg h3, if_neg h3, if_neg h3]
        exact gmulF_xor k _ _ _ _ _ (red_lt h1) (red_lt h2)
theorem gmul_xor {a b : Nat} (x : Nat) (ha : a < 8192) (hb : b < 8192) : gmul (a ^^^ b) x = gmul a x ^^^ gmul b x := by
  have h := gmulF_xor 13 0 0 a b x ha hb
  rwa [Nat.xor_self] at h
theorem gmul_zero (x : Nat) : gmul 0 x = 0 := by
  have h := gmul_xor (a := 0) (b := 0) x (by decide) (by decide)
  rwa [Nat.xor_self, Nat.xor_self] at h
/-- x times itself so often, times v. -/
def it (x : Nat) : Nat → Nat → Nat
  | 0, v => v
  | n + 1, v => it x n (gmul v x)
theorem it_lt {x : Nat} : ∀ (n v : Nat), v < 8192 → it x n v < 8192
  | 0, v, h => h
  | n + 1, v, h => it_lt n _ (gmul_lt h)
theorem it_xor {x : Nat} : ∀ (n v u : Nat), v < 8192 → u < 8192 → it x n (v ^^^ u) = it x n v ^^^ it x n u
  | 0, _, _, _, _ => rfl
  | n + 1, v, u, h1, h2 => by
    rw [it, it, it, gmul_xor x h1 h2]
    exact it_xor n _ _ (gmul_lt h1) (gmul_lt h2)
theorem it_zero (x : Nat) : ∀ n, it x n 0 = 0
  | 0 => rfl
  | n + 1 => by rw [it, gmul_zero]; exact it_zero x n
theorem it_add (x : Nat) : ∀ (m n v : Nat), it x (m + n) v = it x n (it x m v)
  | 0, n, v => by rw [Nat.zero_add]; rfl
  | m + 1, n, v => by rw [Nat.succ_add_eq_add_succ, Nat.add_succ, it, it]; exact it_add x m n _
/-- The value at x of the polynomial that has these bits below n. -/
def ev (x : Nat) (f : Nat → Bool) : Nat → Nat
  | 0 => 0
  | n + 1 => it x n (bit1 (f n)) ^^^ ev x f n
theorem bit1_lt (b : Bool) : bit1 b < 8192 := by cases b <;> decide
theorem ev_lt {x : Nat} {f : Nat → Bool} : ∀ n, ev x f n < 8192
  | 0 => (by decide : 0 < 8192)
  | n + 1 => xor_lt (k := 13) (it_lt _ _ (bit1_lt _)) (ev_lt n)
theorem hor_ev {x : Nat} {f : Nat → Bool} : ∀ (n v : Nat), v < 8192 → hor f x n v = it x n v ^^^ ev x f n
  | 0, v, _ => by rw [hor, it, ev, Nat.xor_zero]
  | n + 1, v, h => by
    rw [hor, hor_ev n _ (xor_lt (k := 13) (gmul_lt h) (bit1_lt _)), it_xor n _ _ (gmul_lt h) (bit1_lt _), it, ev, Nat.xor_assoc]
theorem ev_congr {x : Nat} {f g : Nat → Bool} : ∀ n, (∀ i, i < n → f i = g i) → ev x f n = ev x g n
  | 0, _ => rfl
  | n + 1, h => by rw [ev, ev, h n (Nat.lt_succ_self _), ev_congr n (fun i hi => h i (Nat.lt_succ_of_lt hi))]
theorem ev_xor {x : Nat} {f g : Nat → Bool} : ∀ n, ev x (fun i => f i ^^ g i) n = ev x f n ^^^ ev x g n
  | 0 => (Nat.xor_self 0).symm
  | n + 1 => by
    have h : bit1 (f n ^^ g n) = bit1 (f n) ^^^ bit1 (g n) := by cases f n <;> cases g n <;> rfl
    rw [ev, ev, ev, ev_xor n, h, it_xor _ _ _ (bit1_lt _) (bit1_lt _), xor4]
theorem ev_ext {x : Nat} {f : Nat → Bool} {n : Nat} (h : ∀ i, n ≤ i → f i = false) : ∀ m, ev x f (n + m) = ev x f n
  | 0 => rfl
  | m + 1 => by
    rw [Nat.add_succ, ev, h _ (Nat.le_add_right _ _), show bit1 false = 0 from rfl, it_zero, Nat.zero_xor, ev_ext h m]
theorem ev_ext' {x : Nat} {f : Nat → Bool} {n m : Nat} (h : ∀ i, n ≤ i → f i = false) (hm : n ≤ m) : ev x f m = ev x f n := by
  have := ev_ext (x := x) h (m - n)
  rwa [Nat.add_sub_cancel' hm] at this
theorem ev_none {x : Nat} {f : Nat → Bool} : ∀ n, (∀ i, i < n → f i = false) → ev x f n = 0
  | 0, _ => rfl
  | n + 1, h => by rw [ev, h n (Nat.lt_succ_self _), show bit1 false = 0 from rfl, it_zero, Nat.zero_xor, ev_none n (fun i hi => h i (Nat.lt_succ_of_lt hi))]
theorem ev_shift {x m : Nat} {f : Nat → Bool} : ∀ n, ev x (fun i => decide (m ≤ i) && f (i - m)) (n + m) = it x m (ev x f n)
  | 0 => by
    rw [Nat.zero_add, ev_none m (fun i hi => by rw [decide_eq_false (by omega)]; rfl), ev, it_zero]
  | n + 1 => by
    rw [Nat.succ_add, ev, ev, it_xor _ _ _ (it_lt _ _ (bit1_lt _)) (ev_lt _), ev_shift n, decide_eq_true (by omega), Bool.true_and, Nat.add_sub_cancel, it_add]
theorem ev_shift' {x m n N : Nat} {f : Nat → Bool} (hf : ∀ i, n ≤ i → f i = false) (hN : n + m ≤ N) : ev x (fun i => decide (m ≤ i) && f (i - m)) N = it x m (ev x f n) := by
  rw [← ev_shift n]
  refine ev_ext' (fun i hi => ?_) hN
  rw [hf _ (by omega), Bool.and_false]
theorem ev_addTo {x at_ : Nat} {out p : List Nat} (ho : Small 256 out) (hp : Small 256 p) (hl : p.length + at_ / 8 < out.length) :
    ev x (bitAt (addTo out p at_ p.length)) (8 * out.length) = ev x (bitAt out) (8 * out.length) ^^^ it x at_ (ev x (bitAt p) (8 * p.length)) := by
  rw [← ev_shift' (x := x) (m := at_) (N := 8 * out.length) (fun i hi => bitAt_none hi) (by omega), ← ev_xor]
  refine ev_congr _ (fun i _ => ?_)
  rw [bitAt_addTo ho hp _ hl]
  congr 1
  by_cases h : i - at_ < 8 * p.length
  · rw [decide_eq_true h, Bool.and_true]
  · rw [decide_eq_false h, Bool.and_false, Bool.false_and, bitAt_none (by omega), Bool.and_false]
theorem ev_mod {x lq d : Nat} {p q : List Nat} (hp : Small 256 p) (hq : Small 256 q) (hlq : q.length = lq) (hld : lq = d / 8 + 1) (hx : ev x (bitAt q) (8 * q.length) = 0) : ∀ k, k ≤ 8 * p.length - d →
    ev x (bitAt (bmodTo p q lq d k)) (8 * (p.length + 1)) = ev x (bitAt p) (8 * p.length)
  | 0, _ => by
    rw [bmodTo]
    have h1 : ∀ i, bitAt (p ++ [0]) i = bitAt p i := fun i => by
      unfold bitAt
      congr 1
      by_cases h : i / 8 < p.length
      · simp [List.getD, List.getElem?_append_left h]
      · simp only [List.getD]
        rw [List.getElem?_append_right (by omega), List.getElem?_eq_none (by omega : p.length ≤ i / 8)]
        rcases Nat.eq_zero_or_pos (i / 8 - p.length) with h2 | h2
        · rw [h2]; rfl
        · rw [List.getElem?_eq_none (by simp; omega)]
    rw [ev_congr _ (fun i _ => h1 i)]
    exact ev_ext' (fun i hi => bitAt_none hi) (by omega)
  | k + 1, hk => by
    have ih := ev_mod hp hq hlq hld hx k (by omega)
    rw [bmodTo]
    split
    · have h := ev_addTo (x := x) (at_ := 8 * p.length - 1 - k - d) (bmodTo_small (lq := lq) (d := d) hp hq k) hq (by rw [bmodTo_length, hlq]; omega)
      rw [bmodTo_length, hx, it_zero, Nat.xor_zero, ih, hlq] at h
      exact h
    · exact ih
theorem normLen_zero {xs : List Nat} : ∀ n j, normLen xs n ≤ j → j < n → xs.getD j 0 = 0
  | 0, _, _, h => absurd h (Nat.not_lt_zero _)
  | n + 1, j, h1, h2 => by
    rw [normLen] at h1
    split at h1
    · rename_i h3
      rcases Nat.lt_or_ge j n with h | h
      · exact normLen_zero n j h1 h
      · have : j = n := by omega
        subst this; exact h3
    · omega
theorem bitAt_norm {xs : List Nat} {n : Nat} (hn : n = xs.length) (k : Nat) : bitAt (xs.take (normLen xs n)) k = bitAt xs k := by
  unfold bitAt
  congr 1
  by_cases h : k / 8 < normLen xs n
  · simp [List.getD, List.getElem?_take, h]
  · have h0 : (xs.take (normLen xs n)).getD (k / 8) 0 = 0 := by simp [List.getD, List.getElem?_take, h]
    rw [h0]
    by_cases h2 : k / 8 < n
    · exact (normLen_zero n _ (by omega) h2).symm
    · rw [List.getD, List.getElem?_eq_none (by omega)]; rfl
theorem bitAt_zeros (n k : Nat) : bitAt (List.replicate n 0) k = false := by
  unfold bitAt
  by_cases h : k / 8 < n
  · simp [List.getD, List.getElem?_replicate, h]
  · simp [List.getD, List.getElem?_replicate, h]
theorem bitAt_appZ (xs : List Nat) (n k : Nat) : bitAt (xs ++ List.replicate n 0) k = bitAt xs k := by
  unfold bitAt
  congr 1
  by_cases h : k / 8 < xs.length
  · simp [List.getD, List.getElem?_append_left h]
  · have h0 : xs.getD (k / 8) 0 = 0 := by rw [List.getD, List.getElem?_eq_none (by omega)]; rfl
    rw [h0, List.getD, List.getElem?_append_right (by omega), List.getElem?_replicate]
    split <;> rfl
theorem shiftB_bit (t i : Nat) : bitAt (shiftB t) i = decide (i = 13 * t) := by
  unfold bitAt shiftB
  rw [getD_set, List.length_replicate]
  have hm : 13 * t / 8 < moreLen t + 1 := by unfold moreLen; omega
  by_cases h : 13 * t / 8 = i / 8
  · rw [if_pos ⟨h, by omega⟩, Nat.testBit_two_pow]
    apply decide_eq_decide.2
    omega
  · rw [if_neg (by omega)]
    have h0 : (List.replicate (moreLen t + 1) 0).getD (i / 8) 0 = 0 := by
      by_cases h : i / 8 < moreLen t + 1 <;> simp [List.getD, List.getElem?_replicate, h]
    rw [h0, Nat.zero_testBit, decide_eq_false (by omega)]
theorem shift_mul {t : Nat} {d : List Nat} : ∀ i, bmulTo (shiftB t) d i = if i ≤ 13 * t then List.replicate ((shiftB t).length + d.length + 1) 0 else addTo (List.replicate ((shiftB t).length + d.length + 1) 0) d (13 * t) d.length
  | 0 => by rw [bmulTo, if_pos (Nat.zero_le _)]
  | i + 1 => by
    rw [bmulTo, shift_mul i, shiftB_bit]
    by_cases h : i = 13 * t
    · rw [decide_eq_true h, if_pos rfl, if_pos (by omega), if_neg (by omega), h]
    · rw [decide_eq_false h]
      by_cases h2 : i ≤ 13 * t
      · rw [if_neg Bool.false_ne_true, if_pos h2, if_pos (by omega)]
      · rw [if_neg Bool.false_ne_true, if_neg h2, if_neg (by omega)]
/-- What was asked of the generators' roots. -/
def genRootOk (t : Nat) : Bool := (List.range (2 * t)).all fun k => decide (hor (bitAt (genB t)) (gexp ((k + 1 : Nat) : Int)) (8 * (genB t).length) 0 = 0)
theorem gen_roots : [1, 2, 3, 4, 5, 6, 7, 8].all genRootOk = true := by kernel_rfl
theorem gen_root {t k : Nat} (ht : 1 ≤ t ∧ t ≤ 8) (hk : k < 2 * t) : ev (gexp ((k + 1 : Nat) : Int)) (bitAt (genB t)) (8 * (genB t).length) = 0 := by
  have h := List.all_eq_true.1 gen_roots t (by simp only [List.mem_cons, List.not_mem_nil, or_false]; omega)
  have h1 := of_decide_eq_true (List.all_eq_true.1 h k (List.mem_range.2 hk))
  rw [hor_ev _ _ (by decide), it_zero, Nat.zero_xor] at h1
  exact h1
theorem shift_full (t : Nat) (d : List Nat) : bmulF (shiftB t) d = addTo (List.replicate ((shiftB t).length + d.length + 1) 0) d (13 * t) d.length := by
  unfold bmulF
  rw [shift_mul, if_neg]
  rw [shiftB_length]; unfold moreLen; omega
theorem ev_prod {x t : Nat} {d : List Nat} (hd : Small 256 d) : ev x (bitAt (prodB t d)) (8 * (prodB t d).length) = it x (13 * t) (ev x (bitAt d) (8 * d.length)) := by
  have hl : (bmulF (shiftB t) d).length = (shiftB t).length + d.length + 1 := bmulTo_length _ _ _
  have h1 : ∀ k, bitAt (prodB t d) k = bitAt (bmulF (shiftB t) d) k := fun k => by unfold prodB; exact bitAt_norm hl.symm k
  have h2 := ev_addTo (x := x) (at_ := 13 * t) (out := List.replicate ((shiftB t).length + d.length + 1) 0) (p := d) (Small.repl (by decide)) hd (by rw [List.length_replicate, shiftB_length]; unfold moreLen; omega)
  rw [← shift_full, ev_none _ (fun i _ => bitAt_zeros _ i), Nat.zero_xor, List.length_replicate, ← hl] at h2
  rw [← h2, ← ev_ext' (x := x) (f := bitAt (prodB t d)) (n := 8 * (prodB t d).length) (m := 8 * (bmulF (shiftB t) d).length) (fun i hi => bitAt_none hi) (by unfold prodB; rw [List.length_take]; omega)]
  exact ev_congr _ (fun i _ => h1 i)
theorem encB_bit {t : Nat} {d : List Nat} (k : Nat) : bitAt (encB t d) k = bitAt (restB t d) k := by
  unfold encB
  rw [bitAt_appZ]
  unfold restLen
  exact bitAt_norm (restB_length t d).symm k
theorem encB_high {t : Nat} {d : List Nat} (ht : 1 ≤ t ∧ t ≤ 8) (hd : Small 256 d) {k : Nat} (hk : 13 * t ≤ k) : bitAt (encB t d) k = false := by
  obtain ⟨g1, g2, g3, g4, g5⟩ := gen_facts ht
  rw [encB_bit]
  exact bmod_rest (prodB_small hd) g5 rfl g3 g4 hk
/-- The sums of a code word are nought. -/
theorem enc_sum {t k : Nat} {d : List Nat} (ht : 1 ≤ t ∧ t ≤ 8) (hd : Small 256 d) (hk : k < 2 * t) :
    hor (wAt t d (encB t d)) (gexp ((k + 1 : Nat) : Int)) (13 * t + 8 * d.length) 0 = 0 := by
  obtain ⟨g1, g2, g3, g4, g5⟩ := gen_facts ht
  obtain ⟨x, hx⟩ : ∃ x, x = gexp ((k + 1 : Nat) : Int) := ⟨_, rfl⟩
  have hr := gen_root ht hk
  rw [← hx] at hr ⊢
  rw [hor_ev _ _ (by decide), it_zero, Nat.zero_xor]
  have h1 : ∀ i, wAt t d (encB t d) i = ((decide (13 * t ≤ i) && bitAt d (i - 13 * t)) ^^ bitAt (encB t d) i) := fun i => by
    unfold wAt
    by_cases h : 13 * t ≤ i
    · rw [if_pos h, decide_eq_true h, Bool.true_and, encB_high ht hd h, Bool.xor_false]
    · rw [if_neg h, decide_eq_false h, Bool.false_and, Bool.false_xor]
  rw [ev_congr _ (fun i _ => h1 i), ev_xor, ev_shift' (n := 8 * d.length) (fun i hi => bitAt_none hi) (by omega)]
  have h2 : ev x (bitAt (encB t d)) (13 * t + 8 * d.length) = ev x (bitAt (encB t d)) (13 * t) := ev_ext' (fun i hi => encB_high ht hd hi) (by omega)
  have h3 : ev x (bitAt (restB t d)) (8 * ((prodB t d).length + 1)) = ev x (bitAt (prodB t d)) (8 * (prodB t d).length) := ev_mod (prodB_small hd) g5 rfl g3 hr _ (Nat.le_refl _)
  have h4 : ev x (bitAt (restB t d)) (8 * ((prodB t d).length + 1)) = ev x (bitAt (encB t d)) (13 * t) := by
    rw [← ev_congr _ (fun i _ => encB_bit (t := t) (d := d) i)]
    rcases Nat.le_total (13 * t) (8 * ((prodB t d).length + 1)) with h | h
    · exact ev_ext' (fun i hi => encB_high ht hd hi) h
    · refine (ev_ext' (fun i hi => ?_) h).symm
      rw [encB_bit]
      exact bitAt_none (by rw [restB_length]; exact hi)
  rw [h2, ← h4, h3, ev_prod hd, Nat.xor_self]
theorem clr8_same {x j : Nat} (hx : x < 256) (hj : x.testBit j = false) : clr8 x j = x := by
  unfold clr8
  apply Nat.eq_of_testBit_eq
  intro i
  rw [Nat.testBit_and, Nat.testBit_xor, Nat.testBit_two_pow]
  by_cases h8 : i < 8
  · have : (255 : Nat).testBit i = true := by
      have : ∀ i, i < 8 → (255 : Nat).testBit i = true := by decide
      exact this i h8
    rw [this]
    by_cases h : j = i
    · subst h; rw [hj]; rfl
    · rw [decide_eq_false h]; simp
  · rw [testBit_byte hx (by omega), Bool.false_and]
theorem set_same {xs : List Nat} {i : Nat} : xs.set i (xs.getD i 0) = xs := by
  apply List.ext_getElem?
  intro k
  rw [List.getElem?_set]
  by_cases h : i = k
  · subst h
    by_cases hl : i < xs.length
    · simp [List.getD, hl]
    · simp [List.getElem?_eq_none (Nat.le_of_not_lt hl), hl]
  · simp [h]
theorem maskTo_same {m : List Nat} {i0 : Nat} (hm : Small 256 m) (h : ∀ k, i0 ≤ k → bitAt m k = false) : ∀ k, maskTo m i0 k = m
  | 0 => rfl
  | k + 1 => by
    rw [maskTo, maskTo_same hm h k, clr8_same (hm.at_ (by decide) _) (h (i0 + k) (by omega)), set_same]
theorem maskM_enc {t : Nat} {d : List Nat} (ht : 1 ≤ t ∧ t ≤ 8) (hd : Small 256 d) : maskM t (encB t d) = encB t d := maskTo_same (encB_small ht hd) (fun k hk => encB_high ht hd hk) _
theorem enc_sums {t : Nat} {d : List Nat} (ht : 1 ≤ t ∧ t ≤ 8) (hd : Small 256 d) : sums2 t (d, encB t d) = List.replicate (2 * t) 0 := by
  unfold sums2 sumsW
  apply List.ext_getElem
  · simp
  · intro i h1 h2
    simp only [List.getElem_map, List.getElem_range, List.getElem_replicate]
    exact enc_sum ht hd (by simpa using h1)
theorem bmTo_zeros (m : Nat) : ∀ n, bmTo (List.replicate m 0) n = ⟨[1], [1], 0, n + 1, 1⟩
  | 0 => rfl
  | n + 1 => by
    have h0 : (List.replicate m 0).getD n 0 = 0 := by
      by_cases h : n < m <;> simp [List.getD, List.getElem?_replicate, h]
    rw [bmTo, bmTo_zeros m n]
    unfold bmStep
    rw [if_pos]
    show bmSum _ _ _ (min 0 _) = 0
    rw [Nat.zero_min]
    exact h0
theorem loc_zeros (m : Nat) : locC (List.replicate m 0) = [1] ∧ locL (List.replicate m 0) = 1 := by
  have h : locC (List.replicate m 0) = [1] := by unfold locC; rw [bmTo_zeros]
  refine ⟨h, ?_⟩
  unfold locL
  rw [h]; rfl
theorem decTo_one (t : Nat) (p : LL) : ∀ k, decTo t [1] 1 p k = (p, 0)
  | 0 => rfl
  | k + 1 => by
    rw [decTo, if_neg, decTo_one t p k]
    unfold rootAt
    rw [evalC_code, gmul_zero]
    show ¬ decide ((0 ^^^ 1 : Nat) = 0) = true
    decide
theorem ones_zeros : ∀ m, ones (List.replicate m 0) = 0
  | 0 => rfl
  | m + 1 => by rw [List.replicate_succ, ones, ones_zeros m]; rfl
/-- Decode tells a code word back. -/
theorem dec_enc {t : Nat} {d : List Nat} (ht : 1 ≤ t ∧ t ≤ 8) (hd : Small 256 d) : decF t d (encB t d) = some ((d, encB t d), 0) := by
  obtain ⟨l1, l2⟩ := loc_zeros (2 * t)
  unfold decF
  rw [maskM_enc ht hd, enc_sums ht hd, l1, l2, decTo_one, if_neg (by omega), if_neg (fun h => h rfl), if_neg]
  show ¬ 0 < ones (nozero (sums2 t (d, encB t d)))
  rw [enc_sums ht hd]
  unfold nozero
  rw [List.map_replicate, show nz 0 = 0 from rfl, ones_zeros]
  decide
end Go.Proofs.YtohkefolnmcjnaaGreat
/- What is packed is read. -/
namespace Go.Proofs.YtohkefolnmcjnaaGreat
open Go.Sl Go.RowKit
set_option linter.unusedVariables false
set_option linter.unusedSimpArgs false
set_option maxRecDepth 20000

theorem pkTo_split {t B : Nat} {d : List Nat} : ∀ (S j : Nat), j < S → ∃ rest, pkTo t B d S = pkTo t B d j ++ ((sect B d j ++ encB t (sect B d j)) ++ rest)
  | 0, j, h => absurd h (Nat.not_lt_zero _)
  | S + 1, j, h => by
    rw [pkTo]
    rcases Nat.lt_or_ge j S with h1 | h1
    · obtain ⟨r, hr⟩ := pkTo_split S j h1
      exact ⟨r ++ (sect B d S ++ encB t (sect B d S)), by rw [hr]; simp only [List.append_assoc]⟩
    · have : j = S := by omega
      subst this
      exact ⟨[], by simp only [List.append_assoc, List.append_nil]⟩
section
variable {t B S : Nat} {d : List Nat}
theorem packF_split (ht : 1 ≤ t ∧ t ≤ 8) (h8 : Small 256 d) (hl : d.length = S * B) {j : Nat} (hj : j < S) :
    secD B (B + moreLen t) (packF t S B d) j = sect B d j ∧ secM B (B + moreLen t) (packF t S B d) j = encB t (sect B d j) := by
  obtain ⟨r, hr⟩ := pkTo_split (t := t) (B := B) (d := d) S j hj
  have h1 := pkTo_length ht h8 hl j (by omega)
  have h2 := sect_length hl hj
  have h3 := encB_length ht (sect_small h8 j (B := B))
  have hdrop : (packF t S B d).drop (j * (B + moreLen t)) = sect B d j ++ (encB t (sect B d j) ++ (r ++ [0])) := by
    unfold packF
    rw [hr, List.append_assoc, List.drop_left' h1]
    simp only [List.append_assoc]
  unfold secD secM
  rw [hdrop]
  refine ⟨List.take_left' h2, ?_⟩
  rw [List.drop_left' h2, Nat.add_sub_cancel_left]
  exact List.take_left' h3
theorem packF_state (ht : 1 ≤ t ∧ t ≤ 8) (h8 : Small 256 d) (hl : d.length = S * B) : stateF t S (B + moreLen t) (packF t S B d) = 0 := by
  have h1 := pkTo_length ht h8 hl S (Nat.le_refl _)
  unfold stateF packF
  rw [if_pos]
  rw [List.getD, List.getElem?_append_right (by omega), h1, Nat.sub_self]; rfl
theorem readTo_secs (ht : 1 ≤ t ∧ t ≤ 8) (h8 : Small 256 d) : ∀ (k j : Nat) (acc : List Nat), readTo ((List.range' j k).map fun i => some ((sect B d i, encB t (sect B d i)), 0)) acc 0 = ⟨0, acc ++ (d.drop (j * B)).take (k * B), 0⟩
  | 0, j, acc => by simp [readTo]
  | k + 1, j, acc => by
    rw [List.range'_succ, List.map_cons, readTo, Nat.max_self, readTo_secs ht h8 k (j + 1) _]
    congr 1
    rw [List.append_assoc]
    congr 1
    unfold sect
    rw [show (k + 1) * B = B + k * B by rw [Nat.succ_mul, Nat.add_comm], List.take_add, List.drop_drop, Nat.succ_mul]
/-- What is packed is read, no bit is turned. -/
theorem read_pack (ht : 1 ≤ t ∧ t ≤ 8) (h8 : Small 256 d) (hl : d.length = S * B) : readF t S B (packF t S B d) = ⟨0, d, 0⟩ := by
  unfold readF
  rw [if_neg (fun h => h (packF_state ht h8 hl))]
  have h1 : (List.range S).map (uSec t B (B + moreLen t) (packF t S B d)) = (List.range' 0 S).map fun i => some ((sect B d i, encB t (sect B d i)), 0) := by
    rw [← List.range_eq_range']
    apply List.map_congr_left
    intro j hj
    have hj := List.mem_range.1 hj
    unfold uSec
    obtain ⟨e1, e2⟩ := packF_split ht h8 hl hj
    rw [e1, e2, dec_enc ht (sect_small h8 j)]
  rw [h1, readTo_secs ht h8 S 0 []]
  rw [Nat.zero_mul, List.drop_zero, List.nil_append, ← hl, List.take_length]
end
end Go.Proofs.YtohkefolnmcjnaaGreat
/- casematelaw08: small, tiny, awake. -/
namespace Go.Proofs.YtohkefolnmcjnaaGreat
open Go.Sl Go.RowKit
set_option linter.unusedVariables false
set_option linter.unusedSimpArgs false
set_option maxRecDepth 20000

theorem law08_small (g : Geo) (K : World) (F : List Assn) : Tells Tryz.prog 11 #[g.v] K F (.bool (g.may && decide (g.room ≤ 32) && decide (g.bl ≤ 16) && decide (g.pg ≤ 8))) := by
  refine Does.enter Tryz.func11 rfl Tryz.ntmps11 rfl ?_
  simp only [env0, Nat.reduceAdd]
  refine WC.sr ?_
  refine WL.box (cs := [_, _, _, _, _]) (OV.p rfl) rfl rfl (fun b1 => ?_)
  refine WL.val (V.assign (OV.p rfl)) rfl ?_
  refine WL.nil ?_
  refine WC.sr ?_
  refine WL.val (V.loadA (vs := [_, _, _, _, _]) ⟨Tryz.isAgg23, Tryz.sizeOf23⟩ (OV.p rfl) rfl (fun _ => by repeat (first | exact Rds.gets ⟨rfl, rfl, rfl, rfl, rfl, trivial⟩ | apply Rds.up))) rfl ?_
  refine WL.call (vs := [_]) Tryz.call53 ⟨OV.p rfl, trivial⟩ (ref06_May g _ _) rfl ?_
  rintro _ H0 ⟨rfl, h0⟩
  subst H0
  refine WL.val (V.move (OV.p rfl)) rfl ?_
  refine WL.valG (oj := _) rfl rfl rfl GC.t (V.loadA (vs := [_, _, _, _, _]) ⟨Tryz.isAgg23, Tryz.sizeOf23⟩ (OV.p rfl) rfl (fun _ => by repeat (first | exact Rds.gets ⟨rfl, rfl, rfl, rfl, rfl, trivial⟩ | apply Rds.up))) rfl ?_
  refine WL.callG (oj := _) (vs := [_]) rfl rfl rfl GC.t Tryz.call22 ⟨OV.g rfl id, trivial⟩ (fun hg => ref06_Room g (Geo.mays_of (by simpa using hg)) _ _) rfl ?_
  refine WL.valG (oj := _) rfl rfl rfl GC.t (V.leq (OV.g rfl id) (OV.p rfl)) rfl ?_
  refine WL.val (V.pickAnd (OV.p rfl) (OV.g rfl id)) rfl ?_
  refine WL.val (V.move (OV.p rfl)) rfl ?_
  refine WL.valG (oj := _) rfl rfl rfl GC.t (V.fieldAddr fo23_0 (OV.p rfl)) rfl ?_
  refine WL.valG (oj := _) rfl rfl rfl GC.t (V.load Tryz.isAgg3 (OV.g rfl id) (fun _ => by repeat (first | exact Rd.here rfl | apply Rd.up))) rfl ?_
  refine WL.valG (oj := _) rfl rfl rfl GC.t (V.leq (OV.g rfl id) (OV.p rfl)) rfl ?_
  refine WL.val (V.pickAnd (OV.p rfl) (OV.g rfl id)) rfl ?_
  refine WL.val (V.move (OV.p rfl)) rfl ?_
  refine WL.valG (oj := _) rfl rfl rfl GC.t (V.fieldAddr fo23_1 (OV.p rfl)) rfl ?_
  refine WL.valG (oj := _) rfl rfl rfl GC.t (V.load Tryz.isAgg3 (OV.g rfl id) (fun _ => by repeat (first | exact Rd.here rfl | apply Rd.up))) rfl ?_
  refine WL.valG (oj := _) rfl rfl rfl GC.t (V.leq (OV.g rfl id) (OV.p rfl)) rfl ?_
  refine WL.val (V.pickAnd (OV.p rfl) (OV.g rfl id)) rfl ?_
  refine WL.val (V.assign (OV.p rfl)) rfl ?_
  refine WL.nil ?_
  refine WC.ret ?_
  exact BodyQ.ret (H' := F) (Res.tmp rfl rfl) (fun w h => by repeat (first | exact h | replace h := h.tail)) ⟨rfl, rfl⟩
theorem law08_tiny (K : World) (F : List Assn) : Tells Tryz.prog 72 #[] K F (Geo.mk 2 2 1 16 1).v := by
  refine Does.enter Tryz.func72 rfl Tryz.ntmps72 rfl ?_
  simp only [env0, Nat.reduceAdd]
  refine WC.sr ?_
  refine WL.alloc (cs := [(.int .i64 0), (.int .i64 0), (.int .i64 0), (.int .i64 0), (.int .i64 0)]) Tryz.zeroValue23 rfl rfl (fun b0 => ?_)
  refine WL.nil ?_
  refine WC.sr ?_
  refine WL.val (V.build (vs := [(0, _), (1, _), (2, _), (3, _), (4, _)]) ⟨OV.p rfl, OV.p rfl, OV.p rfl, OV.p rfl, OV.p rfl, trivial⟩ rfl (bld23_0_1_2_3_4 _ _ _ _ _)) rfl ?_
  refine WL.store (cs := [_, _, _, _, _]) Tryz.sizeOf23 (OV.p rfl) (OV.p rfl) rfl rfl rfl (by repeat (first | exact Upd.here (cs' := [_, _, _, _, _]) rfl rfl | apply Upd.up)) ?_
  refine WL.nil ?_
  refine WC.ret ?_
  exact BodyQ.ret (H' := F) (Res.one rfl (R1.cellA (vs := [_, _, _, _, _]) rfl ⟨Tryz.isAgg23, Tryz.sizeOf23⟩ rfl (by repeat (first | exact Rds.gets ⟨rfl, rfl, rfl, rfl, rfl, trivial⟩ | apply Rds.up)))) (fun w h => by repeat (first | exact h | replace h := h.tail)) ⟨rfl, rfl⟩
def tiny8 : Geo := ⟨2, 2, 1, 16, 1⟩
def dat8 : List Nat := [115, 105, 120, 116, 101, 101, 110, 32, 98, 121, 116, 101, 115, 44, 32, 48]
def w8a : Chip := (Chip.new tiny8 []).weaken 1
def w8b : Chip := (w8a.dWrite 0 0 dat8).1
def w8c : Chip := (w8b.dWrite 1 0 dat8).1
theorem law08_awake (K : World) (F : List Assn) : Tells Tryz.prog 21 #[] K F (.bool true) := by
  have q0 : (w8a.dWrite 0 0 dat8).2 = 0 := by kernel_rfl
  have q1 : w8b.dRead 0 0 = ⟨0, dat8, 0⟩ := by kernel_rfl
  have q2 : (w8b.dWrite 1 0 dat8).2 = 72 := by kernel_rfl
  have q3 : w8c.good = [0] := by kernel_rfl
  have q4 : (w8c.dWrite 1 0 dat8).2 = 73 := by kernel_rfl
  have qm : tiny8.may = true := by kernel_rfl
  have hd8 : Small 256 dat8 := by unfold Small; decide
  refine Does.enter Tryz.func21 rfl Tryz.ntmps21 rfl ?_
  simp only [env0, Nat.reduceAdd]
  refine WC.sr ?_
  refine WL.val (V.assign (OV.p rfl)) rfl ?_
  refine WL.nil ?_
  refine WC.sr ?_
  refine WL.call (vs := []) Tryz.call72 trivial (law08_tiny _ _) rfl ?_
  rintro _ H0 ⟨rfl, h0⟩
  subst H0
  refine WL.call (vs := [_, _]) Tryz.call13 ⟨OV.p rfl, OV.p rfl, trivial⟩ (chip_New tiny8 (l := []) Seq.nil (by decide)) rfl ?_
  rintro _ _ (⟨hm, hin, bc, C0, hC0, s0, rfl, rfl⟩ | ⟨hno, rfl, rfl⟩)
  rotate_left
  · exact (hno ⟨qm, fun x hx => by simp at hx⟩).elim
  have g0 : C0.g = tiny8 := by rw [show C0.g = C0.sem.g from rfl, s0]; rfl
  refine WL.val (V.move (OV.p rfl)) rfl ?_
  refine WL.val (V.extract (OV.p rfl) rfl) rfl ?_
  refine WL.val (V.extract (OV.p rfl) rfl) rfl ?_
  refine WL.val (V.assign (OV.p rfl)) rfl ?_
  refine WL.val (V.assign (OV.p rfl)) rfl ?_
  refine WL.nil ?_
  refine WC.sr ?_
  refine WL.val (V.move (OV.p rfl)) rfl ?_
  refine WL.call (vs := [_]) Tryz.call14 ⟨OV.p rfl, trivial⟩ (drive_NewG hC0 g0) rfl ?_
  rintro _ _ ⟨bd, rfl, rfl⟩
  refine WL.val (V.move (OV.p rfl)) rfl ?_
  refine WL.val (V.extract (OV.p rfl) rfl) rfl ?_
  refine WL.val (V.extract (OV.p rfl) rfl) rfl ?_
  refine WL.val (V.assign (OV.p rfl)) rfl ?_
  refine WL.val (V.assign (OV.p rfl)) rfl ?_
  refine WL.nil ?_
  refine WC.sr ?_
  refine WL.call (vs := [_]) Tryz.call14 ⟨OV.p rfl, trivial⟩ (nil_New) rfl ?_
  rintro _ H0 ⟨rfl, h0⟩
  subst H0
  refine WL.val (V.move (OV.p rfl)) rfl ?_
  refine WL.val (V.extract (OV.p rfl) rfl) rfl ?_
  refine WL.val (V.extract (OV.p rfl) rfl) rfl ?_
  refine WL.val (V.assign (OV.p rfl)) rfl ?_
  refine WL.val (V.assign (OV.p rfl)) rfl ?_
  refine WL.nil ?_
  refine WC.seq ?_
  refine WC.sr ?_
  refine WL.val (V.move (OV.p rfl)) rfl ?_
  refine WL.val (V.eqlP Tryz.underlying31 (OV.p rfl) (OV.p rfl)) rfl ?_
  refine WL.val (V.move (OV.p rfl)) rfl ?_
  refine WL.valG (oj := _) rfl rfl rfl GC.f (V.move (OV.p rfl)) rfl ?_
  refine WL.valG (oj := _) rfl rfl rfl GC.f (V.neq (OV.g rfl id) (OV.p rfl)) rfl ?_
  refine WL.val (V.pickOr (OV.p rfl) (OV.g rfl id)) rfl ?_
  refine WL.val (V.move (OV.p rfl)) rfl ?_
  refine WL.valG (oj := _) rfl rfl rfl GC.f (V.move (OV.p rfl)) rfl ?_
  refine WL.valG (oj := _) rfl rfl rfl GC.f (V.neq (OV.g rfl id) (OV.p rfl)) rfl ?_
  refine WL.val (V.pickOr (OV.p rfl) (OV.g rfl id)) rfl ?_
  refine WL.nil ?_
  refine WC.condF' rfl (by first | rfl | (simp; done) | (simp; omega)) ?_
  refine WC.skip ?_
  refine WC.sr ?_
  refine WL.buildSlice (E := 5) (cs := [_, _, _, _, _, _, _, _, _, _, _, _, _, _, _, _]) (vs := [(0, _), (1, _), (2, _), (3, _), (4, _), (5, _), (6, _), (7, _), (8, _), (9, _), (10, _), (11, _), (12, _), (13, _), (14, _), (15, _)]) ⟨OV.p rfl, OV.p rfl, OV.p rfl, OV.p rfl, OV.p rfl, OV.p rfl, OV.p rfl, OV.p rfl, OV.p rfl, OV.p rfl, OV.p rfl, OV.p rfl, OV.p rfl, OV.p rfl, OV.p rfl, OV.p rfl, trivial⟩ rfl (bsl38_16_0_1_2_3_4_5_6_7_8_9_10_11_12_13_14_15 _ _ _ _ _ _ _ _ _ _ _ _ _ _ _ _) rfl (fun b37 => ?_)
  refine WL.convMark Tryz.underlying38 Tryz.underlying5 (OV.p rfl) rfl ?_
  refine WL.sub (Sub.refl _) (fun w h => h.sel 3 [1, 2, 0] rfl) ?_
  have hsq : ∀ {X Y : Assn}, Seq K (X :: Y :: CellsZ b37 5 (nats .u8 dat8) :: F) (some ⟨b37, 0, none⟩) 16 1 (nats .u8 dat8) := fun {X Y} => Seq.up (Seq.up (Seq.allZ rfl))
  refine WL.val (V.assign (OV.p rfl)) rfl ?_
  refine WL.nil ?_
  refine WC.sr ?_
  refine WL.val (V.move (OV.p rfl)) rfl ?_
  refine WL.call (vs := [_, _]) Tryz.call43 ⟨OV.p rfl, OV.p rfl, trivial⟩ (chip_WeakG hC0 g0 1) rfl ?_
  rintro _ _ ⟨C1, hC1, g1, rfl, s1⟩
  have s1' : C1.sem = w8a := by rw [s1, s0]; rfl
  refine WL.nil ?_
  refine WC.sr ?_
  refine WL.val (V.move (OV.p rfl)) rfl ?_
  refine WL.val (V.move (OV.p rfl)) rfl ?_
  refine WL.call (vs := [_, _, _, _]) Tryz.call23 ⟨OV.p rfl, OV.p rfl, OV.p rfl, OV.p rfl, trivial⟩ (drive_WriteG hC1 g1 0 0 (Seq.allZ rfl : Seq K (CellsZ b37 5 (nats .u8 dat8) :: F) (some ⟨b37, 0, none⟩) 16 1 (nats .u8 dat8)) hd8 (Nat.le_refl _) (by decide)) rfl ?_
  rintro v1 _ ⟨C2, hC2, g2, rfl, s2, hv1⟩
  rw [s1', q0] at hv1
  have s2' : C2.sem = w8b := by rw [s2, s1']; rfl
  subst hv1
  refine WL.val (V.assign (OV.p rfl)) rfl ?_
  refine WL.nil ?_
  refine WC.sr ?_
  refine WL.val (V.move (OV.p rfl)) rfl ?_
  refine WL.call (vs := [_, _, _]) Tryz.call26 ⟨OV.p rfl, OV.p rfl, OV.p rfl, trivial⟩ (drive_ReadG hC2 g2 0 0) rfl ?_
  rintro _ _ ⟨A3, c3, rfl, rfl⟩
  rw [s2', q1]
  refine WL.sub (Sub.refl _) (fun w h => h.sel 4 [1, 2, 3, 0] rfl) ?_
  refine WL.val (V.move (OV.p rfl)) rfl ?_
  refine WL.val (V.extract (OV.p rfl) rfl) rfl ?_
  refine WL.val (V.extract (OV.p rfl) rfl) rfl ?_
  refine WL.val (V.extract (OV.p rfl) rfl) rfl ?_
  refine WL.val (V.assign (OV.p rfl)) rfl ?_
  refine WL.val (V.assign (OV.p rfl)) rfl ?_
  refine WL.val (V.assign (OV.p rfl)) rfl ?_
  refine WL.nil ?_
  refine WC.sr ?_
  refine WL.val (V.move (OV.p rfl)) rfl ?_
  refine WL.val (V.move (OV.p rfl)) rfl ?_
  refine WL.call (vs := [_, _, _, _]) Tryz.call23 ⟨OV.p rfl, OV.p rfl, OV.p rfl, OV.p rfl, trivial⟩ (drive_WriteG hC2 g2 1 0 (Seq.allZ rfl : Seq K (CellsZ b37 5 (nats .u8 dat8) :: _) (some ⟨b37, 0, none⟩) 16 1 (nats .u8 dat8)) hd8 (Nat.le_refl _) (by decide)) rfl ?_
  rintro v4 _ ⟨C4, hC4, g4, rfl, s4, hv4⟩
  rw [s2', q2] at hv4
  have s4' : C4.sem = w8c := by rw [s4, s2']; rfl
  subst hv4
  refine WL.val (V.assign (OV.p rfl)) rfl ?_
  refine WL.nil ?_
  refine WC.sr ?_
  refine WL.val (V.move (OV.p rfl)) rfl ?_
  refine WL.val (V.eql (OV.p rfl) (OV.p rfl)) rfl ?_
  refine WL.val (V.move (OV.p rfl)) rfl ?_
  refine WL.known (oj := _) rfl rfl rfl rfl ?_
  refine WL.val (V.move (OV.p rfl)) rfl ?_
  refine WL.known (oj := _) rfl rfl rfl rfl ?_
  refine WL.val (V.bytesStr (xs := intsOf dat8) Tryz.underlying38 Tryz.underlying5 Tryz.underlying9 (OV.p rfl) (fun _ => by rw [← nats_intsOf]; exact Seq.up (Seq.up (Seq.up (SlA.seq rfl))))) rfl ?_
  refine WL.known (oj := _) rfl rfl rfl rfl ?_
  refine WL.val (V.move (OV.p rfl)) rfl ?_
  refine WL.known (oj := _) rfl rfl rfl rfl ?_
  refine WL.val (V.bytesStr (xs := intsOf dat8) Tryz.underlying38 Tryz.underlying5 Tryz.underlying9 (OV.p rfl) (fun _ => by rw [← nats_intsOf]; exact Seq.up (Seq.up (Seq.allZ rfl)))) rfl ?_
  refine WL.known (oj := _) rfl rfl rfl rfl ?_
  refine WL.val (V.val_eq (v' := .bool true) (V.eqlS (OV.p rfl) (OV.p rfl)) (fun _ => by simp)) rfl ?_
  refine WL.val (V.pickAnd (OV.p rfl) (OV.p rfl)) rfl ?_
  refine WL.val (V.move (OV.p rfl)) rfl ?_
  refine WL.known (oj := _) rfl rfl rfl rfl ?_
  refine WL.val (V.move (OV.p rfl)) rfl ?_
  refine WL.known (oj := _) rfl rfl rfl rfl ?_
  refine WL.val (V.eql (OV.p rfl) (OV.p rfl)) rfl ?_
  refine WL.val (V.pickAnd (OV.p rfl) (OV.p rfl)) rfl ?_
  refine WL.val (V.move (OV.p rfl)) rfl ?_
  refine WL.known (oj := _) rfl rfl rfl rfl ?_
  refine WL.val (V.move (OV.p rfl)) rfl ?_
  refine WL.known (oj := _) rfl rfl rfl rfl ?_
  refine WL.val (V.eql (OV.p rfl) (OV.p rfl)) rfl ?_
  refine WL.val (V.pickAnd (OV.p rfl) (OV.p rfl)) rfl ?_
  refine WL.val (V.move (OV.p rfl)) rfl ?_
  refine WL.known (oj := _) rfl rfl rfl rfl ?_
  refine WL.val (V.move (OV.p rfl)) rfl ?_
  refine WL.known (oj := _) rfl rfl rfl rfl ?_
  refine WL.val (V.eql (OV.p rfl) (OV.p rfl)) rfl ?_
  refine WL.val (V.pickAnd (OV.p rfl) (OV.p rfl)) rfl ?_
  refine WL.val (V.move (OV.p rfl)) rfl ?_
  refine WL.known (oj := _) rfl rfl rfl rfl ?_
  refine WL.val (V.move (OV.p rfl)) rfl ?_
  refine WL.known (oj := _) rfl rfl rfl rfl ?_
  refine WL.call (vs := [_]) Tryz.call18 ⟨OV.p rfl, trivial⟩ (drive_GoodG hC4 g4) rfl ?_
  rintro _ _ ⟨A5, c5, rfl, rfl⟩
  rw [s4', q3]
  refine WL.known (oj := _) rfl rfl rfl rfl ?_
  refine WL.buildSlice (E := 3) (cs := [_]) (vs := [(0, _)]) ⟨OV.p rfl, trivial⟩ rfl (bsl42_1_0 _) rfl (fun b77 => ?_)
  refine WL.known (oj := _) rfl rfl rfl rfl ?_
  refine WL.call (vs := [_, _]) Tryz.call17 ⟨OV.p rfl, OV.p rfl, trivial⟩ (Tells.eq (v' := .bool true) (ref01_Ints (xs := [0]) (ys := [0]) K _ (Seq.up (SlA.seq rfl)) (Seq.all rfl) (by decide)) rfl) rfl ?_
  rintro _ H0 ⟨rfl, h0⟩
  subst H0
  refine WL.val (V.pickAnd (OV.p rfl) (OV.p rfl)) rfl ?_
  refine WL.val (V.move (OV.p rfl)) rfl ?_
  refine WL.known (oj := _) rfl rfl rfl rfl ?_
  refine WL.val (V.move (OV.p rfl)) rfl ?_
  refine WL.known (oj := _) rfl rfl rfl rfl ?_
  refine WL.sub (Sub.refl _) (fun w h => h.sel 6 [2, 3, 4] rfl) ?_
  refine WL.val (V.move (OV.p rfl)) rfl ?_
  refine WL.known (oj := _) rfl rfl rfl rfl ?_
  refine WL.call (vs := [_, _, _, _]) Tryz.call23 ⟨OV.p rfl, OV.p rfl, OV.p rfl, OV.p rfl, trivial⟩ (drive_WriteG hC4 g4 1 0 (Seq.allZ rfl : Seq K (CellsZ b37 5 (nats .u8 dat8) :: _) (some ⟨b37, 0, none⟩) 16 1 (nats .u8 dat8)) hd8 (Nat.le_refl _) (by decide)) rfl ?_
  rintro v6 _ ⟨C6, hC6, g6, rfl, s6, hv6⟩
  rw [s4', q4] at hv6
  subst hv6
  refine WL.known (oj := _) rfl rfl rfl rfl ?_
  refine WL.val (V.eql (OV.p rfl) (OV.p rfl)) rfl ?_
  refine WL.val (V.pickAnd (OV.p rfl) (OV.p rfl)) rfl ?_
  refine WL.val (V.assign (OV.p rfl)) rfl ?_
  refine WL.nil ?_
  refine WC.ret ?_
  exact BodyQ.ret (H' := F) (Res.tmp rfl rfl) (fun w h => h.sel 3 [] rfl) ⟨rfl, rfl⟩
end Go.Proofs.YtohkefolnmcjnaaGreat
