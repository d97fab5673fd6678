import Derived.Test.YtohkefolnmcjnaaGreatP21
/- head: Bytes, Parse; attach: Scan. -/
namespace Go.Proofs.YtohkefolnmcjnaaGreat
open Go.Sl Go.RowKit
set_option linter.unusedVariables false
set_option linter.unusedSimpArgs false
set_option maxRecDepth 20000

theorem or_shift {a b n : Nat} (ha : a < 2 ^ n) (hb : b * 2 ^ n < 4611686018427387904) (ha2 : a < 4611686018427387904) : bitsOf .or .i64 (a : Int) ((b * 2 ^ n : Nat) : Int) = ((a + b * 2 ^ n : Nat) : Int) := by
  have h1 : a + b * 2 ^ n < 9223372036854775808 := by omega
  unfold bitsOf
  dsimp only
  rw [ofInt_nat, ofInt_nat, BitVec.toNat_or, BitVec.toNat_ofNat, BitVec.toNat_ofNat]
  have e1 : a % 2 ^ IntKind.i64.bits = a := Nat.mod_eq_of_lt (by show a < 2 ^ 64; omega)
  have e2 : b * 2 ^ n % 2 ^ IntKind.i64.bits = b * 2 ^ n := Nat.mod_eq_of_lt (by show b * 2 ^ n < 2 ^ 64; omega)
  rw [e1, e2]
  have e3 : a ||| b * 2 ^ n = a + b * 2 ^ n := by
    have := Nat.two_pow_add_eq_or_of_lt ha b
    rw [Nat.mul_comm b, Nat.or_comm, ← this, Nat.add_comm]
  rw [e3]
  exact wrap_i64 (by omega)
theorem shl_i64 {x n : Nat} (hn : n ≤ 24) (hx : x < 256) : IntKind.i64.wrap ((x : Int) * 2 ^ (min (n : Int).toNat IntKind.i64.bits)) = ((x * 2 ^ n : Nat) : Int) := by
  have h1 : min (n : Int).toNat IntKind.i64.bits = n := by rw [Int.toNat_natCast]; exact Nat.min_eq_left (by show n ≤ 64; omega)
  have h2 : x * 2 ^ n ≤ 255 * 2 ^ 24 := Nat.mul_le_mul (by omega) (Nat.pow_le_pow_right (by decide) hn)
  rw [h1, show (x : Int) * 2 ^ n = ((x * 2 ^ n : Nat) : Int) by rw [Int.natCast_mul, Int.natCast_pow]; rfl]
  exact wrap_i64 (by omega)
theorem parse_len {g : Geo} {d : List Nat} {h : Hd} (hg : g.mays) (hp : parseF g d = some h) : d.length = g.room.toNat ∧ h.may g = true ∧ d = headB g h := by
  unfold parseF at hp
  split at hp
  · rename_i h1
    injection hp with hp
    subst hp
    simp only [Bool.and_eq_true, decide_eq_true_eq] at h1
    exact ⟨by rw [← h1.2, headB_length hg], h1.1, h1.2.symm⟩
  · cases hp
section
variable {g : Geo} {K : World} {F : List Assn}
theorem head_Bytes (hg : g.mays) (h : Hd) (hn : h.len ≤ 1099511627776) (hl : 0 ≤ h.leb) (hk : 0 ≤ h.num) :
    Does Tryz.prog 126 #[g.v, h.v] K F (fun v H' => (h.may g = true ∧ ∃ A' c', v = .tuple #[.slice A' g.room.toNat c', .int .i64 0] ∧ H' = SlA (.slice A' g.room.toNat c') 5 1 g.room.toNat (nats .u8 (headB g h)) :: F) ∨
      (h.may g = false ∧ v = .tuple #[.slice none 0 0, .int .i64 1] ∧ H' = F)) := by
  have hr := Geo.room_bd hg
  refine Does.enter Tryz.func126 rfl Tryz.ntmps126 rfl ?_
  simp only [env0, Nat.reduceAdd]
  refine WC.sr ?_
  refine WL.box (cs := [_, _, _, _, _]) (OV.p rfl) rfl rfl (fun b2 => ?_)
  refine WL.box (cs := [_, _, _]) (OV.p rfl) rfl rfl (fun b3 => ?_)
  refine WL.val (V.assign (OV.p rfl)) rfl ?_
  refine WL.val (V.assign (OV.p rfl)) rfl ?_
  refine WL.nil ?_
  refine WC.seq ?_
  refine WC.sr ?_
  refine WL.val (V.loadA (vs := [_, _, _, _, _]) ⟨Tryz.isAgg23, Tryz.sizeOf23⟩ (OV.p rfl) rfl (fun _ => by repeat (first | exact Rds.gets ⟨rfl, rfl, rfl, rfl, rfl, trivial⟩ | apply Rds.up))) rfl ?_
  refine WL.val (V.loadA (vs := [_, _, _]) ⟨Tryz.isAgg129, Tryz.sizeOf129⟩ (OV.p rfl) rfl (fun _ => by repeat (first | exact Rds.gets ⟨rfl, rfl, rfl, trivial⟩ | apply Rds.up))) rfl ?_
  refine WL.call (vs := [_, _]) Tryz.call172 ⟨OV.p rfl, OV.p rfl, trivial⟩ (head_may hg h hn) rfl ?_
  rintro _ H0 ⟨rfl, h0⟩
  subst H0
  refine WL.val (V.not (OV.p rfl)) rfl ?_
  refine WL.nil ?_
  refine WC.cond rfl (fun hc0 => ?_) (fun hc0 => ?_)
  ·skip
   have h0 := hc0
   simp only [Bool.not_eq_true', Bool.not_eq_false'] at h0
   refine WC.sr ?_
   refine WL.val (V.assign (OV.p rfl)) rfl ?_
   refine WL.val (V.assign (OV.p rfl)) rfl ?_
   refine WL.nil ?_
   refine WC.ret ?_
   exact BodyQ.ret (H' := F) (Res.tmp2 rfl rfl rfl) (fun w h => h.drop 2) (.inr ⟨h0, rfl, rfl⟩)
  ·skip
   have h0 := hc0
   simp only [Bool.not_eq_true', Bool.not_eq_false'] at h0
   have hmb := h0
   unfold Hd.may Geo.fits at hmb
   simp only [Bool.and_eq_true, decide_eq_true_eq] at hmb
   refine WC.skip ?_
   refine WC.sr ?_
   refine WL.val (V.loadA (vs := [_, _, _, _, _]) ⟨Tryz.isAgg23, Tryz.sizeOf23⟩ (OV.p rfl) rfl (fun _ => by repeat (first | exact Rds.gets ⟨rfl, rfl, rfl, rfl, rfl, trivial⟩ | apply Rds.up))) rfl ?_
   refine WL.call (vs := [_]) Tryz.call73 ⟨OV.p rfl, trivial⟩ (ecc_RoomOk hg) rfl ?_
   rintro _ H0 ⟨rfl, h0⟩
   subst H0
   refine WL.val (V.move (OV.p rfl)) rfl ?_
   refine WL.val (V.extract (OV.p rfl) rfl) rfl ?_
   refine WL.val (V.extract (OV.p rfl) rfl) rfl ?_
   refine WL.val (V.assign (OV.p rfl)) rfl ?_
   refine WL.val (V.assign (OV.p rfl)) rfl ?_
   refine WL.nil ?_
   refine WC.sr ?_
   refine WL.buildSlice (E := 5) (cs := [_, _, _, _]) (vs := [(0, _), (1, _), (2, _), (3, _)]) ⟨OV.p rfl, OV.p rfl, OV.p rfl, OV.p rfl, trivial⟩ rfl (bsl38_4_0_1_2_3 _ _ _ _) rfl (fun b18 => ?_)
   refine WL.convMark Tryz.underlying38 Tryz.underlying5 (OV.p rfl) rfl ?_
   refine WL.val (V.fieldAddr fo129_0 (OV.p rfl)) rfl ?_
   refine WL.val (V.load Tryz.isAgg3 (OV.p rfl) (fun _ => by repeat (first | exact Rd.here rfl | apply Rd.up))) rfl ?_
   refine WL.val (V.fieldAddr fo129_1 (OV.p rfl)) rfl ?_
   refine WL.val (V.load Tryz.isAgg3 (OV.p rfl) (fun _ => by repeat (first | exact Rd.here rfl | apply Rd.up))) rfl ?_
   refine WL.val (V.fieldAddr fo129_2 (OV.p rfl)) rfl ?_
   refine WL.val (V.load Tryz.isAgg3 (OV.p rfl) (fun _ => by repeat (first | exact Rd.here rfl | apply Rd.up))) rfl ?_
   refine WL.buildSlice (E := 3) (cs := [_, _, _]) (vs := [(0, _), (1, _), (2, _)]) ⟨OV.p rfl, OV.p rfl, OV.p rfl, trivial⟩ rfl (bsl42_3_0_1_2 _ _ _) rfl (fun b26 => ?_)
   refine WL.call (vs := [_, _]) Tryz.call173 ⟨OV.p rfl, OV.p rfl, trivial⟩ (head_lay (cs := [.int .u8 99, .int .u8 97, .int .u8 115, .int .u8 101]) (by repeat (first | exact Seq.allZ rfl | apply Seq.up)) (Seq.all rfl)) rfl ?_
   rintro _ _ ⟨A1, c1, rfl, rfl⟩
   refine WL.val (V.assign (OV.p rfl)) rfl ?_
   refine WL.nil ?_
   refine WC.sr ?_
   refine WL.val (V.move (OV.p rfl)) rfl ?_
   refine WL.val (V.move (OV.p rfl)) rfl ?_
   refine WL.val (V.subI (OV.p rfl) (OV.p rfl) (fun hc => by first | omega | (simp at hc; omega))) rfl ?_
   refine WL.appendZ (m := 16) (q := g.room.toNat - 16) Tryz.underlying38 Tryz.underlying3 el5 rfl rfl (OV.p rfl) (OV.p rfl) (by omega) (by omega) (by omega) rfl (fun A2 c2 hA2 hc2 => ?_)
   refine WL.val (V.assign (OV.p rfl)) rfl ?_
   refine WL.val (V.assign (OV.p rfl)) rfl ?_
   refine WL.nil ?_
   refine WC.ret ?_
   have e1 : 16 + (g.room.toNat - 16) = g.room.toNat := by omega
   refine BodyQ.ret (H' := SlA (.slice A2 g.room.toNat c2) 5 1 g.room.toNat (nats .u8 (headB g h)) :: F) (Res.tmp2 rfl (look_eq rfl (by rw [e1])) rfl) (fun w hw => ?_) (.inl ⟨h0, A2, c2, rfl, rfl⟩)
   have h' := hw.sel 5 [0] rfl
   rw [e1, le4v_nats hl, le4v_nats hmb.1.1.1.1.1, le4v_nats hk] at h'
   unfold headB
   rw [nats_append, nats_append, nats_append, nats_append, nats_replicate]
   exact h'
theorem head_Parse1 {A : Option Addr} {m cap b i : Nat} {d : List Nat} (hs : Seq K F A m 1 (nats .u8 d)) (h8 : Small 256 d) (hb : Rd K F (some ⟨b, 0, none⟩) (.slice A m cap)) (hi : i + 3 < m) (hm : m ≤ 1000000) :
    Tells Tryz.prog 125 #[.int .i64 (i : Int), ptr b 0] K F (.int .i64 (dec4 d i)) := by
  have hl : d.length = m := by simpa [nats] using hs.len
  obtain ⟨x0, e0⟩ : ∃ x, x = d.getD i 0 := ⟨_, rfl⟩
  obtain ⟨x1, e1⟩ : ∃ x, x = d.getD (i + 1) 0 := ⟨_, rfl⟩
  obtain ⟨x2, e2⟩ : ∃ x, x = d.getD (i + 2) 0 := ⟨_, rfl⟩
  obtain ⟨x3, e3⟩ : ∃ x, x = d.getD (i + 3) 0 := ⟨_, rfl⟩
  have b0 : x0 < 256 := by rw [e0]; exact h8.at_ (by decide) _
  have b1 : x1 < 256 := by rw [e1]; exact h8.at_ (by decide) _
  have b2 : x2 < 256 := by rw [e2]; exact h8.at_ (by decide) _
  have b3 : x3 < 256 := by rw [e3]; exact h8.at_ (by decide) _
  have rd : ∀ (k : Nat) (j : Int) x, j = (i + k : Nat) → k ≤ 3 → x = d.getD (i + k) 0 → Rd K F (A.map (·.add (j.toNat * 1))) (.int .u8 (x : Int)) := fun k j x hj hk hx => by
    rw [hj, hx, Int.toNat_natCast]
    exact hs.nat_rd (by omega)
  have r0 := rd 0 (i : Int) x0 (by omega) (by omega) e0
  have r1 := rd 1 ((i : Int) + 1) x1 (by omega) (by omega) e1
  have r2 := rd 2 ((i : Int) + 2) x2 (by omega) (by omega) e2
  have r3 := rd 3 ((i : Int) + 3) x3 (by omega) (by omega) e3
  have hres : dec4 d i = ((x0 + x1 * 2 ^ 8 + x2 * 2 ^ 16 + x3 * 2 ^ 24 : Nat) : Int) := by unfold dec4; rw [← e0, ← e1, ← e2, ← e3]; omega
  rw [hres]
  refine Does.enter Tryz.func125 rfl Tryz.ntmps125 rfl ?_
  simp only [env0, Nat.reduceAdd]
  refine WC.sr ?_
  refine WL.val (V.assign (OV.p rfl)) rfl ?_
  refine WL.nil ?_
  refine WC.seq ?_
  refine WC.regionQ (by kernel_rfl) (by kernel_rfl) ?_
  refine WQ.val (V.load Tryz.isAgg38 (OV.p rfl) (fun _ => hb)) rfl ?_
  refine WQ.val (V.move (OV.p rfl)) rfl ?_
  refine WQ.val (V.idxS st38 (OV.p rfl) (OV.p rfl) (fun hc => by omega) (fun hc => r0)) rfl ?_
  refine WQ.val (V.load Tryz.isAgg5 (OV.p rfl) (fun hc => r0)) rfl ?_
  refine WQ.val (V.convW Tryz.runUnderlying5 Tryz.runUnderlying3 (OV.p rfl) (fun _ => wrap_i64 (by omega))) rfl ?_
  refine WQ.val (V.load Tryz.isAgg38 (OV.p rfl) (fun _ => hb)) rfl ?_
  refine WQ.val (V.move (OV.p rfl)) rfl ?_
  refine WQ.val (V.addI (OV.p rfl) (OV.p rfl) (fun hc => by first | omega | (simp at hc; omega))) rfl ?_
  refine WQ.val (V.idxS st38 (OV.p rfl) (OV.p rfl) (fun hc => by omega) (fun hc => r1)) rfl ?_
  refine WQ.val (V.load Tryz.isAgg5 (OV.p rfl) (fun hc => r1)) rfl ?_
  refine WQ.val (V.convW Tryz.runUnderlying5 Tryz.runUnderlying3 (OV.p rfl) (fun _ => wrap_i64 (by omega))) rfl ?_
  refine WQ.val (V.val_eq (v' := .int .i64 ((x1 * 2 ^ 8 : Nat) : Int)) (V.shl (OV.p rfl) (OV.p rfl) (by omega)) (fun _ => congrArg _ (shl_i64 (n := 8) (by decide) b1))) rfl ?_
  refine WQ.val (V.val_eq (v' := .int .i64 ((x0 + x1 * 2 ^ 8 : Nat) : Int)) (V.or (OV.p rfl) (OV.p rfl)) (fun _ => congrArg _ (or_shift (n := 8) (by omega) (by omega) (by omega)))) rfl ?_
  refine WQ.val (V.load Tryz.isAgg38 (OV.p rfl) (fun _ => hb)) rfl ?_
  refine WQ.val (V.move (OV.p rfl)) rfl ?_
  refine WQ.val (V.addI (OV.p rfl) (OV.p rfl) (fun hc => by first | omega | (simp at hc; omega))) rfl ?_
  refine WQ.val (V.idxS st38 (OV.p rfl) (OV.p rfl) (fun hc => by omega) (fun hc => r2)) rfl ?_
  refine WQ.val (V.load Tryz.isAgg5 (OV.p rfl) (fun hc => r2)) rfl ?_
  refine WQ.val (V.convW Tryz.runUnderlying5 Tryz.runUnderlying3 (OV.p rfl) (fun _ => wrap_i64 (by omega))) rfl ?_
  refine WQ.val (V.val_eq (v' := .int .i64 ((x2 * 2 ^ 16 : Nat) : Int)) (V.shl (OV.p rfl) (OV.p rfl) (by omega)) (fun _ => congrArg _ (shl_i64 (n := 16) (by decide) b2))) rfl ?_
  refine WQ.val (V.val_eq (v' := .int .i64 ((x0 + x1 * 2 ^ 8 + x2 * 2 ^ 16 : Nat) : Int)) (V.or (OV.p rfl) (OV.p rfl)) (fun _ => congrArg _ (or_shift (n := 16) (by omega) (by omega) (by omega)))) rfl ?_
  refine WQ.val (V.load Tryz.isAgg38 (OV.p rfl) (fun _ => hb)) rfl ?_
  refine WQ.val (V.move (OV.p rfl)) rfl ?_
  refine WQ.val (V.addI (OV.p rfl) (OV.p rfl) (fun hc => by first | omega | (simp at hc; omega))) rfl ?_
  refine WQ.val (V.idxS st38 (OV.p rfl) (OV.p rfl) (fun hc => by omega) (fun hc => r3)) rfl ?_
  refine WQ.val (V.load Tryz.isAgg5 (OV.p rfl) (fun hc => r3)) rfl ?_
  refine WQ.val (V.convW Tryz.runUnderlying5 Tryz.runUnderlying3 (OV.p rfl) (fun _ => wrap_i64 (by omega))) rfl ?_
  refine WQ.val (V.val_eq (v' := .int .i64 ((x3 * 2 ^ 24 : Nat) : Int)) (V.shl (OV.p rfl) (OV.p rfl) (by omega)) (fun _ => congrArg _ (shl_i64 (n := 24) (by decide) b3))) rfl ?_
  refine WQ.val (V.val_eq (v' := .int .i64 ((x0 + x1 * 2 ^ 8 + x2 * 2 ^ 16 + x3 * 2 ^ 24 : Nat) : Int)) (V.or (OV.p rfl) (OV.p rfl)) (fun _ => congrArg _ (or_shift (n := 24) (by omega) (by omega) (by omega)))) rfl ?_
  refine WQ.val (V.assign (OV.p rfl)) rfl ?_
  refine WQ.nil ?_
  refine WC.ret ?_
  exact BodyQ.ret (H' := F) (Res.tmp rfl rfl) (fun w h => h) ⟨rfl, rfl⟩
theorem bytes_Equal {A B : Option Addr} {m q cap cap' : Nat} {d e : List Nat} (hs : Seq K F A m 1 (nats .u8 d)) (hq : Seq K F B q 1 (nats .u8 e)) (hd : Small 256 d) (he : Small 256 e) :
    Tells Tryz.prog 127 #[.slice A m cap, .slice B q cap'] K F (.bool (decide (d = e))) := by
  refine Does.enter Tryz.func127 rfl Tryz.ntmps127 rfl ?_
  simp only [env0, Nat.reduceAdd]
  refine WC.sr ?_
  refine WL.val (V.assign (OV.p rfl)) rfl ?_
  refine WL.nil ?_
  refine WC.sr ?_
  refine WL.val (V.move (OV.p rfl)) rfl ?_
  refine WL.val (V.bytesStr (xs := intsOf d) Tryz.underlying38 Tryz.underlying5 Tryz.underlying9 (OV.p rfl) (fun _ => by rw [← nats_intsOf]; exact hs)) rfl ?_
  refine WL.val (V.move (OV.p rfl)) rfl ?_
  refine WL.val (V.bytesStr (xs := intsOf e) Tryz.underlying38 Tryz.underlying5 Tryz.underlying9 (OV.p rfl) (fun _ => by rw [← nats_intsOf]; exact hq)) rfl ?_
  refine WL.val (V.eqlS (OV.p rfl) (OV.p rfl)) rfl ?_
  refine WL.val (V.assign (OV.p rfl)) rfl ?_
  refine WL.nil ?_
  refine WC.ret ?_
  refine BodyQ.ret (H' := F) (Res.tmp rfl rfl) (fun w h => h) ⟨?_, rfl⟩
  rw [str_eq (intsOf_bytes hd) (intsOf_bytes he)]
  congr 1
  apply decide_eq_decide.2
  exact ⟨fun h => by rw [← natsOf_intsOf d, h, natsOf_intsOf], fun h => by rw [h]⟩
/-- What Parse tells: a head, an error. -/
def parseH (g : Geo) (d : List Nat) : Hd := (parseF g d).getD ⟨0, 0, 0⟩
def parseE (g : Geo) (d : List Nat) : Int := match parseF g d with | some _ => 0 | none => if d.length = g.room.toNat then 4 else 1
theorem head_Parse {A : Option Addr} {m cap : Nat} {d : List Nat} (hg : g.mays) (hs : Seq K F A m 1 (nats .u8 d)) (h8 : Small 256 d) (hm : m ≤ 1000000) :
    Tells Tryz.prog 90 #[g.v, .slice A m cap] K F (.tuple #[(parseH g d).v, .int .i64 (parseE g d)]) := by
  have hl : d.length = m := by simpa [nats] using hs.len
  have hr := Geo.room_bd hg
  by_cases hlen : (m : Int) = g.room
  rotate_left
  · have hn : parseF g d = none := by
      cases hp : parseF g d with
      | none => rfl
      | some h => have := (parse_len hg hp).1; omega
    have e1 : parseH g d = ⟨0, 0, 0⟩ := by unfold parseH; rw [hn]; rfl
    have e2 : parseE g d = 1 := by unfold parseE; rw [hn]; exact if_neg (by omega)
    rw [e1, e2]
    refine Does.enter Tryz.func90 rfl Tryz.ntmps90 rfl ?_
    simp only [env0, Nat.reduceAdd]
    refine WC.sr ?_
    refine WL.box (cs := [_, _, _, _, _]) (OV.p rfl) rfl rfl (fun b2 => ?_)
    refine WL.box (cs := [_]) (OV.p rfl) rfl rfl (fun b3 => ?_)
    refine WL.alloc (cs := [(.int .i64 0), (.int .i64 0), (.int .i64 0)]) Tryz.zeroValue129 rfl rfl (fun b4 => ?_)
    refine WL.val (V.assign (OV.p rfl)) rfl ?_
    refine WL.nil ?_
    refine WC.sr ?_
    refine WL.val (V.loadA (vs := [_, _, _, _, _]) ⟨Tryz.isAgg23, Tryz.sizeOf23⟩ (OV.p rfl) rfl (fun _ => by repeat (first | exact Rds.gets ⟨rfl, rfl, rfl, rfl, rfl, trivial⟩ | apply Rds.up))) rfl ?_
    refine WL.call (vs := [_]) Tryz.call73 ⟨OV.p rfl, trivial⟩ (ecc_RoomOk hg) rfl ?_
    rintro _ H0 ⟨rfl, h0⟩
    subst H0
    refine WL.val (V.move (OV.p rfl)) rfl ?_
    refine WL.val (V.extract (OV.p rfl) rfl) rfl ?_
    refine WL.val (V.extract (OV.p rfl) rfl) rfl ?_
    refine WL.val (V.assign (OV.p rfl)) rfl ?_
    refine WL.val (V.assign (OV.p rfl)) rfl ?_
    refine WL.nil ?_
    refine WC.seq ?_
    refine WC.sr ?_
    refine WL.val (V.move (OV.p rfl)) rfl ?_
    refine WL.val (V.neq (OV.p rfl) (OV.p rfl)) rfl ?_
    refine WL.val (V.move (OV.p rfl)) rfl ?_
    refine WL.valG (oj := _) rfl rfl rfl GC.f (V.load Tryz.isAgg38 (OV.p rfl) (fun _ => by repeat (first | exact Rd.here rfl | apply Rd.up))) rfl ?_
    refine WL.valG (oj := _) rfl rfl rfl GC.f (V.len (t := 38) Tryz.runUnderlying38 (OV.g rfl id)) rfl ?_
    refine WL.valG (oj := _) rfl rfl rfl GC.f (V.move (OV.p rfl)) rfl ?_
    refine WL.valG (oj := _) rfl rfl rfl GC.f (V.neq (OV.g rfl id) (OV.g rfl id)) rfl ?_
    refine WL.val (V.pickOr (OV.p rfl) (OV.g rfl id)) rfl ?_
    refine WL.nil ?_
    refine WC.condT' rfl ((by simp; omega)) ?_
    refine WC.sr ?_
    refine WL.val (V.build (vs := []) trivial rfl (bld129 )) rfl ?_
    refine WL.store (cs := [_, _, _]) Tryz.sizeOf129 (OV.p rfl) (OV.p rfl) rfl rfl rfl (by repeat (first | exact Upd.here (cs' := [_, _, _]) rfl rfl | apply Upd.up)) ?_
    refine WL.val (V.assign (OV.p rfl)) rfl ?_
    refine WL.nil ?_
    refine WC.ret ?_
    exact BodyQ.ret (H' := F) (Res.two rfl (R1.cellA (vs := [_, _, _]) rfl ⟨Tryz.isAgg129, Tryz.sizeOf129⟩ rfl (by repeat (first | exact Rds.gets ⟨rfl, rfl, rfl, trivial⟩ | apply Rds.up))) (R1.tmp rfl)) (fun w h => h.drop 3) ⟨rfl, rfl⟩
  obtain ⟨h, hh⟩ : ∃ h, h = headOf d := ⟨_, rfl⟩
  have db : ∀ i, 0 ≤ dec4 d i ∧ dec4 d i < 4294967296 := fun i => by
    have x0 := h8.at_ (by decide) i
    have x1 := h8.at_ (by decide) (i + 1)
    have x2 := h8.at_ (by decide) (i + 2)
    have x3 := h8.at_ (by decide) (i + 3)
    unfold dec4
    omega
  have hb : h = ⟨dec4 d 4, dec4 d 8, dec4 d 12⟩ := hh
  have h0l : 0 ≤ h.leb := by rw [hb]; exact (db 4).1
  have h0k : 0 ≤ h.num := by rw [hb]; exact (db 12).1
  have h0n : h.len ≤ 1099511627776 := by rw [hb]; have := (db 8).2; show dec4 d 8 ≤ _; omega
  cases hmy : h.may g with
  | false =>
    have hn : parseF g d = none := by unfold parseF; rw [← hh, hmy]; rfl
    have e1 : parseH g d = ⟨0, 0, 0⟩ := by unfold parseH; rw [hn]; rfl
    have e2 : parseE g d = 4 := by unfold parseE; rw [hn]; exact if_pos (by omega)
    rw [e1, e2]
    have hby : ∀ (K : World) (F : List Assn), Tells Tryz.prog 126 #[g.v, h.v] K F (.tuple #[.slice none 0 0, .int .i64 1]) := fun K F => (head_Bytes hg h h0n h0l h0k).mono (fun v H' hx => by
      rcases hx with ⟨h1, _⟩ | ⟨_, h2, h3⟩
      · rw [hmy] at h1; cases h1
      · exact ⟨h2, h3⟩)
    rw [hb] at hby
    refine Does.enter Tryz.func90 rfl Tryz.ntmps90 rfl ?_
    simp only [env0, Nat.reduceAdd]
    refine WC.sr ?_
    refine WL.box (cs := [_, _, _, _, _]) (OV.p rfl) rfl rfl (fun b2 => ?_)
    refine WL.box (cs := [_]) (OV.p rfl) rfl rfl (fun b3 => ?_)
    refine WL.alloc (cs := [(.int .i64 0), (.int .i64 0), (.int .i64 0)]) Tryz.zeroValue129 rfl rfl (fun b4 => ?_)
    refine WL.val (V.assign (OV.p rfl)) rfl ?_
    refine WL.nil ?_
    refine WC.sr ?_
    refine WL.val (V.loadA (vs := [_, _, _, _, _]) ⟨Tryz.isAgg23, Tryz.sizeOf23⟩ (OV.p rfl) rfl (fun _ => by repeat (first | exact Rds.gets ⟨rfl, rfl, rfl, rfl, rfl, trivial⟩ | apply Rds.up))) rfl ?_
    refine WL.call (vs := [_]) Tryz.call73 ⟨OV.p rfl, trivial⟩ (ecc_RoomOk hg) rfl ?_
    rintro _ H0 ⟨rfl, h0⟩
    subst H0
    refine WL.val (V.move (OV.p rfl)) rfl ?_
    refine WL.val (V.extract (OV.p rfl) rfl) rfl ?_
    refine WL.val (V.extract (OV.p rfl) rfl) rfl ?_
    refine WL.val (V.assign (OV.p rfl)) rfl ?_
    refine WL.val (V.assign (OV.p rfl)) rfl ?_
    refine WL.nil ?_
    refine WC.seq ?_
    refine WC.sr ?_
    refine WL.val (V.move (OV.p rfl)) rfl ?_
    refine WL.val (V.neq (OV.p rfl) (OV.p rfl)) rfl ?_
    refine WL.val (V.move (OV.p rfl)) rfl ?_
    refine WL.valG (oj := _) rfl rfl rfl GC.f (V.load Tryz.isAgg38 (OV.p rfl) (fun _ => by repeat (first | exact Rd.here rfl | apply Rd.up))) rfl ?_
    refine WL.valG (oj := _) rfl rfl rfl GC.f (V.len (t := 38) Tryz.runUnderlying38 (OV.g rfl id)) rfl ?_
    refine WL.valG (oj := _) rfl rfl rfl GC.f (V.move (OV.p rfl)) rfl ?_
    refine WL.valG (oj := _) rfl rfl rfl GC.f (V.neq (OV.g rfl id) (OV.g rfl id)) rfl ?_
    refine WL.val (V.pickOr (OV.p rfl) (OV.g rfl id)) rfl ?_
    refine WL.nil ?_
    refine WC.condF' rfl ((by simp; omega)) ?_
    refine WC.skip ?_
    refine WC.sr ?_
    refine WL.val (V.makeFunc (us := []) (vs := [_]) trivial ⟨OV.p rfl, trivial⟩) rfl ?_
    refine WL.val (V.assign (OV.p rfl)) rfl ?_
    refine WL.nil ?_
    refine WC.sr ?_
    refine WL.val (V.move (OV.p rfl)) rfl ?_
    refine WL.callV (first := []) (vs := [_]) (captured := [ptr b3 0]) Tryz.call125 (OV.p rfl) ⟨OV.p rfl, trivial⟩ (head_Parse1 (i := 4) (by repeat (first | exact hs | apply Seq.up)) h8 (by repeat (first | exact Rd.here rfl | apply Rd.up)) (by omega) hm) rfl ?_
    rintro _ _ ⟨rfl, rfl⟩
    refine WL.val (V.move (OV.p rfl)) rfl ?_
    refine WL.callV (first := []) (vs := [_]) (captured := [ptr b3 0]) Tryz.call125 (OV.p rfl) ⟨OV.p rfl, trivial⟩ (head_Parse1 (i := 8) (by repeat (first | exact hs | apply Seq.up)) h8 (by repeat (first | exact Rd.here rfl | apply Rd.up)) (by omega) hm) rfl ?_
    rintro _ _ ⟨rfl, rfl⟩
    refine WL.val (V.move (OV.p rfl)) rfl ?_
    refine WL.callV (first := []) (vs := [_]) (captured := [ptr b3 0]) Tryz.call125 (OV.p rfl) ⟨OV.p rfl, trivial⟩ (head_Parse1 (i := 12) (by repeat (first | exact hs | apply Seq.up)) h8 (by repeat (first | exact Rd.here rfl | apply Rd.up)) (by omega) hm) rfl ?_
    rintro _ _ ⟨rfl, rfl⟩
    refine WL.val (V.build (vs := [(0, _), (1, _), (2, _)]) ⟨OV.p rfl, OV.p rfl, OV.p rfl, trivial⟩ rfl (bld129_0_1_2 _ _ _)) rfl ?_
    refine WL.alloc (cs := [(.int .i64 0), (.int .i64 0), (.int .i64 0)]) Tryz.zeroValue129 rfl rfl (fun b9 => ?_)
    refine WL.store (cs := [_, _, _]) Tryz.sizeOf129 (OV.p rfl) (OV.p rfl) rfl rfl rfl (by repeat (first | exact Upd.here (cs' := [_, _, _]) rfl rfl | apply Upd.up)) ?_
    refine WL.nil ?_
    refine WC.seq ?_
    refine WC.sr ?_
    refine WL.val (V.loadA (vs := [_, _, _, _, _]) ⟨Tryz.isAgg23, Tryz.sizeOf23⟩ (OV.p rfl) rfl (fun _ => by repeat (first | exact Rds.gets ⟨rfl, rfl, rfl, rfl, rfl, trivial⟩ | apply Rds.up))) rfl ?_
    refine WL.val (V.loadA (vs := [_, _, _]) ⟨Tryz.isAgg129, Tryz.sizeOf129⟩ (OV.p rfl) rfl (fun _ => by repeat (first | exact Rds.gets ⟨rfl, rfl, rfl, trivial⟩ | apply Rds.up))) rfl ?_
    refine WL.call (vs := [_, _]) Tryz.call126 ⟨OV.p rfl, OV.p rfl, trivial⟩ (hby _ _) rfl ?_
    rintro _ H0 ⟨rfl, h0⟩
    subst H0
    refine WL.val (V.move (OV.p rfl)) rfl ?_
    refine WL.val (V.extract (OV.p rfl) rfl) rfl ?_
    refine WL.val (V.extract (OV.p rfl) rfl) rfl ?_
    refine WL.val (V.assign (OV.p rfl)) rfl ?_
    refine WL.val (V.assign (OV.p rfl)) rfl ?_
    refine WL.nil ?_
    refine WC.sr ?_
    refine WL.val (V.move (OV.p rfl)) rfl ?_
    refine WL.val (V.neq (OV.p rfl) (OV.p rfl)) rfl ?_
    refine WL.val (V.move (OV.p rfl)) rfl ?_
    refine WL.skipG (oj := _) rfl rfl rfl rfl rfl (fun d hd => by injection hd with hd; subst hd; rfl) ?_
    refine WL.skipG (oj := _) rfl rfl rfl rfl rfl (fun d hd => by injection hd with hd; subst hd; rfl) ?_
    refine WL.skipG (oj := _) rfl rfl rfl rfl rfl (fun d hd => by injection hd with hd; subst hd; rfl) ?_
    refine WL.skipG (oj := _) rfl rfl rfl rfl rfl (fun d hd => by injection hd with hd; subst hd; rfl) ?_
    refine WL.val (V.pickT (OV.p rfl) (OV.p rfl)) rfl ?_
    refine WL.nil ?_
    refine WC.condT' rfl (by first | rfl | (simp; done) | (simp; omega)) ?_
    refine WC.sr ?_
    refine WL.val (V.build (vs := []) trivial rfl (bld129 )) rfl ?_
    refine WL.store (cs := [_, _, _]) Tryz.sizeOf129 (OV.p rfl) (OV.p rfl) rfl rfl rfl (by repeat (first | exact Upd.here (cs' := [_, _, _]) rfl rfl | apply Upd.up)) ?_
    refine WL.val (V.assign (OV.p rfl)) rfl ?_
    refine WL.nil ?_
    refine WC.ret ?_
    exact BodyQ.ret (H' := F) (Res.two rfl (R1.cellA (vs := [_, _, _]) rfl ⟨Tryz.isAgg129, Tryz.sizeOf129⟩ rfl (by repeat (first | exact Rds.gets ⟨rfl, rfl, rfl, trivial⟩ | apply Rds.up))) (R1.tmp rfl)) (fun w h => h.drop 4) ⟨rfl, rfl⟩
  | true =>
    have hby : ∀ (K : World) (F : List Assn), Does Tryz.prog 126 #[g.v, h.v] K F (fun v H' => ∃ A' c', v = .tuple #[.slice A' g.room.toNat c', .int .i64 0] ∧ H' = SlA (.slice A' g.room.toNat c') 5 1 g.room.toNat (nats .u8 (headB g h)) :: F) := fun K F => (head_Bytes hg h h0n h0l h0k).mono (fun v H' hx => by
      rcases hx with ⟨_, h2⟩ | ⟨h1, _⟩
      · exact h2
      · rw [hmy] at h1; cases h1)
    have hpf : parseF g d = if headB g h = d then some h else none := by
      unfold parseF
      rw [← hh, hmy, Bool.true_and]
      by_cases he : headB g h = d
      · rw [decide_eq_true he, if_pos rfl, if_pos he]
      · rw [decide_eq_false he, if_neg Bool.false_ne_true, if_neg he]
    have hbl := headB_length hg h
    have hb8 := headB_small g h
    obtain ⟨hB, hhB⟩ : ∃ hB, hB = headB g h := ⟨_, rfl⟩
    rw [← hhB] at hbl hb8 hpf hby
    rw [hb] at hby
    refine Does.enter Tryz.func90 rfl Tryz.ntmps90 rfl ?_
    simp only [env0, Nat.reduceAdd]
    refine WC.sr ?_
    refine WL.box (cs := [_, _, _, _, _]) (OV.p rfl) rfl rfl (fun b2 => ?_)
    refine WL.box (cs := [_]) (OV.p rfl) rfl rfl (fun b3 => ?_)
    refine WL.alloc (cs := [(.int .i64 0), (.int .i64 0), (.int .i64 0)]) Tryz.zeroValue129 rfl rfl (fun b4 => ?_)
    refine WL.val (V.assign (OV.p rfl)) rfl ?_
    refine WL.nil ?_
    refine WC.sr ?_
    refine WL.val (V.loadA (vs := [_, _, _, _, _]) ⟨Tryz.isAgg23, Tryz.sizeOf23⟩ (OV.p rfl) rfl (fun _ => by repeat (first | exact Rds.gets ⟨rfl, rfl, rfl, rfl, rfl, trivial⟩ | apply Rds.up))) rfl ?_
    refine WL.call (vs := [_]) Tryz.call73 ⟨OV.p rfl, trivial⟩ (ecc_RoomOk hg) rfl ?_
    rintro _ H0 ⟨rfl, h0⟩
    subst H0
    refine WL.val (V.move (OV.p rfl)) rfl ?_
    refine WL.val (V.extract (OV.p rfl) rfl) rfl ?_
    refine WL.val (V.extract (OV.p rfl) rfl) rfl ?_
    refine WL.val (V.assign (OV.p rfl)) rfl ?_
    refine WL.val (V.assign (OV.p rfl)) rfl ?_
    refine WL.nil ?_
    refine WC.seq ?_
    refine WC.sr ?_
    refine WL.val (V.move (OV.p rfl)) rfl ?_
    refine WL.val (V.neq (OV.p rfl) (OV.p rfl)) rfl ?_
    refine WL.val (V.move (OV.p rfl)) rfl ?_
    refine WL.valG (oj := _) rfl rfl rfl GC.f (V.load Tryz.isAgg38 (OV.p rfl) (fun _ => by repeat (first | exact Rd.here rfl | apply Rd.up))) rfl ?_
    refine WL.valG (oj := _) rfl rfl rfl GC.f (V.len (t := 38) Tryz.runUnderlying38 (OV.g rfl id)) rfl ?_
    refine WL.valG (oj := _) rfl rfl rfl GC.f (V.move (OV.p rfl)) rfl ?_
    refine WL.valG (oj := _) rfl rfl rfl GC.f (V.neq (OV.g rfl id) (OV.g rfl id)) rfl ?_
    refine WL.val (V.pickOr (OV.p rfl) (OV.g rfl id)) rfl ?_
    refine WL.nil ?_
    refine WC.condF' rfl ((by simp; omega)) ?_
    refine WC.skip ?_
    refine WC.sr ?_
    refine WL.val (V.makeFunc (us := []) (vs := [_]) trivial ⟨OV.p rfl, trivial⟩) rfl ?_
    refine WL.val (V.assign (OV.p rfl)) rfl ?_
    refine WL.nil ?_
    refine WC.sr ?_
    refine WL.val (V.move (OV.p rfl)) rfl ?_
    refine WL.callV (first := []) (vs := [_]) (captured := [ptr b3 0]) Tryz.call125 (OV.p rfl) ⟨OV.p rfl, trivial⟩ (head_Parse1 (i := 4) (by repeat (first | exact hs | apply Seq.up)) h8 (by repeat (first | exact Rd.here rfl | apply Rd.up)) (by omega) hm) rfl ?_
    rintro _ _ ⟨rfl, rfl⟩
    refine WL.val (V.move (OV.p rfl)) rfl ?_
    refine WL.callV (first := []) (vs := [_]) (captured := [ptr b3 0]) Tryz.call125 (OV.p rfl) ⟨OV.p rfl, trivial⟩ (head_Parse1 (i := 8) (by repeat (first | exact hs | apply Seq.up)) h8 (by repeat (first | exact Rd.here rfl | apply Rd.up)) (by omega) hm) rfl ?_
    rintro _ _ ⟨rfl, rfl⟩
    refine WL.val (V.move (OV.p rfl)) rfl ?_
    refine WL.callV (first := []) (vs := [_]) (captured := [ptr b3 0]) Tryz.call125 (OV.p rfl) ⟨OV.p rfl, trivial⟩ (head_Parse1 (i := 12) (by repeat (first | exact hs | apply Seq.up)) h8 (by repeat (first | exact Rd.here rfl | apply Rd.up)) (by omega) hm) rfl ?_
    rintro _ _ ⟨rfl, rfl⟩
    refine WL.val (V.build (vs := [(0, _), (1, _), (2, _)]) ⟨OV.p rfl, OV.p rfl, OV.p rfl, trivial⟩ rfl (bld129_0_1_2 _ _ _)) rfl ?_
    refine WL.alloc (cs := [(.int .i64 0), (.int .i64 0), (.int .i64 0)]) Tryz.zeroValue129 rfl rfl (fun b9 => ?_)
    refine WL.store (cs := [_, _, _]) Tryz.sizeOf129 (OV.p rfl) (OV.p rfl) rfl rfl rfl (by repeat (first | exact Upd.here (cs' := [_, _, _]) rfl rfl | apply Upd.up)) ?_
    refine WL.nil ?_
    refine WC.seq ?_
    refine WC.sr ?_
    refine WL.val (V.loadA (vs := [_, _, _, _, _]) ⟨Tryz.isAgg23, Tryz.sizeOf23⟩ (OV.p rfl) rfl (fun _ => by repeat (first | exact Rds.gets ⟨rfl, rfl, rfl, rfl, rfl, trivial⟩ | apply Rds.up))) rfl ?_
    refine WL.val (V.loadA (vs := [_, _, _]) ⟨Tryz.isAgg129, Tryz.sizeOf129⟩ (OV.p rfl) rfl (fun _ => by repeat (first | exact Rds.gets ⟨rfl, rfl, rfl, trivial⟩ | apply Rds.up))) rfl ?_
    refine WL.call (vs := [_, _]) Tryz.call126 ⟨OV.p rfl, OV.p rfl, trivial⟩ (hby _ _) rfl ?_
    rintro _ _ ⟨A6, c6, rfl, rfl⟩
    refine WL.val (V.move (OV.p rfl)) rfl ?_
    refine WL.val (V.extract (OV.p rfl) rfl) rfl ?_
    refine WL.val (V.extract (OV.p rfl) rfl) rfl ?_
    refine WL.val (V.assign (OV.p rfl)) rfl ?_
    refine WL.val (V.assign (OV.p rfl)) rfl ?_
    refine WL.nil ?_
    refine WC.sr ?_
    refine WL.val (V.move (OV.p rfl)) rfl ?_
    refine WL.val (V.neq (OV.p rfl) (OV.p rfl)) rfl ?_
    refine WL.val (V.move (OV.p rfl)) rfl ?_
    refine WL.known (oj := _) rfl rfl rfl rfl ?_
    refine WL.val (V.move (OV.p rfl)) rfl ?_
    refine WL.known (oj := _) rfl rfl rfl rfl ?_
    refine WL.val (V.load Tryz.isAgg38 (OV.p rfl) (fun _ => by repeat (first | exact Rd.here rfl | apply Rd.up))) rfl ?_
    refine WL.known (oj := _) rfl rfl rfl rfl ?_
    refine WL.call (vs := [_, _]) Tryz.call127 ⟨OV.p rfl, OV.p rfl, trivial⟩ (bytes_Equal (d := hB) (e := d) (by repeat (first | exact SlA.seq (by rw [nats_length, hbl, Nat.mul_one]) | apply Seq.up)) (by repeat (first | exact hs | apply Seq.up)) hb8 h8) rfl ?_
    rintro _ H0 ⟨rfl, h0⟩
    subst H0
    refine WL.known (oj := _) rfl rfl rfl rfl ?_
    refine WL.val (V.not (OV.p rfl)) rfl ?_
    refine WL.val (V.pickOr (OV.p rfl) (OV.p rfl)) rfl ?_
    refine WL.nil ?_
    refine WC.cond rfl (fun hc1 => ?_) (fun hc1 => ?_)
    ·skip
     have h1 := hc1
     simp at h1
     have e1 : parseH g d = ⟨0, 0, 0⟩ := by unfold parseH; rw [hpf, if_neg h1]; rfl
     have e2 : parseE g d = 4 := by unfold parseE; rw [hpf, if_neg h1]; exact if_pos (by omega)
     refine WC.sr ?_
     refine WL.val (V.build (vs := []) trivial rfl (bld129 )) rfl ?_
     refine WL.store (cs := [_, _, _]) Tryz.sizeOf129 (OV.p rfl) (OV.p rfl) rfl rfl rfl (by repeat (first | exact Upd.here (cs' := [_, _, _]) rfl rfl | apply Upd.up)) ?_
     refine WL.val (V.assign (OV.p rfl)) rfl ?_
     refine WL.nil ?_
     refine WC.ret ?_
     rw [e1, e2]
     exact BodyQ.ret (H' := F) (Res.two rfl (R1.cellA (vs := [_, _, _]) rfl ⟨Tryz.isAgg129, Tryz.sizeOf129⟩ rfl (by repeat (first | exact Rds.gets ⟨rfl, rfl, rfl, trivial⟩ | apply Rds.up))) (R1.tmp rfl)) (fun w h => h.sel 5 [] rfl) ⟨rfl, rfl⟩
    ·skip
     have h1 := hc1
     simp at h1
     have e1 : parseH g d = h := by unfold parseH; rw [hpf, if_pos h1]; rfl
     have e2 : parseE g d = 0 := by unfold parseE; rw [hpf, if_pos h1]
     refine WC.skip ?_
     refine WC.sr ?_
     refine WL.val (V.loadA (vs := [_, _, _]) ⟨Tryz.isAgg129, Tryz.sizeOf129⟩ (OV.p rfl) rfl (fun _ => by repeat (first | exact Rds.gets ⟨rfl, rfl, rfl, trivial⟩ | apply Rds.up))) rfl ?_
     refine WL.store (cs := [_, _, _]) Tryz.sizeOf129 (OV.p rfl) (OV.p rfl) rfl rfl rfl (by repeat (first | exact Upd.here (cs' := [_, _, _]) rfl rfl | apply Upd.up)) ?_
     refine WL.val (V.assign (OV.p rfl)) rfl ?_
     refine WL.nil ?_
     refine WC.ret ?_
     rw [e1, e2, hb]
     exact BodyQ.ret (H' := F) (Res.two rfl (R1.cellA (vs := [_, _, _]) rfl ⟨Tryz.isAgg129, Tryz.sizeOf129⟩ rfl (by repeat (first | exact Rds.gets ⟨rfl, rfl, rfl, trivial⟩ | apply Rds.up))) (R1.tmp rfl)) (fun w h => h.sel 5 [] rfl) ⟨rfl, rfl⟩
end
end Go.Proofs.YtohkefolnmcjnaaGreat
/- attach.Scan. -/
namespace Go.Proofs.YtohkefolnmcjnaaGreat
open Go.Sl Go.RowKit
set_option linter.unusedVariables false
set_option linter.unusedSimpArgs false
set_option maxRecDepth 20000

namespace Chip
def scanB (S : Chip) (b : Int) : Option Fd :=
  if (S.dRead b 0).err ≠ 0 then none
  else match parseF S.g (S.dRead b 0).d with
    | none => none
    | some h => some ⟨b, h, (S.dWhole b (1 + S.g.pagesOf h.len)).1⟩
def scanF (S : Chip) : List Fd := S.good.filterMap S.scanB
def scanE (S : Chip) : Int := (S.dWhole 0 0).2
theorem goodTo_mem (S : Chip) : ∀ k x, x ∈ S.goodTo k → 0 ≤ x ∧ x < (k : Int) ∧ S.up = true ∧ S.bad x = false
  | 0, x, h => by simp [goodTo] at h
  | k + 1, x, h => by
    rw [goodTo] at h
    split at h
    · rename_i hg
      rcases List.mem_append.1 h with h | h
      · have := goodTo_mem S k x h
        exact ⟨this.1, by omega, this.2.2⟩
      · have := List.mem_singleton.1 h
        subst this
        simp only [Bool.and_eq_true, Bool.not_eq_true'] at hg
        exact ⟨by omega, by omega, hg⟩
    · have := goodTo_mem S k x h
      exact ⟨this.1, by omega, this.2.2⟩
end Chip
theorem readTo_small : ∀ (l : List (Option (LL × Nat))) (d : List Nat) (n : Nat), Small 256 d → (∀ o ∈ l, ∀ p k, o = some (p, k) → Small 256 p.1) → Small 256 (readTo l d n).d
  | [], d, n, h, _ => h
  | none :: l, d, n, h, _ => fun x hx => by simp [readTo] at hx
  | some (p, k) :: l, d, n, h, hl => by
    rw [readTo]
    exact readTo_small l _ _ (h.append (hl _ (.head _) p k rfl)) (fun o ho => hl o (.tail _ ho))
theorem decTo_small1 {t : Nat} {c : List Nat} {L : Nat} {p : LL} (h : Small 256 p.1) : ∀ k, Small 256 (decTo t c L p k).1.1
  | 0 => h
  | k + 1 => by
    have ih := decTo_small1 (c := c) (L := L) (t := t) h k
    rw [decTo]
    split
    · show Small 256 (flip2 t _ k).1
      unfold flip2
      split
      · exact flipB_small ih _
      · exact ih
    · exact ih
theorem decF_small {t : Nat} {d m : List Nat} (h : Small 256 d) {p : LL} {k : Nat} (hd : decF t d m = some (p, k)) : Small 256 p.1 := by
  unfold decF at hd
  split at hd
  · cases hd
  · split at hd
    · cases hd
    · split at hd
      · cases hd
      · injection hd with hd
        have := decTo_small1 (t := t) (c := locC (sums2 t (d, maskM t m))) (L := locL (sums2 t (d, maskM t m))) (p := (d, maskM t m)) h (13 * t + 8 * d.length)
        rw [hd] at this
        exact this
theorem readF_small {t S B : Nat} {raw : List Nat} (h : Small 256 raw) : Small 256 (readF t S B raw).d := by
  unfold readF
  split
  · intro x hx; simp at hx
  · refine readTo_small _ _ _ (fun x hx => by simp at hx) (fun o ho p k hp => ?_)
    obtain ⟨j, _, rfl⟩ := List.mem_map.1 ho
    unfold uSec at hp
    exact decF_small (Small.take (Small.drop h)) hp
theorem readF_len {t S B : Nat} {raw : List Nat} (ht : t ≤ 8) (hS : S ≤ 8) (hB : B ≤ 512) : (readF t S B raw).d.length ≤ S * B := by
  unfold readF
  split
  · exact Nat.zero_le _
  · have key : ∀ (l : List (Option (LL × Nat))) (d : List Nat) (n : Nat), (∀ o ∈ l, ∀ p k, o = some (p, k) → p.1.length ≤ B) → (readTo l d n).d.length ≤ d.length + l.length * B := fun l => by
      induction l with
      | nil => intro d n _; show d.length ≤ _; omega
      | cons o l ih =>
        intro d n h
        cases o with
        | none => exact Nat.zero_le _
        | some r =>
          obtain ⟨p, k⟩ := r
          rw [readTo]
          have h1 := ih (d ++ p.1) (max n k) (fun o ho => h o (.tail _ ho))
          have h2 := h _ (.head _) p k rfl
          rw [List.length_append] at h1
          rw [List.length_cons, Nat.succ_mul]
          omega
    have := key ((List.range S).map (uSec t B (B + moreLen t) raw)) [] 0 (fun o ho p k hp => by
      obtain ⟨j, _, rfl⟩ := List.mem_map.1 ho
      unfold uSec at hp
      have h1 : (secD B (B + moreLen t) raw j).length ≤ B := by unfold secD; rw [List.length_take]; omega
      have h2 := (decTo_n t (secD B (B + moreLen t) raw j) (secM B (B + moreLen t) raw j) (by omega) ht).1
      rw [hp] at h2
      exact Nat.le_trans h2 h1)
    rw [List.length_map, List.length_range] at this
    simpa using this
theorem Cw.Ok.dRead_facts {C : Cw} (hC : C.Ok) (b p : Int) : Small 256 (C.sem.dRead b p).d ∧ (C.sem.dRead b p).d.length ≤ 4096 := by
  have hg := hC.mays
  unfold Geo.mays at hg
  unfold Chip.dRead
  split
  · exact ⟨fun x hx => by simp at hx, Nat.zero_le _⟩
  · refine ⟨readF_small (hC.rawN_facts b p).2.1, ?_⟩
    have h1 := readF_len (t := C.sem.g.fl.toNat) (S := C.sem.g.se.toNat) (B := C.sem.g.sb.toNat) (raw := C.sem.rawN b p) (by show C.g.fl.toNat ≤ 8; omega) (by show C.g.se.toNat ≤ 8; omega) (by show C.g.sb.toNat ≤ 512; omega)
    have h2 : C.sem.g.se.toNat * C.sem.g.sb.toNat ≤ 8 * 512 := Nat.mul_le_mul (by show C.g.se.toNat ≤ 8; omega) (by show C.g.sb.toNat ≤ 512; omega)
    exact Nat.le_trans h1 h2
section
variable {bc bd : Nat} {C : Cw} {g : Geo} {K : World} {F : List Assn}
theorem attach_Scan (hC : C.Ok) (hg : C.g = g) (h12 : g.bl ≤ 19) (he : C.sem.scanE = 0) : Does Tryz.prog 92 #[ptr bd 0] K (C.A bc :: DvA bd bc g :: F)
    (fun v H' => ∃ A' c', v = .tuple #[.slice A' C.sem.scanF.length c', .int .i64 0] ∧ H' = C.A bc :: DvA bd bc g :: SlA (.slice A' C.sem.scanF.length c') 167 5 C.sem.scanF.length (flatF C.sem.scanF) :: F) := by
  have hgm : g.mays := by rw [← hg]; exact hC.mays
  have hgb := hgm
  unfold Geo.mays at hgb
  obtain ⟨gd, hgd⟩ : ∃ gd, gd = C.sem.good := ⟨_, rfl⟩
  have hgl : gd.length ≤ 19 := by
    have := Chip.goodTo_length C.sem C.sem.g.bl.toNat
    have h2 : C.sem.g.bl.toNat ≤ 19 := by rw [show C.sem.g = C.g from rfl, hg]; omega
    rw [hgd]; unfold Chip.good; omega
  have hscan : C.sem.scanF = gd.filterMap C.sem.scanB := by rw [hgd]; rfl
  refine Does.enter Tryz.func92 rfl Tryz.ntmps92 rfl ?_
  simp only [env0, Nat.reduceAdd]
  refine WC.sr ?_
  refine WL.val (V.assign (OV.p rfl)) rfl ?_
  refine WL.val (V.assign (OV.p rfl)) rfl ?_
  refine WL.nil ?_
  refine WC.seq ?_
  refine WC.sr ?_
  refine WL.val (V.move (OV.p rfl)) rfl ?_
  refine WL.val (V.eqlP Tryz.underlying31 (OV.p rfl) (OV.p rfl)) rfl ?_
  refine WL.nil ?_
  refine WC.condF' rfl (by first | rfl | (simp; done) | (simp; omega)) ?_
  refine WC.skip ?_
  refine WC.sr ?_
  refine WL.val (V.move (OV.p rfl)) rfl ?_
  refine WL.call (vs := [_]) Tryz.call20 ⟨OV.p rfl, trivial⟩ (drive_Geometry) rfl ?_
  rintro _ H0 ⟨rfl, h0⟩
  subst H0
  refine WL.alloc (cs := [(.int .i64 0), (.int .i64 0), (.int .i64 0), (.int .i64 0), (.int .i64 0)]) Tryz.zeroValue23 rfl rfl (fun b4 => ?_)
  refine WL.store (cs := [_, _, _, _, _]) Tryz.sizeOf23 (OV.p rfl) (OV.p rfl) rfl rfl rfl (by repeat (first | exact Upd.here (cs' := [_, _, _, _, _]) rfl rfl | apply Upd.up)) ?_
  refine WL.nil ?_
  refine WC.seq ?_
  refine WC.sr ?_
  refine WL.val (V.move (OV.p rfl)) rfl ?_
  refine WL.sub (Sub.refl _) (fun w h => h.sel 3 [1, 2, 0] rfl) ?_
  refine WL.call (vs := [_, _, _]) Tryz.call27 ⟨OV.p rfl, OV.p rfl, OV.p rfl, trivial⟩ (drive_WholeG hC hg 0 0 (by decide)) rfl ?_
  rintro _ _ ⟨rfl, rfl⟩
  refine WL.val (V.move (OV.p rfl)) rfl ?_
  refine WL.val (V.extract (OV.p rfl) rfl) rfl ?_
  refine WL.val (V.extract (OV.p rfl) rfl) rfl ?_
  refine WL.val (V.assign (OV.p rfl)) rfl ?_
  refine WL.val (V.assign (OV.p rfl)) rfl ?_
  refine WL.nil ?_
  refine WC.sr ?_
  refine WL.val (V.move (OV.p rfl)) rfl ?_
  refine WL.val (V.neq (OV.p rfl) (OV.p rfl)) rfl ?_
  refine WL.nil ?_
  refine WC.condF' rfl ((by simp; exact he)) ?_
  refine WC.skip ?_
  refine WC.sr ?_
  refine WL.val (V.assign (OV.p rfl)) rfl ?_
  refine WL.nil ?_
  refine WC.seq ?_
  refine WC.sr ?_
  refine WL.val (V.move (OV.p rfl)) rfl ?_
  refine WL.call (vs := [_]) Tryz.call18 ⟨OV.p rfl, trivial⟩ (drive_GoodG hC hg) rfl ?_
  rintro _ _ ⟨Ag, cg, rfl, rfl⟩
  rw [← hgd]
  refine WL.val (V.len (t := 42) Tryz.runUnderlying42 (OV.p rfl)) rfl ?_
  refine WL.val (V.move (OV.p rfl)) rfl ?_
  refine WL.nil ?_
  refine WC.block ?_
  refine WC.loop (σ := Nat × Option Addr × Nat) (fun s => [(0, ptr bd 0), (4, ptr b4 0), (7, .slice s.2.1 (((gd.take s.1).filterMap C.sem.scanB).length) s.2.2), (31, .slice Ag gd.length cg), (32, .int .i64 (gd.length : Int)), (33, .int .i64 (s.1 : Int))]) (fun s => C.A bc :: DvA bd bc g :: SlA (.slice s.2.1 (((gd.take s.1).filterMap C.sem.scanB).length) s.2.2) 167 5 (((gd.take s.1).filterMap C.sem.scanB).length) (flatF ((gd.take s.1).filterMap C.sem.scanB)) :: SlA (.slice Ag gd.length cg) 3 1 gd.length (ints .i64 gd) :: Cells b4 23 [.int .i64 g.bl, .int .i64 g.pg, .int .i64 g.se, .int .i64 g.sb, .int .i64 g.fl] :: F) (fun s => s.1 ≤ gd.length) (fun s => gd.length - s.1) (0, none, 0) (Nat.zero_le _) (.cons rfl (.cons rfl (.cons rfl (.cons rfl (.cons rfl (.cons rfl (.nil _))))))) (fun w h => (Sat.slNil h 167 5).sel 5 [2, 3, 0, 1, 4] rfl) ?_
  rintro ⟨k, Ao, co⟩ hk
  dsimp only at hk ⊢
  obtain ⟨fs, hfs⟩ : ∃ fs, fs = (gd.take k).filterMap C.sem.scanB := ⟨_, rfl⟩
  have hfl : fs.length ≤ 19 := by rw [hfs]; exact Nat.le_trans (List.length_filterMap_le _ _) (by rw [List.length_take]; omega)
  rw [← hfs]
  refine WC.sr ?_
  refine WL.val (V.lss (OV.p rfl) (OV.p rfl)) rfl ?_
  refine WL.nil ?_
  refine WC.seq ?_
  refine WC.cond rfl (fun hc2 => ?_) (fun hc2 => ?_)
  ·simp only [decide_eq_true_eq, decide_eq_false_iff_not] at hc2
   have hkg : k < gd.length := by omega
   obtain ⟨b, hb⟩ : ∃ b, b = gd.getD k 0 := ⟨_, rfl⟩
   have htk : gd.take (k + 1) = gd.take k ++ [b] := by rw [List.take_add_one, List.getElem?_eq_getElem hkg, hb]; simp [List.getD, hkg]
   have hfn : (gd.take (k + 1)).filterMap C.sem.scanB = fs ++ (C.sem.scanB b).toList := by rw [htk, List.filterMap_append, ← hfs]; cases hsb : C.sem.scanB b <;> simp [hsb]
   have hrg : ∀ {X : List Assn}, Rd K (SlA (.slice Ag gd.length cg) 3 1 gd.length (ints .i64 gd) :: X) (Ag.map (·.add ((k : Int).toNat * 1))) (.int .i64 b) := fun {X} => by
     have h1 : Seq K (SlA (.slice Ag gd.length cg) 3 1 gd.length (ints .i64 gd) :: X) Ag gd.length 1 (ints .i64 gd) := SlA.seq (by rw [ints_length, Nat.mul_one])
     have h2 := Seq.int_rd h1 (j := (k : Int)) (by omega)
     rw [hb]
     rwa [show (k : Int).toNat = k by omega] at h2 ⊢
   have hbm := Chip.goodTo_mem C.sem C.sem.g.bl.toNat b (by show b ∈ C.sem.good; rw [← hgd, hb]; simp only [List.getD, List.getElem?_eq_getElem hkg]; exact List.getElem_mem _)
   refine WC.skip ?_
   refine WC.seq ?_
   refine WC.block ?_
   refine WC.sr ?_
   refine WL.val (V.idxS st42 (OV.p rfl) (OV.p rfl) (fun hc => by omega) (fun hc => by repeat (first | exact hrg | apply Rd.up))) rfl ?_
   refine WL.val (V.load Tryz.isAgg3 (OV.p rfl) (fun hc => by repeat (first | exact hrg | apply Rd.up))) rfl ?_
   refine WL.val (V.assign (OV.p rfl)) rfl ?_
   refine WL.nil ?_
   refine WC.sr ?_
   refine WL.val (V.move (OV.p rfl)) rfl ?_
   refine WL.val (V.move (OV.p rfl)) rfl ?_
   refine WL.call (vs := [_, _, _]) Tryz.call26 ⟨OV.p rfl, OV.p rfl, OV.p rfl, trivial⟩ (drive_ReadG hC hg b 0) rfl ?_
   rintro _ _ ⟨Ad, cd, rfl, rfl⟩
   obtain ⟨G, hG⟩ : ∃ G, G = C.sem.dRead b 0 := ⟨_, rfl⟩
   have hGf := hC.dRead_facts b 0
   have hsb : C.sem.scanB b = if G.err ≠ 0 then none else match parseF g G.d with
     | none => none
     | some h => some ⟨b, h, (C.sem.dWhole b (1 + g.pagesOf h.len)).1⟩ := by unfold Chip.scanB; rw [← hG, show C.sem.g = g from hg]
   rw [← hG] at hGf ⊢
   refine WL.sub (Sub.refl _) (fun w h => h.sel 3 [1, 2, 0] rfl) ?_
   refine WL.val (V.move (OV.p rfl)) rfl ?_
   refine WL.val (V.extract (OV.p rfl) rfl) rfl ?_
   refine WL.val (V.extract (OV.p rfl) rfl) rfl ?_
   refine WL.val (V.extract (OV.p rfl) rfl) rfl ?_
   refine WL.val (V.assign (OV.p rfl)) rfl ?_
   refine WL.val (V.assign (OV.p rfl)) rfl ?_
   refine WL.val (V.assign (OV.p rfl)) rfl ?_
   refine WL.nil ?_
   refine WC.seq ?_
   refine WC.sr ?_
   refine WL.val (V.move (OV.p rfl)) rfl ?_
   refine WL.val (V.neq (OV.p rfl) (OV.p rfl)) rfl ?_
   refine WL.nil ?_
   refine WC.cond rfl (fun hc3 => ?_) (fun hc3 => ?_)
   ·simp only [Bool.not_eq_true', Bool.not_eq_false', decide_eq_true_eq, decide_eq_false_iff_not] at hc3
    have h3 := hc3
    rw [if_pos h3] at hsb
    rw [hsb] at hfn
    refine WC.exit ?_
    refine WC.region ?_
    refine WL.val (V.addI (OV.p rfl) (OV.p rfl) (fun hc => by first | omega | (simp at hc; omega))) rfl ?_
    refine WL.val (V.move (OV.p rfl)) rfl ?_
    refine WL.nil ?_
    refine ⟨rfl, ?_⟩
    first
    | (refine ⟨(k + 1, A5, c5), hkg, (by show gd.length - (k + 1) < gd.length - k; omega), .cons rfl (.cons rfl (.cons (look_eq rfl (by dsimp only; rw [hfn, List.length_append]; rfl)) (.cons rfl (.cons rfl (.cons (look_eq rfl (by simp)) (.nil _)))))), fun w h => ?_⟩
       dsimp only
       rw [hfn, List.length_append, Option.toList_some, flatF_snoc]
       exact h.sel 8 [2, 3, 0, 6, 7] rfl)
    | (refine ⟨(k + 1, Ao, co), hkg, (by show gd.length - (k + 1) < gd.length - k; omega), .cons rfl (.cons rfl (.cons (look_eq rfl (by dsimp only; rw [hfn]; simp)) (.cons rfl (.cons rfl (.cons (look_eq rfl (by simp)) (.nil _)))))), fun w h => ?_⟩
       dsimp only
       rw [hfn, Option.toList_none, List.append_nil]
       first
         | exact h.sel 6 [0, 1, 3, 4, 5] rfl
         | exact h.sel 7 [1, 2, 4, 5, 6] rfl)
   ·simp only [Bool.not_eq_true', Bool.not_eq_false', decide_eq_true_eq, decide_eq_false_iff_not] at hc3
    have h3 := hc3
    rw [if_neg (fun h => h (by omega))] at hsb
    obtain ⟨pe, hpe⟩ : ∃ pe, pe = parseE g G.d := ⟨_, rfl⟩
    obtain ⟨ph, hph⟩ : ∃ ph, ph = parseH g G.d := ⟨_, rfl⟩
    have hps : (pe ≠ 0 ∧ C.sem.scanB b = none) ∨ (pe = 0 ∧ ph.may g = true ∧ C.sem.scanB b = some ⟨b, ph, (C.sem.dWhole b (1 + g.pagesOf ph.len)).1⟩) := by
      unfold parseE at hpe
      unfold parseH at hph
      cases hp : parseF g G.d with
      | none =>
        rw [hp] at hsb hpe
        exact .inl ⟨by rw [hpe]; dsimp only; split <;> decide, hsb⟩
      | some h =>
        rw [hp] at hsb hpe hph
        have hph' : ph = h := hph
        subst hph'
        exact .inr ⟨hpe, (parse_len hgm hp).2.1, hsb⟩
    refine WC.skip ?_
    refine WC.sr ?_
    refine WL.val (V.loadA (vs := [_, _, _, _, _]) ⟨Tryz.isAgg23, Tryz.sizeOf23⟩ (OV.p rfl) rfl (fun _ => by repeat (first | exact Rds.gets ⟨rfl, rfl, rfl, rfl, rfl, trivial⟩ | apply Rds.up))) rfl ?_
    refine WL.val (V.move (OV.p rfl)) rfl ?_
    refine WL.call (vs := [_, _]) Tryz.call90 ⟨OV.p rfl, OV.p rfl, trivial⟩ (Tells.eq (v' := .tuple #[ph.v, .int .i64 pe]) (head_Parse (d := G.d) hgm (by repeat (first | exact SlA.seq (by rw [nats_length, Nat.mul_one]) | apply Seq.up)) hGf.1 (by omega)) (by rw [hph, hpe])) rfl ?_
    rintro _ H0 ⟨rfl, h0⟩
    subst H0
    refine WL.val (V.move (OV.p rfl)) rfl ?_
    refine WL.val (V.extract (OV.p rfl) rfl) rfl ?_
    refine WL.val (V.extract (OV.p rfl) rfl) rfl ?_
    refine WL.alloc (cs := [(.int .i64 0), (.int .i64 0), (.int .i64 0)]) Tryz.zeroValue129 rfl rfl (fun b13 => ?_)
    refine WL.store (cs := [_, _, _]) Tryz.sizeOf129 (OV.p rfl) (OV.p rfl) rfl rfl rfl (by repeat (first | exact Upd.here (cs' := [_, _, _]) rfl rfl | apply Upd.up)) ?_
    refine WL.val (V.assign (OV.p rfl)) rfl ?_
    refine WL.nil ?_
    refine WC.seq ?_
    refine WC.sr ?_
    refine WL.val (V.move (OV.p rfl)) rfl ?_
    refine WL.val (V.neq (OV.p rfl) (OV.p rfl)) rfl ?_
    refine WL.nil ?_
    refine WC.cond rfl (fun hc4 => ?_) (fun hc4 => ?_)
    ·simp only [Bool.not_eq_true', Bool.not_eq_false', decide_eq_true_eq, decide_eq_false_iff_not] at hc4
     have h4 := hc4
     rcases hps with ⟨_, hsn⟩ | ⟨h5, _⟩
     rotate_left
     · exact absurd h5 h4
     rw [hsn] at hfn
     refine WC.exit ?_
     refine WC.region ?_
     refine WL.val (V.addI (OV.p rfl) (OV.p rfl) (fun hc => by first | omega | (simp at hc; omega))) rfl ?_
     refine WL.val (V.move (OV.p rfl)) rfl ?_
     refine WL.nil ?_
     refine ⟨rfl, ?_⟩
     first
     | (refine ⟨(k + 1, A5, c5), hkg, (by show gd.length - (k + 1) < gd.length - k; omega), .cons rfl (.cons rfl (.cons (look_eq rfl (by dsimp only; rw [hfn, List.length_append]; rfl)) (.cons rfl (.cons rfl (.cons (look_eq rfl (by simp)) (.nil _)))))), fun w h => ?_⟩
        dsimp only
        rw [hfn, List.length_append, Option.toList_some, flatF_snoc]
        exact h.sel 8 [2, 3, 0, 6, 7] rfl)
     | (refine ⟨(k + 1, Ao, co), hkg, (by show gd.length - (k + 1) < gd.length - k; omega), .cons rfl (.cons rfl (.cons (look_eq rfl (by dsimp only; rw [hfn]; simp)) (.cons rfl (.cons rfl (.cons (look_eq rfl (by simp)) (.nil _)))))), fun w h => ?_⟩
        dsimp only
        rw [hfn, Option.toList_none, List.append_nil]
        first
          | exact h.sel 6 [0, 1, 3, 4, 5] rfl
          | exact h.sel 7 [1, 2, 4, 5, 6] rfl)
    ·simp only [Bool.not_eq_true', Bool.not_eq_false', decide_eq_true_eq, decide_eq_false_iff_not] at hc4
     have h4 := hc4
     rcases hps with ⟨h5, _⟩ | ⟨_, hmy, hss⟩
     · exact absurd (by omega) h5
     rw [hss] at hfn
     have hmb := hmy
     unfold Hd.may at hmb
     simp only [Bool.and_eq_true, decide_eq_true_eq] at hmb
     have hfit := hmb.1.1.1.1
     have hfb := hfit
     unfold Geo.fits at hfb
     simp only [Bool.and_eq_true, decide_eq_true_eq] at hfb
     have hcb := Geo.cap_bd hgm
     have hrb := Geo.room_bd hgm
     have hpn : 0 ≤ g.pagesOf ph.len ∧ g.pagesOf ph.len ≤ 1000000 := by
       unfold Geo.pagesOf
       exact ⟨Int.ediv_nonneg (by omega) (by omega), Int.le_trans (Int.ediv_le_self _ (by omega)) (by omega)⟩
     refine WC.skip ?_
     refine WC.sr ?_
     refine WL.val (V.loadA (vs := [_, _, _, _, _]) ⟨Tryz.isAgg23, Tryz.sizeOf23⟩ (OV.p rfl) rfl (fun _ => by repeat (first | exact Rds.gets ⟨rfl, rfl, rfl, rfl, rfl, trivial⟩ | apply Rds.up))) rfl ?_
     refine WL.val (V.fieldAddr fo129_1 (OV.p rfl)) rfl ?_
     refine WL.val (V.load Tryz.isAgg3 (OV.p rfl) (fun _ => by repeat (first | exact Rd.here rfl | apply Rd.up))) rfl ?_
     refine WL.call (vs := [_, _]) Tryz.call91 ⟨OV.p rfl, OV.p rfl, trivial⟩ (Tells.eq (v' := .tuple #[.int .i64 (g.pagesOf ph.len), .int .i64 0]) (head_Pages hgm (by omega)) (by rw [hfit]; rfl)) rfl ?_
     rintro _ H0 ⟨rfl, h0⟩
     subst H0
     refine WL.val (V.move (OV.p rfl)) rfl ?_
     refine WL.val (V.extract (OV.p rfl) rfl) rfl ?_
     refine WL.val (V.extract (OV.p rfl) rfl) rfl ?_
     refine WL.val (V.assign (OV.p rfl)) rfl ?_
     refine WL.val (V.assign (OV.p rfl)) rfl ?_
     refine WL.nil ?_
     refine WC.sr ?_
     refine WL.val (V.move (OV.p rfl)) rfl ?_
     refine WL.val (V.move (OV.p rfl)) rfl ?_
     refine WL.val (V.move (OV.p rfl)) rfl ?_
     refine WL.val (V.addI (OV.p rfl) (OV.p rfl) (fun hc => by first | omega | (simp at hc; omega))) rfl ?_
     refine WL.sub (Sub.refl _) (fun w h => h.sel 3 [1, 2, 0] rfl) ?_
     refine WL.call (vs := [_, _, _]) Tryz.call27 ⟨OV.p rfl, OV.p rfl, OV.p rfl, trivial⟩ (drive_WholeG hC hg b (1 + g.pagesOf ph.len) (by omega)) rfl ?_
     rintro _ _ ⟨rfl, rfl⟩
     refine WL.val (V.move (OV.p rfl)) rfl ?_
     refine WL.val (V.extract (OV.p rfl) rfl) rfl ?_
     refine WL.val (V.extract (OV.p rfl) rfl) rfl ?_
     refine WL.val (V.assign (OV.p rfl)) rfl ?_
     refine WL.val (V.assign (OV.p rfl)) rfl ?_
     refine WL.nil ?_
     refine WC.region ?_
     refine WL.val (V.move (OV.p rfl)) rfl ?_
     refine WL.val (V.move (OV.p rfl)) rfl ?_
     refine WL.val (V.loadA (vs := [_, _, _]) ⟨Tryz.isAgg129, Tryz.sizeOf129⟩ (OV.p rfl) rfl (fun _ => by repeat (first | exact Rds.gets ⟨rfl, rfl, rfl, trivial⟩ | apply Rds.up))) rfl ?_
     refine WL.val (V.move (OV.p rfl)) rfl ?_
     refine WL.val (V.build (vs := [(0, _), (1, _), (2, _)]) ⟨OV.p rfl, OV.p rfl, OV.p rfl, trivial⟩ rfl (bld167_0_1_2 _ _ _ _ _)) rfl ?_
     refine WL.buildSlice (E := 167) (cs := [_, _, _, _, _]) (vs := [(0, _)]) ⟨OV.p rfl, trivial⟩ rfl (bsl133_1_0 _ _ _ _ _) rfl (fun b74 => ?_)
     refine WL.sub (Sub.refl _) (fun w h => h.sel 6 [5, 0, 1, 2, 3, 4] rfl) ?_
     refine WL.append (m := fs.length) (q := 1) (news := Fd.cells ⟨b, ph, (C.sem.dWhole b (1 + g.pagesOf ph.len)).1⟩) Tryz.underlying133 el167 (OV.p rfl) (OV.p rfl) (Seq.all rfl) (fun u hu => by simpa using List.all_eq_true.1 (flatF_one _) u hu) (by omega) rfl rfl (fun A5 c5 hA5 hc5 => ?_)
     refine WL.val (V.assign (OV.p rfl)) rfl ?_
     refine WL.nil ?_
     refine WC.region ?_
     refine WL.val (V.addI (OV.p rfl) (OV.p rfl) (fun hc => by first | omega | (simp at hc; omega))) rfl ?_
     refine WL.val (V.move (OV.p rfl)) rfl ?_
     refine WL.nil ?_
     refine ⟨rfl, ?_⟩
     first
     | (refine ⟨(k + 1, A5, c5), hkg, (by show gd.length - (k + 1) < gd.length - k; omega), .cons rfl (.cons rfl (.cons (look_eq rfl (by dsimp only; rw [hfn, List.length_append]; rfl)) (.cons rfl (.cons rfl (.cons (look_eq rfl (by simp)) (.nil _)))))), fun w h => ?_⟩
        dsimp only
        rw [hfn, List.length_append, Option.toList_some, flatF_snoc]
        exact h.sel 8 [2, 3, 0, 6, 7] rfl)
     | (refine ⟨(k + 1, Ao, co), hkg, (by show gd.length - (k + 1) < gd.length - k; omega), .cons rfl (.cons rfl (.cons (look_eq rfl (by dsimp only; rw [hfn]; simp)) (.cons rfl (.cons rfl (.cons (look_eq rfl (by simp)) (.nil _)))))), fun w h => ?_⟩
        dsimp only
        rw [hfn, Option.toList_none, List.append_nil]
        first
          | exact h.sel 6 [0, 1, 3, 4, 5] rfl
          | exact h.sel 7 [1, 2, 4, 5, 6] rfl)
  ·simp only [decide_eq_true_eq, decide_eq_false_iff_not] at hc2
   refine WC.exit ?_
   refine WC.sr ?_
   refine WL.val (V.move (OV.p rfl)) rfl ?_
   refine WL.val (V.assign (OV.p rfl)) rfl ?_
   refine WL.val (V.assign (OV.p rfl)) rfl ?_
   refine WL.nil ?_
   refine WC.ret ?_
   obtain rfl : k = gd.length := by omega
   have hend : fs = C.sem.scanF := by rw [hfs, List.take_of_length_le (Nat.le_refl _), hscan]
   rw [← hend]
   exact BodyQ.ret (H' := C.A bc :: DvA bd bc g :: SlA (.slice Ao fs.length co) 167 5 fs.length (flatF fs) :: F) (Res.tmp2 rfl rfl rfl) (fun w h => h.sel 5 [0, 1, 2] rfl) ⟨Ao, co, rfl, rfl⟩
end
end Go.Proofs.YtohkefolnmcjnaaGreat
