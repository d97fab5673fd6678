import Derived.Test.YtohkefolnmcjnaaGreatP17
import Derived.Test.YtohkefolnmcjnaaGreatP16
import Derived.Test.YtohkefolnmcjnaaGreatP5
namespace Go.Proofs.YtohkefolnmcjnaaGreat
open Go.Sl Go.RowKit
set_option linter.unusedVariables false
set_option linter.unusedSimpArgs false
set_option maxRecDepth 20000
namespace Chip
theorem program_g (S : Chip) (b p : Int) (xs : List Int) : (S.program b p xs).1.g = S.g := by unfold program; repeat (first | rfl | split)
theorem erase_g (S : Chip) (b : Int) : (S.erase b).1.g = S.g := by unfold erase; repeat (first | rfl | split)
theorem mark_g (S : Chip) (b : Int) : (S.mark b).1.g = S.g := by
  unfold mark all
  repeat (first | rfl | split)
theorem done_g (b : Int) (x : Chip × Int) : (done b x).1.g = x.1.g := by
  unfold done
  split
  · rfl
  · split
    · exact mark_g _ _
    · exact mark_g _ _
theorem dWrite_g (S : Chip) (b p : Int) (d : List Nat) : (S.dWrite b p d).1.g = S.g := by
  unfold dWrite
  split
  · rfl
  · rw [done_g, program_g]
theorem dErase_g (S : Chip) (b : Int) : (S.dErase b).1.g = S.g := by
  unfold dErase
  split
  · rfl
  · rw [done_g, erase_g]
end Chip
theorem Cw.g_sem {C C' : Cw} {S : Chip} (h : C'.sem = S) (hg : S.g = C.sem.g) : C'.g = C.g := by
  have : C'.sem.g = C.sem.g := by rw [h, hg]
  exact this
section
variable {bc bd : Nat} {C : Cw} {g : Geo} {K : World} {F : List Assn}
theorem drive_WriteG (hC : C.Ok) (hg : C.g = g) (b p : Int) {A : Option Addr} {m cap : Nat} {d : List Nat} (hd : Seq K F A m 1 (nats .u8 d)) (h8 : Small 256 d) (hmc : m ≤ cap) (hm : m ≤ 1000000) :
    Does Tryz.prog 23 #[ptr bd 0, .int .i64 b, .int .i64 p, .slice A m cap] K (C.A bc :: DvA bd bc g :: F)
    (fun v H' => ∃ C' : Cw, C'.Ok ∧ C'.g = g ∧ H' = C'.A bc :: DvA bd bc g :: F ∧ C'.sem = (C.sem.dWrite b p d).1 ∧ v = .int .i64 (C.sem.dWrite b p d).2) := by
  subst hg
  exact (drive_Write hC b p hd h8 hmc hm).mono fun v H' ⟨C', h1, h2, h3, h4⟩ => ⟨C', h1, Cw.g_sem h3 (Chip.dWrite_g _ _ _ _), h2, h3, h4⟩
theorem drive_EraseG (hC : C.Ok) (hg : C.g = g) (b : Int) : Does Tryz.prog 61 #[ptr bd 0, .int .i64 b] K (C.A bc :: DvA bd bc g :: F)
    (fun v H' => ∃ C' : Cw, C'.Ok ∧ C'.g = g ∧ H' = C'.A bc :: DvA bd bc g :: F ∧ C'.sem = (C.sem.dErase b).1 ∧ v = .int .i64 (C.sem.dErase b).2) := by
  subst hg
  exact (drive_Erase hC b).mono fun v H' ⟨C', h1, h2, h3, h4⟩ => ⟨C', h1, Cw.g_sem h3 (Chip.dErase_g _ _), h2, h3, h4⟩
theorem drive_ReadG (hC : C.Ok) (hg : C.g = g) (b p : Int) : Does Tryz.prog 26 #[ptr bd 0, .int .i64 b, .int .i64 p] K (C.A bc :: DvA bd bc g :: F)
    (fun v H' => ∃ A' c', v = .tuple #[.slice A' (C.sem.dRead b p).d.length c', .int .i64 ((C.sem.dRead b p).n : Nat), .int .i64 (C.sem.dRead b p).err] ∧
      H' = SlA (.slice A' (C.sem.dRead b p).d.length c') 5 1 (C.sem.dRead b p).d.length (nats .u8 (C.sem.dRead b p).d) :: C.A bc :: DvA bd bc g :: F) := by
  subst hg
  exact drive_Read hC b p
theorem drive_WholeG (hC : C.Ok) (hg : C.g = g) (b n : Int) (hn : -9223372036854775808 ≤ n ∧ n ≤ 9223372036854775807) : Tells Tryz.prog 27 #[ptr bd 0, .int .i64 b, .int .i64 n] K (C.A bc :: DvA bd bc g :: F) (.tuple #[.bool (C.sem.dWhole b n).1, .int .i64 (C.sem.dWhole b n).2]) := by
  subst hg
  exact drive_Whole hC b n hn
theorem drive_GoodG (hC : C.Ok) (hg : C.g = g) : Does Tryz.prog 18 #[ptr bd 0] K (C.A bc :: DvA bd bc g :: F)
    (fun v H' => ∃ A' c', v = .slice A' C.sem.good.length c' ∧ H' = SlA (.slice A' C.sem.good.length c') 3 1 C.sem.good.length (ints .i64 C.sem.good) :: C.A bc :: DvA bd bc g :: F) := by
  subst hg
  exact drive_Good hC
theorem drive_NewG (hC : C.Ok) (hg : C.g = g) : Does Tryz.prog 14 #[ptr bc 0] K (C.A bc :: F) (fun v H' => ∃ bd, v = .tuple #[ptr bd 0, .int .i64 0] ∧ H' = C.A bc :: DvA bd bc g :: F) := by
  subst hg
  exact drive_New hC
theorem chip_WeakG (hC : C.Ok) (hg : C.g = g) (b : Int) : Does Tryz.prog 43 #[ptr bc 0, .int .i64 b] K (C.A bc :: F) (fun v H' => ∃ C' : Cw, C'.Ok ∧ C'.g = g ∧ H' = C'.A bc :: F ∧ C'.sem = C.sem.weaken b) := by
  refine (chip_Weak (C := C) b).mono fun v H' h => ?_
  subst h
  cases hb : C.sem.block b with
  | true => exact ⟨C.weaken b, hC.weaken, hg, rfl, by unfold Chip.weaken; rw [if_pos hb]; rfl⟩
  | false => exact ⟨C, hC, hg, rfl, by unfold Chip.weaken; rw [if_neg (by rw [hb]; decide)]⟩
end
end Go.Proofs.YtohkefolnmcjnaaGreat
namespace Go.Proofs.YtohkefolnmcjnaaGreat
open Go.Sl Go.RowKit
set_option linter.unusedVariables false
set_option linter.unusedSimpArgs false
set_option maxRecDepth 20000
namespace Chip
theorem deed_same {S : Chip} (h : S.left = 0) : S.deed = S := by
  unfold deed cut
  rw [h]
  obtain ⟨a, b, c, d, e, f, g, up, l, k⟩ := S
  dsimp only at h
  subst h
  simp
theorem page_ok {S : Chip} {b p : Int} (h : 0 ≤ b ∧ b < S.g.bl ∧ 0 ≤ p ∧ p < S.g.pg) : S.page b p = true := by
  unfold page block
  simp; omega
theorem block_ok {S : Chip} {b : Int} (h : 0 ≤ b ∧ b < S.g.bl) : S.block b = true := by
  unfold block
  simp; omega
theorem ahead_ok {S : Chip} {b p : Int} (hu : S.up = true) (h : 0 ≤ b ∧ b < S.g.bl ∧ 0 ≤ p ∧ p < S.g.pg) (hm : S.marked b = false) : S.ahead b p true = 0 := by
  unfold ahead bad
  rw [if_neg (by rw [hu]; decide), if_neg (fun hh => by rcases hh with h | h | h | h | h <;> first | omega | cases h), hm, Bool.and_false, if_neg (by decide)]
theorem ahead_bad {S : Chip} {b p : Int} (hu : S.up = true) (h : 0 ≤ b ∧ b < S.g.bl ∧ 0 ≤ p ∧ p < S.g.pg) (hm : S.marked b = true) : S.ahead b p true = 73 := by
  unfold ahead bad
  rw [if_neg (by rw [hu]; decide), if_neg (fun hh => by rcases hh with h | h | h | h | h <;> first | omega | cases h), hm, hu, if_pos (by decide)]
section
variable {S : Chip} {b p : Int} {d : List Nat}
theorem pack_len (hg : S.g.mays) (h8 : Small 256 d) (hl : d.length = S.room) : ((intsOf (packG S.g d)).length : Int) = S.raw := by
  have hN := NGood.of (bl := S.g.bl) (pg := S.g.pg) (by rw [← geo_nat hg]; exact hg)
  unfold packG intsOf
  rw [List.length_map, packF_length hN.t h8 hl]
  exact (Geo.raw_nat hg).symm
theorem dWrite_prog (hu : S.up = true) (h : 0 ≤ b ∧ b < S.g.bl ∧ 0 ≤ p ∧ p < S.g.pg) (hm : S.marked b = false) (hl : d.length = S.room) : S.dWrite b p d = done b (S.program b p (intsOf (packG S.g d))) := by
  have e : decide (d.length = S.room) = true := decide_eq_true hl
  unfold dWrite
  rw [e, if_neg (by rw [ahead_ok hu h hm]; decide)]
theorem rawN_page {xs : List Nat} (hp : S.pages (b, p) = some (intsOf xs)) (hw : S.wrong (b, p) = none) : S.rawN b p = xs := by
  unfold rawN reads
  rw [hp, hw]
  exact natsOf_intsOf xs
theorem dRead_page (hg : S.g.mays) (hu : S.up = true) (h : 0 ≤ b ∧ b < S.g.bl ∧ 0 ≤ p ∧ p < S.g.pg) (hm : S.marked b = false) (h8 : Small 256 d) (hl : d.length = S.room) (hp : S.pages (b, p) = some (intsOf (packG S.g d))) (hw : S.wrong (b, p) = none) :
    S.dRead b p = ⟨0, d, 0⟩ := by
  have hN := NGood.of (bl := S.g.bl) (pg := S.g.pg) (by rw [← geo_nat hg]; exact hg)
  unfold dRead
  rw [if_neg (by rw [ahead_ok hu h hm]; decide), rawN_page hp hw]
  unfold packG
  rw [read_pack hN.t h8 hl]
  rfl
theorem state_255 {t S n : Nat} {raw : List Nat} (h : raw.getD (S * n) 0 = 255) : stateF t S n raw = 60 ∨ stateF t S n raw = 61 := by
  unfold stateF
  rw [h, if_neg (by decide), if_neg (fun h => h rfl)]
  split
  · exact .inl rfl
  · exact .inr rfl
end
end Chip
end Go.Proofs.YtohkefolnmcjnaaGreat
namespace Go.Proofs.YtohkefolnmcjnaaGreat
open Go.Sl Go.RowKit
set_option linter.unusedVariables false
set_option linter.unusedSimpArgs false
set_option maxRecDepth 20000
structure Hd where
  (leb len num : Int)
  deriving DecidableEq
abbrev Hd.v (h : Hd) : Value := .agg #[.int .i64 h.leb, .int .i64 h.len, .int .i64 h.num]
abbrev Hd.cells (h : Hd) : List Value := [.int .i64 h.leb, .int .i64 h.len, .int .i64 h.num]
def Geo.cap (g : Geo) : Int := (g.pg - 1) * g.room
def Geo.pagesOf (g : Geo) (n : Int) : Int := (n + g.room - 1) / g.room
def Geo.fits (g : Geo) (n : Int) : Bool := decide (0 ≤ n) && decide (n ≤ g.cap)
def Hd.may (g : Geo) (h : Hd) : Bool := g.fits h.len && decide (0 ≤ h.leb) && decide (h.leb < 64) && decide (1 ≤ h.num) && decide (h.num ≤ 1000000000)
def le4 (n : Int) : List Nat := [n.toNat % 256, n.toNat / 256 % 256, n.toNat / 65536 % 256, n.toNat / 16777216 % 256]
def headB (g : Geo) (h : Hd) : List Nat := [99, 97, 115, 101] ++ le4 h.leb ++ le4 h.len ++ le4 h.num ++ List.replicate (g.room.toNat - 16) 0
def dec4 (d : List Nat) (i : Nat) : Int := ((d.getD i 0 + 256 * d.getD (i + 1) 0 + 65536 * d.getD (i + 2) 0 + 16777216 * d.getD (i + 3) 0 : Nat) : Int)
def headOf (d : List Nat) : Hd := ⟨dec4 d 4, dec4 d 8, dec4 d 12⟩
def parseF (g : Geo) (d : List Nat) : Option Hd := if (headOf d).may g && decide (headB g (headOf d) = d) then some (headOf d) else none
theorem le4_small (n : Int) : Small 256 (le4 n) := fun x hx => by
  unfold le4 at hx
  simp only [List.mem_cons, List.not_mem_nil, or_false] at hx
  rcases hx with rfl | rfl | rfl | rfl <;> exact Nat.mod_lt _ (by decide)
theorem headB_small (g : Geo) (h : Hd) : Small 256 (headB g h) := by
  unfold headB
  refine Small.append (Small.append (Small.append (Small.append ?_ (le4_small _)) (le4_small _)) (le4_small _)) (Small.repl (by decide))
  intro x hx
  simp only [List.mem_cons, List.not_mem_nil, or_false] at hx
  omega
theorem headB_length {g : Geo} (hg : g.mays) (h : Hd) : (headB g h).length = g.room.toNat := by
  unfold headB le4
  unfold Geo.mays at hg
  simp only [List.length_append, List.length_cons, List.length_nil, List.length_replicate]
  have : 16 ≤ g.room := by unfold Geo.room; omega
  omega
theorem Geo.room_bd {g : Geo} (hg : g.mays) : 16 ≤ g.room ∧ g.room ≤ 4096 := by
  unfold Geo.mays at hg
  have := Geo.mul_bd (a := g.se) (b := g.sb) (A := 8) (B := 512) (by omega) (by omega) (by omega) (by omega)
  unfold Geo.room
  omega
theorem Geo.cap_bd {g : Geo} (hg : g.mays) : 16 ≤ g.cap ∧ g.cap ≤ 258048 := by
  have h1 := Geo.room_bd hg
  unfold Geo.mays at hg
  have h2 := Geo.mul_bd (a := g.pg - 1) (b := g.room) (A := 63) (B := 4096) (by omega) (by omega) (by omega) (by omega)
  have h3 : 1 * g.room ≤ (g.pg - 1) * g.room := Int.mul_le_mul_of_nonneg_right (by omega) (by omega)
  unfold Geo.cap
  omega
theorem dec_le4 {n : Int} (h0 : 0 ≤ n) (h : n < 4294967296) (p q : List Nat) : dec4 (p ++ (le4 n ++ q)) p.length = n := by
  unfold dec4 le4
  have e : ∀ i, (p ++ ([n.toNat % 256, n.toNat / 256 % 256, n.toNat / 65536 % 256, n.toNat / 16777216 % 256] ++ q)).getD (p.length + i) 0 = ([n.toNat % 256, n.toNat / 256 % 256, n.toNat / 65536 % 256, n.toNat / 16777216 % 256] ++ q).getD i 0 := fun i => by
    simp [List.getD, List.getElem?_append_right]
  have e0 := e 0
  rw [Nat.add_zero] at e0
  rw [e0, e 1, e 2, e 3]
  simp only [List.cons_append, List.getD_cons_zero, List.getD_cons_succ]
  omega
theorem headOf_headB {g : Geo} {h : Hd} (hm : h.may g = true) (hg : g.mays) : headOf (headB g h) = h := by
  have hc := Geo.cap_bd hg
  unfold Hd.may Geo.fits at hm
  simp only [Bool.and_eq_true, decide_eq_true_eq] at hm
  unfold headOf headB
  have h1 := dec_le4 (n := h.leb) (by omega) (by omega) [99, 97, 115, 101] (le4 h.len ++ (le4 h.num ++ List.replicate (g.room.toNat - 16) 0))
  have h2 := dec_le4 (n := h.len) (by omega) (by omega) ([99, 97, 115, 101] ++ le4 h.leb) (le4 h.num ++ List.replicate (g.room.toNat - 16) 0)
  have h3 := dec_le4 (n := h.num) (by omega) (by omega) ([99, 97, 115, 101] ++ le4 h.leb ++ le4 h.len) (List.replicate (g.room.toNat - 16) 0)
  simp only [← List.append_assoc] at h1 h2 h3
  rw [show ([99, 97, 115, 101] : List Nat).length = 4 from rfl] at h1
  rw [show (([99, 97, 115, 101] : List Nat) ++ le4 h.leb).length = 8 from rfl] at h2
  rw [show (([99, 97, 115, 101] : List Nat) ++ le4 h.leb ++ le4 h.len).length = 12 from rfl] at h3
  rw [h1, h2, h3]
theorem parse_headB {g : Geo} {h : Hd} (hm : h.may g = true) (hg : g.mays) : parseF g (headB g h) = some h := by
  unfold parseF
  rw [headOf_headB hm hg, hm, decide_eq_true rfl]; rfl
section
variable {g : Geo} {K : World} {F : List Assn}
theorem ecc_RoomOk (hg : g.mays) : Tells Tryz.prog 73 #[g.v] K F (.tuple #[.int .i64 g.room, .int .i64 0]) := (ecc_Room g).eq (by rw [show g.may = true from decide_eq_true hg]; rfl)
theorem head_Cap (hg : g.mays) : Tells Tryz.prog 100 #[g.v] K F (.tuple #[.int .i64 g.cap, .int .i64 0]) := by
  have hc := Geo.cap_bd hg
  have hgb := hg
  unfold Geo.mays at hgb
  have hmx : max (g.pg - 1) 0 = g.pg - 1 := by omega
  refine Does.enter Tryz.func100 rfl Tryz.ntmps100 rfl ?_
  simp only [env0, Nat.reduceAdd]
  refine WC.sr ?_
  refine WL.box (cs := [_, _, _, _, _]) (OV.p rfl) rfl rfl (fun b1 => ?_)
  refine WL.sg rfl rfl ?_
  refine WL.sg rfl rfl ?_
  refine WL.nil ?_
  refine WC.sr ?_
  refine WL.val (V.loadA (vs := [_, _, _, _, _]) ⟨Tryz.isAgg23, Tryz.sizeOf23⟩ (OV.p rfl) rfl (fun _ => by repeat (first | exact Rds.gets ⟨rfl, rfl, rfl, rfl, rfl, trivial⟩ | apply Rds.up))) rfl ?_
  refine WL.call (vs := [_]) Tryz.call73 ⟨OV.p rfl, trivial⟩ (ecc_RoomOk hg) rfl ?_
  rintro _ H0 ⟨rfl, h0⟩
  subst H0
  refine WL.mv rfl rfl ?_
  refine WL.xt rfl rfl rfl ?_
  refine WL.xt rfl rfl rfl ?_
  refine WL.sg rfl rfl ?_
  refine WL.sg rfl rfl ?_
  refine WL.nil ?_
  refine WC.sr ?_
  refine WL.val (V.fieldAddr fo23_1 (OV.p rfl)) rfl ?_
  refine WL.ld Tryz.isAgg3 rfl rfl ?_
  refine WL.sb rfl rfl rfl ?_
  refine WL.val (V.max (OV.p rfl) (OV.p rfl)) rfl ?_
  refine WL.mv rfl rfl ?_
  refine WL.val (V.val_eq (v' := .int .i64 g.cap) (V.mulI (OV.p rfl) (OV.p rfl) (fun _ => by rw [hmx]; unfold Geo.cap at hc; omega)) (fun _ => by rw [hmx]; rfl)) rfl ?_
  refine WL.mv rfl rfl ?_
  refine WL.sg rfl rfl ?_
  refine WL.sg rfl rfl ?_
  refine WL.nil ?_
  refine WC.ret ?_
  exact BodyQ.ret (H' := F) (Res.tmp2 rfl rfl rfl) (fun w h => h.drop 1) ⟨rfl, rfl⟩
theorem head_Pages (hg : g.mays) {n : Int} (hn : n ≤ 1099511627776) : Tells Tryz.prog 91 #[g.v, .int .i64 n] K F (.tuple (if g.fits n then #[.int .i64 (g.pagesOf n), .int .i64 0] else #[.int .i64 0, .int .i64 1])) := by
  have hc := Geo.cap_bd hg
  have hr := Geo.room_bd hg
  refine Does.enter Tryz.func91 rfl Tryz.ntmps91 rfl ?_
  simp only [env0, Nat.reduceAdd]
  refine WC.sr ?_
  refine WL.box (cs := [_, _, _, _, _]) (OV.p rfl) rfl rfl (fun b2 => ?_)
  refine WL.sg rfl rfl ?_
  refine WL.sg rfl rfl ?_
  refine WL.nil ?_
  refine WC.sr ?_
  refine WL.val (V.loadA (vs := [_, _, _, _, _]) ⟨Tryz.isAgg23, Tryz.sizeOf23⟩ (OV.p rfl) rfl (fun _ => by repeat (first | exact Rds.gets ⟨rfl, rfl, rfl, rfl, rfl, trivial⟩ | apply Rds.up))) rfl ?_
  refine WL.call (vs := [_]) Tryz.call100 ⟨OV.p rfl, trivial⟩ (head_Cap hg) rfl ?_
  rintro _ H0 ⟨rfl, h0⟩
  subst H0
  refine WL.mv rfl rfl ?_
  refine WL.xt rfl rfl rfl ?_
  refine WL.xt rfl rfl rfl ?_
  refine WL.sg rfl rfl ?_
  refine WL.sg rfl rfl ?_
  refine WL.nil ?_
  refine WC.seq ?_
  refine WC.sr ?_
  refine WL.mv rfl rfl ?_
  refine WL.val (V.neq (OV.p rfl) (OV.p rfl)) rfl ?_
  refine WL.mv rfl rfl ?_
  refine WL.valG (oj := _) rfl rfl rfl GC.f (V.move (OV.p rfl)) rfl ?_
  refine WL.valG (oj := _) rfl rfl rfl GC.f (V.lss (OV.g rfl id) (OV.p rfl)) rfl ?_
  refine WL.val (V.pickOr (OV.p rfl) (OV.g rfl id)) rfl ?_
  refine WL.mv rfl rfl ?_
  refine WL.valG (oj := _) rfl rfl rfl GC.f (V.move (OV.p rfl)) rfl ?_
  refine WL.valG (oj := _) rfl rfl rfl GC.f (V.move (OV.p rfl)) rfl ?_
  refine WL.valG (oj := _) rfl rfl rfl GC.f (V.gtr (OV.g rfl id) (OV.g rfl id)) rfl ?_
  refine WL.val (V.pickOr (OV.p rfl) (OV.g rfl id)) rfl ?_
  refine WL.nil ?_
  refine WC.cond rfl (fun hc0 => ?_) (fun hc0 => ?_)
  ·skip
   have h0 := hc0
   have he : g.fits n = !(!decide ((0 : Int) = 0) || decide (n < 0) || decide (g.cap < n)) := by
     unfold Geo.fits
     by_cases h1 : 0 ≤ n <;> by_cases h2 : n ≤ g.cap <;> simp [h1, h2] <;> omega
   have hf := he
   rw [h0] at hf
   rw [hf]
   refine WC.sr ?_
   refine WL.sg rfl rfl ?_
   refine WL.sg rfl rfl ?_
   refine WL.nil ?_
   refine WC.ret ?_
   exact BodyQ.ret (H' := F) (Res.tmp2 rfl rfl rfl) (fun w h => h.drop 1) ⟨rfl, rfl⟩
  ·skip
   have h0 := hc0
   have he : g.fits n = !(!decide ((0 : Int) = 0) || decide (n < 0) || decide (g.cap < n)) := by
     unfold Geo.fits
     by_cases h1 : 0 ≤ n <;> by_cases h2 : n ≤ g.cap <;> simp [h1, h2] <;> omega
   have hf := he
   rw [h0] at hf
   rw [hf]
   have hfb := hf
   unfold Geo.fits at hfb
   simp only [Bool.not_false, Bool.and_eq_true, decide_eq_true_eq] at hfb
   refine WC.skip ?_
   refine WC.sr ?_
   refine WL.val (V.loadA (vs := [_, _, _, _, _]) ⟨Tryz.isAgg23, Tryz.sizeOf23⟩ (OV.p rfl) rfl (fun _ => by repeat (first | exact Rds.gets ⟨rfl, rfl, rfl, rfl, rfl, trivial⟩ | apply Rds.up))) rfl ?_
   refine WL.call (vs := [_]) Tryz.call73 ⟨OV.p rfl, trivial⟩ (ecc_RoomOk hg) rfl ?_
   rintro _ H0 ⟨rfl, h0⟩
   subst H0
   refine WL.mv rfl rfl ?_
   refine WL.xt rfl rfl rfl ?_
   refine WL.xt rfl rfl rfl ?_
   refine WL.sg rfl rfl ?_
   refine WL.sg rfl rfl ?_
   refine WL.nil ?_
   refine WC.sr ?_
   refine WL.mv rfl rfl ?_
   refine WL.mv rfl rfl ?_
   refine WL.ad rfl rfl rfl ?_
   refine WL.sb rfl rfl rfl ?_
   refine WL.mv rfl rfl ?_
   refine WL.val (V.quoI (OV.p rfl) (OV.p rfl) (fun hc => by first | omega | (simp at hc; omega))) rfl ?_
   refine WL.sg rfl rfl ?_
   refine WL.sg rfl rfl ?_
   refine WL.nil ?_
   refine WC.ret ?_
   exact BodyQ.ret (H' := F) (Res.tmp2 rfl rfl rfl) (fun w h => h.drop 1) ⟨rfl, rfl⟩
theorem head_may (hg : g.mays) (h : Hd) (hn : h.len ≤ 1099511627776) : Tells Tryz.prog 172 #[g.v, h.v] K F (.bool (h.may g)) := by
  obtain ⟨e, he⟩ : ∃ e : Int, e = if g.fits h.len then 0 else 1 := ⟨_, rfl⟩
  obtain ⟨pn, hp⟩ : ∃ pn : Int, pn = if g.fits h.len then g.pagesOf h.len else 0 := ⟨_, rfl⟩
  refine Does.enter Tryz.func172 rfl Tryz.ntmps172 rfl ?_
  simp only [env0, Nat.reduceAdd]
  refine WC.sr ?_
  refine WL.box (cs := [_, _, _, _, _]) (OV.p rfl) rfl rfl (fun b2 => ?_)
  refine WL.box (cs := [_, _, _]) (OV.p rfl) rfl rfl (fun b3 => ?_)
  refine WL.sg rfl rfl ?_
  refine WL.nil ?_
  refine WC.sr ?_
  refine WL.val (V.loadA (vs := [_, _, _, _, _]) ⟨Tryz.isAgg23, Tryz.sizeOf23⟩ (OV.p rfl) rfl (fun _ => by repeat (first | exact Rds.gets ⟨rfl, rfl, rfl, rfl, rfl, trivial⟩ | apply Rds.up))) rfl ?_
  refine WL.val (V.fieldAddr fo129_1 (OV.p rfl)) rfl ?_
  refine WL.ld Tryz.isAgg3 rfl rfl ?_
  refine WL.call (vs := [_, _]) Tryz.call91 ⟨OV.p rfl, OV.p rfl, trivial⟩ (Tells.eq (v' := .tuple #[.int .i64 pn, .int .i64 e]) (head_Pages hg hn) (by rw [hp, he]; cases g.fits h.len <;> rfl)) rfl ?_
  rintro _ H0 ⟨rfl, h0⟩
  subst H0
  refine WL.mv rfl rfl ?_
  refine WL.xt rfl rfl rfl ?_
  refine WL.xt rfl rfl rfl ?_
  refine WL.sg rfl rfl ?_
  refine WL.sg rfl rfl ?_
  refine WL.nil ?_
  refine WC.sr ?_
  refine WL.mv rfl rfl ?_
  refine WL.val (V.eql (OV.p rfl) (OV.p rfl)) rfl ?_
  refine WL.mv rfl rfl ?_
  refine WL.valG (oj := _) rfl rfl rfl GC.t (V.fieldAddr fo129_0 (OV.p rfl)) rfl ?_
  refine WL.valG (oj := _) rfl rfl rfl GC.t (V.load Tryz.isAgg3 (OV.g rfl id) (fun _ => by repeat (first | exact Rd.here rfl | apply Rd.up))) rfl ?_
  refine WL.valG (oj := _) rfl rfl rfl GC.t (V.geq (OV.g rfl id) (OV.p rfl)) rfl ?_
  refine WL.val (V.pickAnd (OV.p rfl) (OV.g rfl id)) rfl ?_
  refine WL.mv rfl rfl ?_
  refine WL.valG (oj := _) rfl rfl rfl GC.t (V.fieldAddr fo129_0 (OV.p rfl)) rfl ?_
  refine WL.valG (oj := _) rfl rfl rfl GC.t (V.load Tryz.isAgg3 (OV.g rfl id) (fun _ => by repeat (first | exact Rd.here rfl | apply Rd.up))) rfl ?_
  refine WL.valG (oj := _) rfl rfl rfl GC.t (V.lss (OV.g rfl id) (OV.p rfl)) rfl ?_
  refine WL.val (V.pickAnd (OV.p rfl) (OV.g rfl id)) rfl ?_
  refine WL.mv rfl rfl ?_
  refine WL.valG (oj := _) rfl rfl rfl GC.t (V.fieldAddr fo129_2 (OV.p rfl)) rfl ?_
  refine WL.valG (oj := _) rfl rfl rfl GC.t (V.load Tryz.isAgg3 (OV.g rfl id) (fun _ => by repeat (first | exact Rd.here rfl | apply Rd.up))) rfl ?_
  refine WL.valG (oj := _) rfl rfl rfl GC.t (V.geq (OV.g rfl id) (OV.p rfl)) rfl ?_
  refine WL.val (V.pickAnd (OV.p rfl) (OV.g rfl id)) rfl ?_
  refine WL.mv rfl rfl ?_
  refine WL.valG (oj := _) rfl rfl rfl GC.t (V.fieldAddr fo129_2 (OV.p rfl)) rfl ?_
  refine WL.valG (oj := _) rfl rfl rfl GC.t (V.load Tryz.isAgg3 (OV.g rfl id) (fun _ => by repeat (first | exact Rd.here rfl | apply Rd.up))) rfl ?_
  refine WL.valG (oj := _) rfl rfl rfl GC.t (V.leq (OV.g rfl id) (OV.p rfl)) rfl ?_
  refine WL.val (V.pickAnd (OV.p rfl) (OV.g rfl id)) rfl ?_
  refine WL.sg rfl rfl ?_
  refine WL.nil ?_
  refine WC.ret ?_
  refine BodyQ.ret (H' := F) (Res.tmp rfl rfl) (fun w h => h.drop 2) ⟨?_, rfl⟩
  unfold Hd.may
  congr 1
  cases hf : g.fits h.len with
  | true => rw [hf] at he; rw [he]; rfl
  | false => rw [hf] at he; rw [he]; rfl
def le4v (n : Int) : List Value := [.int .u8 (IntKind.u8.wrap n), .int .u8 (IntKind.u8.wrap (n.fdiv (2 ^ (min (8 : Int).toNat IntKind.i64.bits)))), .int .u8 (IntKind.u8.wrap (n.fdiv (2 ^ (min (16 : Int).toNat IntKind.i64.bits)))), .int .u8 (IntKind.u8.wrap (n.fdiv (2 ^ (min (24 : Int).toNat IntKind.i64.bits))))]
theorem wrap8 (n : Int) : IntKind.u8.wrap n = n % 256 := by
  simp only [IntKind.wrap, IntKind.bits, IntKind.signed]; simp
theorem le4v_nats {n : Int} (h : 0 ≤ n) : le4v n = nats .u8 (le4 n) := by
  unfold le4v le4 nats
  rw [wrap8, wrap8, wrap8, wrap8, show (2 : Int) ^ (min (8 : Int).toNat IntKind.i64.bits) = 256 from rfl, show (2 : Int) ^ (min (16 : Int).toNat IntKind.i64.bits) = 65536 from rfl, show (2 : Int) ^ (min (24 : Int).toNat IntKind.i64.bits) = 16777216 from rfl,
    Int.fdiv_eq_ediv_of_nonneg _ (by decide), Int.fdiv_eq_ediv_of_nonneg _ (by decide), Int.fdiv_eq_ediv_of_nonneg _ (by decide)]
  simp only [List.map_cons, List.map_nil]
  congr 1
  · congr 1; omega
  congr 1
  · congr 1; omega
  congr 1
  · congr 1; omega
  congr 1
  congr 1; omega
theorem le4v_one (n : Int) : ∀ u ∈ le4v n, u.oneCell' = true := by unfold le4v; simp [Value.oneCell']
theorem head_lay {A B : Option Addr} {cs : List Value} {x y z : Int} (hs : Seq K F A 4 1 cs) (hq : Seq K F B 3 1 [.int .i64 x, .int .i64 y, .int .i64 z]) :
    Does Tryz.prog 173 #[.slice A 4 4, .slice B 3 3] K F (fun v H' => ∃ A' c', v = .slice A' 16 c' ∧ H' = SlA (.slice A' 16 c') 5 1 16 (cs ++ le4v x ++ le4v y ++ le4v z) :: F) := by
  have hsl := hs.len
  have rd : ∀ (i : Nat) v, [Value.int .i64 x, .int .i64 y, .int .i64 z][i]? = some v → Rd K F (B.map (·.add (i * 1))) v := fun i v hi => by rw [Nat.mul_one]; exact hq.rd i v hi
  refine Does.enter Tryz.func173 rfl Tryz.ntmps173 rfl ?_
  simp only [env0, Nat.reduceAdd]
  refine WC.sr ?_
  refine WL.sg rfl rfl ?_
  refine WL.nil ?_
  refine WC.seq ?_
  refine WC.sr ?_
  refine WL.mv rfl rfl ?_
  refine WL.val (V.len (t := 42) Tryz.runUnderlying42 (OV.p rfl)) rfl ?_
  refine WL.mv rfl rfl ?_
  refine WL.nil ?_
  refine WC.block ?_
  refine WC.rounds 4 ?_
  refine WC.sr ?_
  refine WL.val (V.lss (OV.p rfl) (OV.p rfl)) rfl ?_
  refine WL.nil ?_
  refine WC.seq ?_
  refine WC.condT' rfl (by first | rfl | (simp; done) | (simp; omega)) ?_
  refine WC.skip ?_
  refine WC.seq ?_
  refine WC.block ?_
  refine WC.sr ?_
  refine WL.val (V.idxS st42 (OV.p rfl) (OV.p rfl) (fun _ => by decide) (fun _ => by first | exact rd 0 _ rfl | exact Rd.up (rd 1 _ rfl) | exact Rd.up (Rd.up (rd 1 _ rfl)) | exact Rd.up (Rd.up (rd 2 _ rfl)) | exact Rd.up (Rd.up (Rd.up (rd 2 _ rfl))) | exact Rd.up (Rd.up (Rd.up (Rd.up (rd 2 _ rfl)))))) rfl ?_
  refine WL.val (V.load Tryz.isAgg3 (OV.p rfl) (fun _ => by first | exact rd 0 _ rfl | exact Rd.up (rd 1 _ rfl) | exact Rd.up (Rd.up (rd 1 _ rfl)) | exact Rd.up (Rd.up (rd 2 _ rfl)) | exact Rd.up (Rd.up (Rd.up (rd 2 _ rfl))) | exact Rd.up (Rd.up (Rd.up (Rd.up (rd 2 _ rfl)))))) rfl ?_
  refine WL.sg rfl rfl ?_
  refine WL.nil ?_
  refine WC.region ?_
  refine WL.mv rfl rfl ?_
  refine WL.mv rfl rfl ?_
  refine WL.val (V.convI Tryz.runUnderlying3 Tryz.runUnderlying5 (OV.p rfl)) rfl ?_
  refine WL.mv rfl rfl ?_
  refine WL.val (V.shr (OV.p rfl) (OV.p rfl) (by omega)) rfl ?_
  refine WL.val (V.convI Tryz.runUnderlying3 Tryz.runUnderlying5 (OV.p rfl)) rfl ?_
  refine WL.mv rfl rfl ?_
  refine WL.val (V.shr (OV.p rfl) (OV.p rfl) (by omega)) rfl ?_
  refine WL.val (V.convI Tryz.runUnderlying3 Tryz.runUnderlying5 (OV.p rfl)) rfl ?_
  refine WL.mv rfl rfl ?_
  refine WL.val (V.shr (OV.p rfl) (OV.p rfl) (by omega)) rfl ?_
  refine WL.val (V.convI Tryz.runUnderlying3 Tryz.runUnderlying5 (OV.p rfl)) rfl ?_
  refine WL.buildSlice (E := 5) (cs := [_, _, _, _]) (vs := [(0, _), (1, _), (2, _), (3, _)]) ⟨OV.p rfl, OV.p rfl, OV.p rfl, OV.p rfl, trivial⟩ rfl (bsl38_4_0_1_2_3 _ _ _ _) rfl (fun b25 => ?_)
  first
  | refine WL.appendNew (m := 4) (q := 4) (cs := cs) (news := le4v x) Tryz.underlying38 el5 (OV.p rfl) (OV.p rfl) (by repeat (first | exact hs | apply Seq.up)) (Seq.all rfl) (by decide) (by decide) (by decide) (by decide) rfl rfl (fun A1 c1 hA1 hc1 => ?_)
  | (refine WL.sub (Sub.refl _) (fun w h => h.sel 2 [1, 0] rfl) ?_
     refine WL.append (m := 8) (q := 4) (news := le4v y) Tryz.underlying38 el5 (OV.p rfl) (OV.p rfl) (Seq.all rfl) (le4v_one _) (by decide) rfl rfl (fun A2 c2 hA2 hc2 => ?_))
  | (refine WL.sub (Sub.refl _) (fun w h => h.sel 2 [1, 0] rfl) ?_
     refine WL.append (m := 12) (q := 4) (news := le4v z) Tryz.underlying38 el5 (OV.p rfl) (OV.p rfl) (Seq.all rfl) (le4v_one _) (by decide) rfl rfl (fun A3 c3 hA3 hc3 => ?_))
  refine WL.sg rfl rfl ?_
  refine WL.nil ?_
  refine WC.region ?_
  refine WL.val (V.val_eq (v' := .int .i64 (1)) (V.add (OV.p rfl) (OV.p rfl)) (fun _ => rfl)) rfl ?_
  refine WL.mv rfl rfl ?_
  refine WL.nil ?_
  refine WC.sr ?_
  refine WL.val (V.lss (OV.p rfl) (OV.p rfl)) rfl ?_
  refine WL.nil ?_
  refine WC.seq ?_
  refine WC.condT' rfl (by first | rfl | (simp; done) | (simp; omega)) ?_
  refine WC.skip ?_
  refine WC.seq ?_
  refine WC.block ?_
  refine WC.sr ?_
  refine WL.val (V.idxS st42 (OV.p rfl) (OV.p rfl) (fun _ => by decide) (fun _ => by first | exact rd 0 _ rfl | exact Rd.up (rd 1 _ rfl) | exact Rd.up (Rd.up (rd 1 _ rfl)) | exact Rd.up (Rd.up (rd 2 _ rfl)) | exact Rd.up (Rd.up (Rd.up (rd 2 _ rfl))) | exact Rd.up (Rd.up (Rd.up (Rd.up (rd 2 _ rfl)))))) rfl ?_
  refine WL.val (V.load Tryz.isAgg3 (OV.p rfl) (fun _ => by first | exact rd 0 _ rfl | exact Rd.up (rd 1 _ rfl) | exact Rd.up (Rd.up (rd 1 _ rfl)) | exact Rd.up (Rd.up (rd 2 _ rfl)) | exact Rd.up (Rd.up (Rd.up (rd 2 _ rfl))) | exact Rd.up (Rd.up (Rd.up (Rd.up (rd 2 _ rfl)))))) rfl ?_
  refine WL.sg rfl rfl ?_
  refine WL.nil ?_
  refine WC.region ?_
  refine WL.mv rfl rfl ?_
  refine WL.mv rfl rfl ?_
  refine WL.val (V.convI Tryz.runUnderlying3 Tryz.runUnderlying5 (OV.p rfl)) rfl ?_
  refine WL.mv rfl rfl ?_
  refine WL.val (V.shr (OV.p rfl) (OV.p rfl) (by omega)) rfl ?_
  refine WL.val (V.convI Tryz.runUnderlying3 Tryz.runUnderlying5 (OV.p rfl)) rfl ?_
  refine WL.mv rfl rfl ?_
  refine WL.val (V.shr (OV.p rfl) (OV.p rfl) (by omega)) rfl ?_
  refine WL.val (V.convI Tryz.runUnderlying3 Tryz.runUnderlying5 (OV.p rfl)) rfl ?_
  refine WL.mv rfl rfl ?_
  refine WL.val (V.shr (OV.p rfl) (OV.p rfl) (by omega)) rfl ?_
  refine WL.val (V.convI Tryz.runUnderlying3 Tryz.runUnderlying5 (OV.p rfl)) rfl ?_
  refine WL.buildSlice (E := 5) (cs := [_, _, _, _]) (vs := [(0, _), (1, _), (2, _), (3, _)]) ⟨OV.p rfl, OV.p rfl, OV.p rfl, OV.p rfl, trivial⟩ rfl (bsl38_4_0_1_2_3 _ _ _ _) rfl (fun b25 => ?_)
  first
  | refine WL.appendNew (m := 4) (q := 4) (cs := cs) (news := le4v x) Tryz.underlying38 el5 (OV.p rfl) (OV.p rfl) (by repeat (first | exact hs | apply Seq.up)) (Seq.all rfl) (by decide) (by decide) (by decide) (by decide) rfl rfl (fun A1 c1 hA1 hc1 => ?_)
  | (refine WL.sub (Sub.refl _) (fun w h => h.sel 2 [1, 0] rfl) ?_
     refine WL.append (m := 8) (q := 4) (news := le4v y) Tryz.underlying38 el5 (OV.p rfl) (OV.p rfl) (Seq.all rfl) (le4v_one _) (by decide) rfl rfl (fun A2 c2 hA2 hc2 => ?_))
  | (refine WL.sub (Sub.refl _) (fun w h => h.sel 2 [1, 0] rfl) ?_
     refine WL.append (m := 12) (q := 4) (news := le4v z) Tryz.underlying38 el5 (OV.p rfl) (OV.p rfl) (Seq.all rfl) (le4v_one _) (by decide) rfl rfl (fun A3 c3 hA3 hc3 => ?_))
  refine WL.sg rfl rfl ?_
  refine WL.nil ?_
  refine WC.region ?_
  refine WL.val (V.val_eq (v' := .int .i64 (2)) (V.add (OV.p rfl) (OV.p rfl)) (fun _ => rfl)) rfl ?_
  refine WL.mv rfl rfl ?_
  refine WL.nil ?_
  refine WC.sr ?_
  refine WL.val (V.lss (OV.p rfl) (OV.p rfl)) rfl ?_
  refine WL.nil ?_
  refine WC.seq ?_
  refine WC.condT' rfl (by first | rfl | (simp; done) | (simp; omega)) ?_
  refine WC.skip ?_
  refine WC.seq ?_
  refine WC.block ?_
  refine WC.sr ?_
  refine WL.val (V.idxS st42 (OV.p rfl) (OV.p rfl) (fun _ => by decide) (fun _ => by first | exact rd 0 _ rfl | exact Rd.up (rd 1 _ rfl) | exact Rd.up (Rd.up (rd 1 _ rfl)) | exact Rd.up (Rd.up (rd 2 _ rfl)) | exact Rd.up (Rd.up (Rd.up (rd 2 _ rfl))) | exact Rd.up (Rd.up (Rd.up (Rd.up (rd 2 _ rfl)))))) rfl ?_
  refine WL.val (V.load Tryz.isAgg3 (OV.p rfl) (fun _ => by first | exact rd 0 _ rfl | exact Rd.up (rd 1 _ rfl) | exact Rd.up (Rd.up (rd 1 _ rfl)) | exact Rd.up (Rd.up (rd 2 _ rfl)) | exact Rd.up (Rd.up (Rd.up (rd 2 _ rfl))) | exact Rd.up (Rd.up (Rd.up (Rd.up (rd 2 _ rfl)))))) rfl ?_
  refine WL.sg rfl rfl ?_
  refine WL.nil ?_
  refine WC.region ?_
  refine WL.mv rfl rfl ?_
  refine WL.mv rfl rfl ?_
  refine WL.val (V.convI Tryz.runUnderlying3 Tryz.runUnderlying5 (OV.p rfl)) rfl ?_
  refine WL.mv rfl rfl ?_
  refine WL.val (V.shr (OV.p rfl) (OV.p rfl) (by omega)) rfl ?_
  refine WL.val (V.convI Tryz.runUnderlying3 Tryz.runUnderlying5 (OV.p rfl)) rfl ?_
  refine WL.mv rfl rfl ?_
  refine WL.val (V.shr (OV.p rfl) (OV.p rfl) (by omega)) rfl ?_
  refine WL.val (V.convI Tryz.runUnderlying3 Tryz.runUnderlying5 (OV.p rfl)) rfl ?_
  refine WL.mv rfl rfl ?_
  refine WL.val (V.shr (OV.p rfl) (OV.p rfl) (by omega)) rfl ?_
  refine WL.val (V.convI Tryz.runUnderlying3 Tryz.runUnderlying5 (OV.p rfl)) rfl ?_
  refine WL.buildSlice (E := 5) (cs := [_, _, _, _]) (vs := [(0, _), (1, _), (2, _), (3, _)]) ⟨OV.p rfl, OV.p rfl, OV.p rfl, OV.p rfl, trivial⟩ rfl (bsl38_4_0_1_2_3 _ _ _ _) rfl (fun b25 => ?_)
  first
  | refine WL.appendNew (m := 4) (q := 4) (cs := cs) (news := le4v x) Tryz.underlying38 el5 (OV.p rfl) (OV.p rfl) (by repeat (first | exact hs | apply Seq.up)) (Seq.all rfl) (by decide) (by decide) (by decide) (by decide) rfl rfl (fun A1 c1 hA1 hc1 => ?_)
  | (refine WL.sub (Sub.refl _) (fun w h => h.sel 2 [1, 0] rfl) ?_
     refine WL.append (m := 8) (q := 4) (news := le4v y) Tryz.underlying38 el5 (OV.p rfl) (OV.p rfl) (Seq.all rfl) (le4v_one _) (by decide) rfl rfl (fun A2 c2 hA2 hc2 => ?_))
  | (refine WL.sub (Sub.refl _) (fun w h => h.sel 2 [1, 0] rfl) ?_
     refine WL.append (m := 12) (q := 4) (news := le4v z) Tryz.underlying38 el5 (OV.p rfl) (OV.p rfl) (Seq.all rfl) (le4v_one _) (by decide) rfl rfl (fun A3 c3 hA3 hc3 => ?_))
  refine WL.sg rfl rfl ?_
  refine WL.nil ?_
  refine WC.region ?_
  refine WL.val (V.val_eq (v' := .int .i64 (3)) (V.add (OV.p rfl) (OV.p rfl)) (fun _ => rfl)) rfl ?_
  refine WL.mv rfl rfl ?_
  refine WL.nil ?_
  refine WC.sr ?_
  refine WL.val (V.lss (OV.p rfl) (OV.p rfl)) rfl ?_
  refine WL.nil ?_
  refine WC.seq ?_
  refine WC.condF' rfl (by first | rfl | (simp; done) | (simp; omega)) ?_
  refine WC.exit ?_
  refine WC.sr ?_
  refine WL.mv rfl rfl ?_
  refine WL.sg rfl rfl ?_
  refine WL.nil ?_
  refine WC.ret ?_
  exact BodyQ.ret (H' := SlA (.slice A3 16 c3) _ 1 16 _ :: F) (Res.tmp rfl rfl) (fun w h => h.sel 4 [0] rfl) ⟨A3, c3, rfl, rfl⟩
end
end Go.Proofs.YtohkefolnmcjnaaGreat
namespace Go.Sl
open Go.RowKit Go.BigFrame
set_option linter.unusedVariables false
set_option linter.unusedSimpArgs false
theorem take_perm {α : Type} : ∀ (l : List α) (k : Nat) (hk : k < l.length), List.Perm (l[k] :: l.eraseIdx k) l
  | [], k, hk => absurd hk (Nat.not_lt_zero _)
  | a :: l, 0, _ => List.Perm.refl _
  | a :: l, k + 1, hk => (List.Perm.swap _ _ _).trans ((take_perm l k (Nat.lt_of_succ_lt_succ hk)).cons a)
theorem Sat.allTail {K w : World} {A : Assn} {l H : List Assn} (h : Sat K w (A :: (l ++ H))) : Sat K w (A :: AllA l :: H) :=
  ⟨h.1, h.2.1, h.2.2.1, fun b hb B hB => by
    rcases List.mem_cons.1 hB with rfl | hB
    · rintro ⟨C, hC, hf⟩; exact h.2.2.2.1 b hb C (List.mem_append_left _ hC) hf
    · exact h.2.2.2.1 b hb B (List.mem_append_right _ hB), SatL.all.2 h.2.tail⟩
theorem Sat.unallTail {K w : World} {A : Assn} {l H : List Assn} (h : Sat K w (A :: AllA l :: H)) : Sat K w (A :: (l ++ H)) :=
  ⟨h.1, h.2.1, h.2.2.1, fun b hb B hB => by
    rcases List.mem_append.1 hB with hB | hB
    · exact fun hf => h.2.2.2.1 b hb (AllA l) (.head _) ⟨B, hB, hf⟩
    · exact h.2.2.2.1 b hb B (.tail _ hB), SatL.all.1 h.2.tail⟩
theorem Sat.perm' {K w : World} {l l' : List Assn} (hp : List.Perm l l') (h : Sat K w l) : Sat K w l' := ⟨h.1, SatL.perm hp h.2⟩
theorem Sat.takeA {K w : World} {l H : List Assn} {k : Nat} (hk : k < l.length) (h : Sat K w (AllA l :: H)) : Sat K w (l[k] :: AllA (l.eraseIdx k) :: H) :=
  Sat.allTail (Sat.perm' ((take_perm l k hk).symm.append_right H) h.unall)
theorem Sat.putA {K w : World} {l H : List Assn} {k : Nat} {A : Assn} (hk : k < l.length) (h : Sat K w (A :: AllA (l.eraseIdx k) :: H)) : Sat K w (AllA (l.set k A) :: H) := by
  have hk' : k < (l.set k A).length := by rw [List.length_set]; exact hk
  have hp := take_perm (l.set k A) k hk'
  rw [List.getElem_set_self, List.eraseIdx_set_eq] at hp
  exact Sat.all (Sat.perm' (hp.append_right H) h.unallTail)
section
variable {α : Type} {f : α → List Value} {s : Nat}
theorem flat_length (hf : ∀ x, (f x).length = s) : ∀ l : List α, (l.flatMap f).length = l.length * s
  | [] => by simp
  | x :: l => by rw [List.flatMap_cons, List.length_append, hf, flat_length hf l, List.length_cons, Nat.succ_mul, Nat.add_comm]
theorem flat_get (hf : ∀ x, (f x).length = s) : ∀ (l : List α) (k i : Nat) (x : α) (v : Value), l[k]? = some x → (f x)[i]? = some v → (l.flatMap f)[k * s + i]? = some v
  | [], k, i, x, v, h, _ => by simp at h
  | y :: l, 0, i, x, v, h, hi => by
    simp only [List.getElem?_cons_zero, Option.some.injEq] at h
    subst h
    rw [List.flatMap_cons, Nat.zero_mul, Nat.zero_add, List.getElem?_append_left (List.getElem?_eq_some_iff.1 hi).1]
    exact hi
  | y :: l, k + 1, i, x, v, h, hi => by
    have ih := flat_get hf l k i x v (by simpa using h) hi
    rw [List.flatMap_cons, List.getElem?_append_right (by rw [hf, Nat.succ_mul]; omega), hf, ← ih]
    congr 1
    rw [Nat.succ_mul]; omega
theorem flat_put (hf : ∀ x, (f x).length = s) : ∀ (l : List α) (k : Nat) (x y : α), l[k]? = some x → setL (l.flatMap f) (k * s) (f y) = (l.set k y).flatMap f := fun l k x y h => by
  have hk := (List.getElem?_eq_some_iff.1 h).1
  have h1 : (k + 1) * s ≤ l.length * s := Nat.mul_le_mul_right _ hk
  rw [Nat.succ_mul] at h1
  rw [setL_append _ _ _ (by rw [hf, flat_length hf]; exact h1), hf]
  have h2 : l.set k y = l.take k ++ y :: l.drop (k + 1) := List.set_eq_take_append_cons_drop .. |>.trans (by rw [if_pos hk])
  have h3 : ∀ j, j ≤ l.length → (l.flatMap f).take (j * s) = (l.take j).flatMap f ∧ (l.flatMap f).drop (j * s) = (l.drop j).flatMap f := fun j hj => by
    have e : l.flatMap f = (l.take j).flatMap f ++ (l.drop j).flatMap f := by rw [← List.flatMap_append, List.take_append_drop]
    have e2 : ((l.take j).flatMap f).length = j * s := by rw [flat_length hf, List.length_take, Nat.min_eq_left hj]
    rw [e]
    exact ⟨List.take_left' e2, List.drop_left' e2⟩
  rw [h2, List.flatMap_append, List.flatMap_cons, (h3 k (Nat.le_of_lt hk)).1, show k * s + s = (k + 1) * s by rw [Nat.succ_mul], (h3 (k + 1) hk).2, List.append_assoc]
end
end Go.Sl
