import Derived.Test.YtohkefolnmcjnaaGreatP19
import Derived.Test.YtohkefolnmcjnaaGreatP17
import Derived.Test.YtohkefolnmcjnaaGreatP5
/- head: Cap, Pages, may, lay, Bytes, Parse. -/
namespace Go.Proofs.YtohkefolnmcjnaaGreat
open Go.Sl Go.RowKit
set_option linter.unusedVariables false
set_option linter.unusedSimpArgs false
set_option maxRecDepth 20000

/-! ### Heads, plainly -/
structure Hd where
  (leb len num : Int)
  deriving DecidableEq
abbrev Hd.v (h : Hd) : Value := .agg #[.int .i64 h.leb, .int .i64 h.len, .int .i64 h.num]
abbrev Hd.cells (h : Hd) : List Value := [.int .i64 h.leb, .int .i64 h.len, .int .i64 h.num]
def Geo.cap (g : Geo) : Int := (g.pg - 1) * g.room
def Geo.pagesOf (g : Geo) (n : Int) : Int := (n + g.room - 1) / g.room
def Geo.fits (g : Geo) (n : Int) : Bool := decide (0 ≤ n) && decide (n ≤ g.cap)
def Hd.may (g : Geo) (h : Hd) : Bool := g.fits h.len && decide (0 ≤ h.leb) && decide (h.leb < 64) && decide (1 ≤ h.num) && decide (h.num ≤ 1000000000)
def le4 (n : Int) : List Nat := [n.toNat % 256, n.toNat / 256 % 256, n.toNat / 65536 % 256, n.toNat / 16777216 % 256]
def headB (g : Geo) (h : Hd) : List Nat := [99, 97, 115, 101] ++ le4 h.leb ++ le4 h.len ++ le4 h.num ++ List.replicate (g.room.toNat - 16) 0
def dec4 (d : List Nat) (i : Nat) : Int := ((d.getD i 0 + 256 * d.getD (i + 1) 0 + 65536 * d.getD (i + 2) 0 + 16777216 * d.getD (i + 3) 0 : Nat) : Int)
def headOf (d : List Nat) : Hd := ⟨dec4 d 4, dec4 d 8, dec4 d 12⟩
def parseF (g : Geo) (d : List Nat) : Option Hd := if (headOf d).may g && decide (headB g (headOf d) = d) then some (headOf d) else none
theorem le4_small (n : Int) : Small 256 (le4 n) := fun x hx => by
  unfold le4 at hx
  simp only [List.mem_cons, List.not_mem_nil, or_false] at hx
  rcases hx with rfl | rfl | rfl | rfl <;> exact Nat.mod_lt _ (by decide)
theorem headB_small (g : Geo) (h : Hd) : Small 256 (headB g h) := by
  unfold headB
  refine Small.append (Small.append (Small.append (Small.append ?_ (le4_small _)) (le4_small _)) (le4_small _)) (Small.repl (by decide))
  intro x hx
  simp only [List.mem_cons, List.not_mem_nil, or_false] at hx
  omega
theorem headB_length {g : Geo} (hg : g.mays) (h : Hd) : (headB g h).length = g.room.toNat := by
  unfold headB le4
  unfold Geo.mays at hg
  simp only [List.length_append, List.length_cons, List.length_nil, List.length_replicate]
  have : 16 ≤ g.room := by unfold Geo.room; omega
  omega
theorem Geo.room_bd {g : Geo} (hg : g.mays) : 16 ≤ g.room ∧ g.room ≤ 4096 := by
  unfold Geo.mays at hg
  have := Geo.mul_bd (a := g.se) (b := g.sb) (A := 8) (B := 512) (by omega) (by omega) (by omega) (by omega)
  unfold Geo.room
  omega
theorem Geo.cap_bd {g : Geo} (hg : g.mays) : 16 ≤ g.cap ∧ g.cap ≤ 258048 := by
  have h1 := Geo.room_bd hg
  unfold Geo.mays at hg
  have h2 := Geo.mul_bd (a := g.pg - 1) (b := g.room) (A := 63) (B := 4096) (by omega) (by omega) (by omega) (by omega)
  have h3 : 1 * g.room ≤ (g.pg - 1) * g.room := Int.mul_le_mul_of_nonneg_right (by omega) (by omega)
  unfold Geo.cap
  omega
/-- A head is read from its own page. -/
theorem dec_le4 {n : Int} (h0 : 0 ≤ n) (h : n < 4294967296) (p q : List Nat) : dec4 (p ++ (le4 n ++ q)) p.length = n := by
  unfold dec4 le4
  have e : ∀ i, (p ++ ([n.toNat % 256, n.toNat / 256 % 256, n.toNat / 65536 % 256, n.toNat / 16777216 % 256] ++ q)).getD (p.length + i) 0 = ([n.toNat % 256, n.toNat / 256 % 256, n.toNat / 65536 % 256, n.toNat / 16777216 % 256] ++ q).getD i 0 := fun i => by
    simp [List.getD, List.getElem?_append_right]
  have e0 := e 0
  rw [Nat.add_zero] at e0
  rw [e0, e 1, e 2, e 3]
  simp only [List.cons_append, List.getD_cons_zero, List.getD_cons_succ]
  omega
theorem headOf_headB {g : Geo} {h : Hd} (hm : h.may g = true) (hg : g.mays) : headOf (headB g h) = h := by
  have hc := Geo.cap_bd hg
  unfold Hd.may Geo.fits at hm
  simp only [Bool.and_eq_true, decide_eq_true_eq] at hm
  unfold headOf headB
  have h1 := dec_le4 (n := h.leb) (by omega) (by omega) [99, 97, 115, 101] (le4 h.len ++ (le4 h.num ++ List.replicate (g.room.toNat - 16) 0))
  have h2 := dec_le4 (n := h.len) (by omega) (by omega) ([99, 97, 115, 101] ++ le4 h.leb) (le4 h.num ++ List.replicate (g.room.toNat - 16) 0)
  have h3 := dec_le4 (n := h.num) (by omega) (by omega) ([99, 97, 115, 101] ++ le4 h.leb ++ le4 h.len) (List.replicate (g.room.toNat - 16) 0)
  simp only [← List.append_assoc] at h1 h2 h3
  rw [show ([99, 97, 115, 101] : List Nat).length = 4 from rfl] at h1
  rw [show (([99, 97, 115, 101] : List Nat) ++ le4 h.leb).length = 8 from rfl] at h2
  rw [show (([99, 97, 115, 101] : List Nat) ++ le4 h.leb ++ le4 h.len).length = 12 from rfl] at h3
  rw [h1, h2, h3]
theorem parse_headB {g : Geo} {h : Hd} (hm : h.may g = true) (hg : g.mays) : parseF g (headB g h) = some h := by
  unfold parseF
  rw [headOf_headB hm hg, hm, decide_eq_true rfl]; rfl
/-! ### Walks -/
section
variable {g : Geo} {K : World} {F : List Assn}
theorem ecc_RoomOk (hg : g.mays) : Tells Tryz.prog 73 #[g.v] K F (.tuple #[.int .i64 g.room, .int .i64 0]) := (ecc_Room g).eq (by rw [show g.may = true from decide_eq_true hg]; rfl)
theorem head_Cap (hg : g.mays) : Tells Tryz.prog 100 #[g.v] K F (.tuple #[.int .i64 g.cap, .int .i64 0]) := by
  have hc := Geo.cap_bd hg
  have hgb := hg
  unfold Geo.mays at hgb
  have hmx : max (g.pg - 1) 0 = g.pg - 1 := by omega
  refine Does.enter Tryz.func100 rfl Tryz.ntmps100 rfl ?_
  simp only [env0, Nat.reduceAdd]
  refine WC.sr ?_
  refine WL.box (cs := [_, _, _, _, _]) (OV.p rfl) rfl rfl (fun b1 => ?_)
  refine WL.val (V.assign (OV.p rfl)) rfl ?_
  refine WL.val (V.assign (OV.p rfl)) rfl ?_
  refine WL.nil ?_
  refine WC.sr ?_
  refine WL.val (V.loadA (vs := [_, _, _, _, _]) ⟨Tryz.isAgg23, Tryz.sizeOf23⟩ (OV.p rfl) rfl (fun _ => by repeat (first | exact Rds.gets ⟨rfl, rfl, rfl, rfl, rfl, trivial⟩ | apply Rds.up))) rfl ?_
  refine WL.call (vs := [_]) Tryz.call73 ⟨OV.p rfl, trivial⟩ (ecc_RoomOk hg) rfl ?_
  rintro _ H0 ⟨rfl, h0⟩
  subst H0
  refine WL.val (V.move (OV.p rfl)) rfl ?_
  refine WL.val (V.extract (OV.p rfl) rfl) rfl ?_
  refine WL.val (V.extract (OV.p rfl) rfl) rfl ?_
  refine WL.val (V.assign (OV.p rfl)) rfl ?_
  refine WL.val (V.assign (OV.p rfl)) rfl ?_
  refine WL.nil ?_
  refine WC.sr ?_
  refine WL.val (V.fieldAddr fo23_1 (OV.p rfl)) rfl ?_
  refine WL.val (V.load Tryz.isAgg3 (OV.p rfl) (fun _ => by repeat (first | exact Rd.here rfl | apply Rd.up))) rfl ?_
  refine WL.val (V.subI (OV.p rfl) (OV.p rfl) (fun hc => by first | omega | (simp at hc; omega))) rfl ?_
  refine WL.val (V.max (OV.p rfl) (OV.p rfl)) rfl ?_
  refine WL.val (V.move (OV.p rfl)) rfl ?_
  refine WL.val (V.val_eq (v' := .int .i64 g.cap) (V.mulI (OV.p rfl) (OV.p rfl) (fun _ => by rw [hmx]; unfold Geo.cap at hc; omega)) (fun _ => by rw [hmx]; rfl)) rfl ?_
  refine WL.val (V.move (OV.p rfl)) rfl ?_
  refine WL.val (V.assign (OV.p rfl)) rfl ?_
  refine WL.val (V.assign (OV.p rfl)) rfl ?_
  refine WL.nil ?_
  refine WC.ret ?_
  exact BodyQ.ret (H' := F) (Res.tmp2 rfl rfl rfl) (fun w h => h.drop 1) ⟨rfl, rfl⟩
theorem head_Pages (hg : g.mays) {n : Int} (hn : n ≤ 1099511627776) : Tells Tryz.prog 91 #[g.v, .int .i64 n] K F (.tuple (if g.fits n then #[.int .i64 (g.pagesOf n), .int .i64 0] else #[.int .i64 0, .int .i64 1])) := by
  have hc := Geo.cap_bd hg
  have hr := Geo.room_bd hg
  refine Does.enter Tryz.func91 rfl Tryz.ntmps91 rfl ?_
  simp only [env0, Nat.reduceAdd]
  refine WC.sr ?_
  refine WL.box (cs := [_, _, _, _, _]) (OV.p rfl) rfl rfl (fun b2 => ?_)
  refine WL.val (V.assign (OV.p rfl)) rfl ?_
  refine WL.val (V.assign (OV.p rfl)) rfl ?_
  refine WL.nil ?_
  refine WC.sr ?_
  refine WL.val (V.loadA (vs := [_, _, _, _, _]) ⟨Tryz.isAgg23, Tryz.sizeOf23⟩ (OV.p rfl) rfl (fun _ => by repeat (first | exact Rds.gets ⟨rfl, rfl, rfl, rfl, rfl, trivial⟩ | apply Rds.up))) rfl ?_
  refine WL.call (vs := [_]) Tryz.call100 ⟨OV.p rfl, trivial⟩ (head_Cap hg) rfl ?_
  rintro _ H0 ⟨rfl, h0⟩
  subst H0
  refine WL.val (V.move (OV.p rfl)) rfl ?_
  refine WL.val (V.extract (OV.p rfl) rfl) rfl ?_
  refine WL.val (V.extract (OV.p rfl) rfl) rfl ?_
  refine WL.val (V.assign (OV.p rfl)) rfl ?_
  refine WL.val (V.assign (OV.p rfl)) rfl ?_
  refine WL.nil ?_
  refine WC.seq ?_
  refine WC.sr ?_
  refine WL.val (V.move (OV.p rfl)) rfl ?_
  refine WL.val (V.neq (OV.p rfl) (OV.p rfl)) rfl ?_
  refine WL.val (V.move (OV.p rfl)) rfl ?_
  refine WL.valG (oj := _) rfl rfl rfl GC.f (V.move (OV.p rfl)) rfl ?_
  refine WL.valG (oj := _) rfl rfl rfl GC.f (V.lss (OV.g rfl id) (OV.p rfl)) rfl ?_
  refine WL.val (V.pickOr (OV.p rfl) (OV.g rfl id)) rfl ?_
  refine WL.val (V.move (OV.p rfl)) rfl ?_
  refine WL.valG (oj := _) rfl rfl rfl GC.f (V.move (OV.p rfl)) rfl ?_
  refine WL.valG (oj := _) rfl rfl rfl GC.f (V.move (OV.p rfl)) rfl ?_
  refine WL.valG (oj := _) rfl rfl rfl GC.f (V.gtr (OV.g rfl id) (OV.g rfl id)) rfl ?_
  refine WL.val (V.pickOr (OV.p rfl) (OV.g rfl id)) rfl ?_
  refine WL.nil ?_
  refine WC.cond rfl (fun hc0 => ?_) (fun hc0 => ?_)
  ·skip
   have h0 := hc0
   have he : g.fits n = !(!decide ((0 : Int) = 0) || decide (n < 0) || decide (g.cap < n)) := by
     unfold Geo.fits
     by_cases h1 : 0 ≤ n <;> by_cases h2 : n ≤ g.cap <;> simp [h1, h2] <;> omega
   have hf := he
   rw [h0] at hf
   rw [hf]
   refine WC.sr ?_
   refine WL.val (V.assign (OV.p rfl)) rfl ?_
   refine WL.val (V.assign (OV.p rfl)) rfl ?_
   refine WL.nil ?_
   refine WC.ret ?_
   exact BodyQ.ret (H' := F) (Res.tmp2 rfl rfl rfl) (fun w h => h.drop 1) ⟨rfl, rfl⟩
  ·skip
   have h0 := hc0
   have he : g.fits n = !(!decide ((0 : Int) = 0) || decide (n < 0) || decide (g.cap < n)) := by
     unfold Geo.fits
     by_cases h1 : 0 ≤ n <;> by_cases h2 : n ≤ g.cap <;> simp [h1, h2] <;> omega
   have hf := he
   rw [h0] at hf
   rw [hf]
   have hfb := hf
   unfold Geo.fits at hfb
   simp only [Bool.not_false, Bool.and_eq_true, decide_eq_true_eq] at hfb
   refine WC.skip ?_
   refine WC.sr ?_
   refine WL.val (V.loadA (vs := [_, _, _, _, _]) ⟨Tryz.isAgg23, Tryz.sizeOf23⟩ (OV.p rfl) rfl (fun _ => by repeat (first | exact Rds.gets ⟨rfl, rfl, rfl, rfl, rfl, trivial⟩ | apply Rds.up))) rfl ?_
   refine WL.call (vs := [_]) Tryz.call73 ⟨OV.p rfl, trivial⟩ (ecc_RoomOk hg) rfl ?_
   rintro _ H0 ⟨rfl, h0⟩
   subst H0
   refine WL.val (V.move (OV.p rfl)) rfl ?_
   refine WL.val (V.extract (OV.p rfl) rfl) rfl ?_
   refine WL.val (V.extract (OV.p rfl) rfl) rfl ?_
   refine WL.val (V.assign (OV.p rfl)) rfl ?_
   refine WL.val (V.assign (OV.p rfl)) rfl ?_
   refine WL.nil ?_
   refine WC.sr ?_
   refine WL.val (V.move (OV.p rfl)) rfl ?_
   refine WL.val (V.move (OV.p rfl)) rfl ?_
   refine WL.val (V.addI (OV.p rfl) (OV.p rfl) (fun hc => by first | omega | (simp at hc; omega))) rfl ?_
   refine WL.val (V.subI (OV.p rfl) (OV.p rfl) (fun hc => by first | omega | (simp at hc; omega))) rfl ?_
   refine WL.val (V.move (OV.p rfl)) rfl ?_
   refine WL.val (V.quoI (OV.p rfl) (OV.p rfl) (fun hc => by first | omega | (simp at hc; omega))) rfl ?_
   refine WL.val (V.assign (OV.p rfl)) rfl ?_
   refine WL.val (V.assign (OV.p rfl)) rfl ?_
   refine WL.nil ?_
   refine WC.ret ?_
   exact BodyQ.ret (H' := F) (Res.tmp2 rfl rfl rfl) (fun w h => h.drop 1) ⟨rfl, rfl⟩
theorem head_may (hg : g.mays) (h : Hd) (hn : h.len ≤ 1099511627776) : Tells Tryz.prog 172 #[g.v, h.v] K F (.bool (h.may g)) := by
  obtain ⟨e, he⟩ : ∃ e : Int, e = if g.fits h.len then 0 else 1 := ⟨_, rfl⟩
  obtain ⟨pn, hp⟩ : ∃ pn : Int, pn = if g.fits h.len then g.pagesOf h.len else 0 := ⟨_, rfl⟩
  refine Does.enter Tryz.func172 rfl Tryz.ntmps172 rfl ?_
  simp only [env0, Nat.reduceAdd]
  refine WC.sr ?_
  refine WL.box (cs := [_, _, _, _, _]) (OV.p rfl) rfl rfl (fun b2 => ?_)
  refine WL.box (cs := [_, _, _]) (OV.p rfl) rfl rfl (fun b3 => ?_)
  refine WL.val (V.assign (OV.p rfl)) rfl ?_
  refine WL.nil ?_
  refine WC.sr ?_
  refine WL.val (V.loadA (vs := [_, _, _, _, _]) ⟨Tryz.isAgg23, Tryz.sizeOf23⟩ (OV.p rfl) rfl (fun _ => by repeat (first | exact Rds.gets ⟨rfl, rfl, rfl, rfl, rfl, trivial⟩ | apply Rds.up))) rfl ?_
  refine WL.val (V.fieldAddr fo129_1 (OV.p rfl)) rfl ?_
  refine WL.val (V.load Tryz.isAgg3 (OV.p rfl) (fun _ => by repeat (first | exact Rd.here rfl | apply Rd.up))) rfl ?_
  refine WL.call (vs := [_, _]) Tryz.call91 ⟨OV.p rfl, OV.p rfl, trivial⟩ (Tells.eq (v' := .tuple #[.int .i64 pn, .int .i64 e]) (head_Pages hg hn) (by rw [hp, he]; cases g.fits h.len <;> rfl)) rfl ?_
  rintro _ H0 ⟨rfl, h0⟩
  subst H0
  refine WL.val (V.move (OV.p rfl)) rfl ?_
  refine WL.val (V.extract (OV.p rfl) rfl) rfl ?_
  refine WL.val (V.extract (OV.p rfl) rfl) rfl ?_
  refine WL.val (V.assign (OV.p rfl)) rfl ?_
  refine WL.val (V.assign (OV.p rfl)) rfl ?_
  refine WL.nil ?_
  refine WC.sr ?_
  refine WL.val (V.move (OV.p rfl)) rfl ?_
  refine WL.val (V.eql (OV.p rfl) (OV.p rfl)) rfl ?_
  refine WL.val (V.move (OV.p rfl)) rfl ?_
  refine WL.valG (oj := _) rfl rfl rfl GC.t (V.fieldAddr fo129_0 (OV.p rfl)) rfl ?_
  refine WL.valG (oj := _) rfl rfl rfl GC.t (V.load Tryz.isAgg3 (OV.g rfl id) (fun _ => by repeat (first | exact Rd.here rfl | apply Rd.up))) rfl ?_
  refine WL.valG (oj := _) rfl rfl rfl GC.t (V.geq (OV.g rfl id) (OV.p rfl)) rfl ?_
  refine WL.val (V.pickAnd (OV.p rfl) (OV.g rfl id)) rfl ?_
  refine WL.val (V.move (OV.p rfl)) rfl ?_
  refine WL.valG (oj := _) rfl rfl rfl GC.t (V.fieldAddr fo129_0 (OV.p rfl)) rfl ?_
  refine WL.valG (oj := _) rfl rfl rfl GC.t (V.load Tryz.isAgg3 (OV.g rfl id) (fun _ => by repeat (first | exact Rd.here rfl | apply Rd.up))) rfl ?_
  refine WL.valG (oj := _) rfl rfl rfl GC.t (V.lss (OV.g rfl id) (OV.p rfl)) rfl ?_
  refine WL.val (V.pickAnd (OV.p rfl) (OV.g rfl id)) rfl ?_
  refine WL.val (V.move (OV.p rfl)) rfl ?_
  refine WL.valG (oj := _) rfl rfl rfl GC.t (V.fieldAddr fo129_2 (OV.p rfl)) rfl ?_
  refine WL.valG (oj := _) rfl rfl rfl GC.t (V.load Tryz.isAgg3 (OV.g rfl id) (fun _ => by repeat (first | exact Rd.here rfl | apply Rd.up))) rfl ?_
  refine WL.valG (oj := _) rfl rfl rfl GC.t (V.geq (OV.g rfl id) (OV.p rfl)) rfl ?_
  refine WL.val (V.pickAnd (OV.p rfl) (OV.g rfl id)) rfl ?_
  refine WL.val (V.move (OV.p rfl)) rfl ?_
  refine WL.valG (oj := _) rfl rfl rfl GC.t (V.fieldAddr fo129_2 (OV.p rfl)) rfl ?_
  refine WL.valG (oj := _) rfl rfl rfl GC.t (V.load Tryz.isAgg3 (OV.g rfl id) (fun _ => by repeat (first | exact Rd.here rfl | apply Rd.up))) rfl ?_
  refine WL.valG (oj := _) rfl rfl rfl GC.t (V.leq (OV.g rfl id) (OV.p rfl)) rfl ?_
  refine WL.val (V.pickAnd (OV.p rfl) (OV.g rfl id)) rfl ?_
  refine WL.val (V.assign (OV.p rfl)) rfl ?_
  refine WL.nil ?_
  refine WC.ret ?_
  refine BodyQ.ret (H' := F) (Res.tmp rfl rfl) (fun w h => h.drop 2) ⟨?_, rfl⟩
  unfold Hd.may
  congr 1
  cases hf : g.fits h.len with
  | true => rw [hf] at he; rw [he]; rfl
  | false => rw [hf] at he; rw [he]; rfl
def le4v (n : Int) : List Value := [.int .u8 (IntKind.u8.wrap n), .int .u8 (IntKind.u8.wrap (n.fdiv (2 ^ (min (8 : Int).toNat IntKind.i64.bits)))), .int .u8 (IntKind.u8.wrap (n.fdiv (2 ^ (min (16 : Int).toNat IntKind.i64.bits)))), .int .u8 (IntKind.u8.wrap (n.fdiv (2 ^ (min (24 : Int).toNat IntKind.i64.bits))))]
theorem wrap8 (n : Int) : IntKind.u8.wrap n = n % 256 := by
  simp only [IntKind.wrap, IntKind.bits, IntKind.signed]; simp
theorem le4v_nats {n : Int} (h : 0 ≤ n) : le4v n = nats .u8 (le4 n) := by
  unfold le4v le4 nats
  rw [wrap8, wrap8, wrap8, wrap8, show (2 : Int) ^ (min (8 : Int).toNat IntKind.i64.bits) = 256 from rfl, show (2 : Int) ^ (min (16 : Int).toNat IntKind.i64.bits) = 65536 from rfl, show (2 : Int) ^ (min (24 : Int).toNat IntKind.i64.bits) = 16777216 from rfl,
    Int.fdiv_eq_ediv_of_nonneg _ (by decide), Int.fdiv_eq_ediv_of_nonneg _ (by decide), Int.fdiv_eq_ediv_of_nonneg _ (by decide)]
  simp only [List.map_cons, List.map_nil]
  congr 1
  · congr 1; omega
  congr 1
  · congr 1; omega
  congr 1
  · congr 1; omega
  congr 1
  congr 1; omega
theorem le4v_one (n : Int) : ∀ u ∈ le4v n, u.oneCell' = true := by unfold le4v; simp [Value.oneCell']
theorem head_lay {A B : Option Addr} {cs : List Value} {x y z : Int} (hs : Seq K F A 4 1 cs) (hq : Seq K F B 3 1 [.int .i64 x, .int .i64 y, .int .i64 z]) :
    Does Tryz.prog 173 #[.slice A 4 4, .slice B 3 3] K F (fun v H' => ∃ A' c', v = .slice A' 16 c' ∧ H' = SlA (.slice A' 16 c') 5 1 16 (cs ++ le4v x ++ le4v y ++ le4v z) :: F) := by
  have hsl := hs.len
  have rd : ∀ (i : Nat) v, [Value.int .i64 x, .int .i64 y, .int .i64 z][i]? = some v → Rd K F (B.map (·.add (i * 1))) v := fun i v hi => by rw [Nat.mul_one]; exact hq.rd i v hi
  refine Does.enter Tryz.func173 rfl Tryz.ntmps173 rfl ?_
  simp only [env0, Nat.reduceAdd]
  refine WC.sr ?_
  refine WL.val (V.assign (OV.p rfl)) rfl ?_
  refine WL.nil ?_
  refine WC.seq ?_
  refine WC.sr ?_
  refine WL.val (V.move (OV.p rfl)) rfl ?_
  refine WL.val (V.len (t := 42) Tryz.runUnderlying42 (OV.p rfl)) rfl ?_
  refine WL.val (V.move (OV.p rfl)) rfl ?_
  refine WL.nil ?_
  refine WC.block ?_
  refine WC.rounds 4 ?_
  refine WC.sr ?_
  refine WL.val (V.lss (OV.p rfl) (OV.p rfl)) rfl ?_
  refine WL.nil ?_
  refine WC.seq ?_
  refine WC.condT' rfl (by first | rfl | (simp; done) | (simp; omega)) ?_
  refine WC.skip ?_
  refine WC.seq ?_
  refine WC.block ?_
  refine WC.sr ?_
  refine WL.val (V.idxS st42 (OV.p rfl) (OV.p rfl) (fun _ => by decide) (fun _ => by first | exact rd 0 _ rfl | exact Rd.up (rd 1 _ rfl) | exact Rd.up (Rd.up (rd 1 _ rfl)) | exact Rd.up (Rd.up (rd 2 _ rfl)) | exact Rd.up (Rd.up (Rd.up (rd 2 _ rfl))) | exact Rd.up (Rd.up (Rd.up (Rd.up (rd 2 _ rfl)))))) rfl ?_
  refine WL.val (V.load Tryz.isAgg3 (OV.p rfl) (fun _ => by first | exact rd 0 _ rfl | exact Rd.up (rd 1 _ rfl) | exact Rd.up (Rd.up (rd 1 _ rfl)) | exact Rd.up (Rd.up (rd 2 _ rfl)) | exact Rd.up (Rd.up (Rd.up (rd 2 _ rfl))) | exact Rd.up (Rd.up (Rd.up (Rd.up (rd 2 _ rfl)))))) rfl ?_
  refine WL.val (V.assign (OV.p rfl)) rfl ?_
  refine WL.nil ?_
  refine WC.region ?_
  refine WL.val (V.move (OV.p rfl)) rfl ?_
  refine WL.val (V.move (OV.p rfl)) rfl ?_
  refine WL.val (V.convI Tryz.runUnderlying3 Tryz.runUnderlying5 (OV.p rfl)) rfl ?_
  refine WL.val (V.move (OV.p rfl)) rfl ?_
  refine WL.val (V.shr (OV.p rfl) (OV.p rfl) (by omega)) rfl ?_
  refine WL.val (V.convI Tryz.runUnderlying3 Tryz.runUnderlying5 (OV.p rfl)) rfl ?_
  refine WL.val (V.move (OV.p rfl)) rfl ?_
  refine WL.val (V.shr (OV.p rfl) (OV.p rfl) (by omega)) rfl ?_
  refine WL.val (V.convI Tryz.runUnderlying3 Tryz.runUnderlying5 (OV.p rfl)) rfl ?_
  refine WL.val (V.move (OV.p rfl)) rfl ?_
  refine WL.val (V.shr (OV.p rfl) (OV.p rfl) (by omega)) rfl ?_
  refine WL.val (V.convI Tryz.runUnderlying3 Tryz.runUnderlying5 (OV.p rfl)) rfl ?_
  refine WL.buildSlice (E := 5) (cs := [_, _, _, _]) (vs := [(0, _), (1, _), (2, _), (3, _)]) ⟨OV.p rfl, OV.p rfl, OV.p rfl, OV.p rfl, trivial⟩ rfl (bsl38_4_0_1_2_3 _ _ _ _) rfl (fun b25 => ?_)
  first
  | refine WL.appendNew (m := 4) (q := 4) (cs := cs) (news := le4v x) Tryz.underlying38 el5 (OV.p rfl) (OV.p rfl) (by repeat (first | exact hs | apply Seq.up)) (Seq.all rfl) (by decide) (by decide) (by decide) (by decide) rfl rfl (fun A1 c1 hA1 hc1 => ?_)
  | (refine WL.sub (Sub.refl _) (fun w h => h.sel 2 [1, 0] rfl) ?_
     refine WL.append (m := 8) (q := 4) (news := le4v y) Tryz.underlying38 el5 (OV.p rfl) (OV.p rfl) (Seq.all rfl) (le4v_one _) (by decide) rfl rfl (fun A2 c2 hA2 hc2 => ?_))
  | (refine WL.sub (Sub.refl _) (fun w h => h.sel 2 [1, 0] rfl) ?_
     refine WL.append (m := 12) (q := 4) (news := le4v z) Tryz.underlying38 el5 (OV.p rfl) (OV.p rfl) (Seq.all rfl) (le4v_one _) (by decide) rfl rfl (fun A3 c3 hA3 hc3 => ?_))
  refine WL.val (V.assign (OV.p rfl)) rfl ?_
  refine WL.nil ?_
  refine WC.region ?_
  refine WL.val (V.val_eq (v' := .int .i64 (1)) (V.add (OV.p rfl) (OV.p rfl)) (fun _ => rfl)) rfl ?_
  refine WL.val (V.move (OV.p rfl)) rfl ?_
  refine WL.nil ?_
  refine WC.sr ?_
  refine WL.val (V.lss (OV.p rfl) (OV.p rfl)) rfl ?_
  refine WL.nil ?_
  refine WC.seq ?_
  refine WC.condT' rfl (by first | rfl | (simp; done) | (simp; omega)) ?_
  refine WC.skip ?_
  refine WC.seq ?_
  refine WC.block ?_
  refine WC.sr ?_
  refine WL.val (V.idxS st42 (OV.p rfl) (OV.p rfl) (fun _ => by decide) (fun _ => by first | exact rd 0 _ rfl | exact Rd.up (rd 1 _ rfl) | exact Rd.up (Rd.up (rd 1 _ rfl)) | exact Rd.up (Rd.up (rd 2 _ rfl)) | exact Rd.up (Rd.up (Rd.up (rd 2 _ rfl))) | exact Rd.up (Rd.up (Rd.up (Rd.up (rd 2 _ rfl)))))) rfl ?_
  refine WL.val (V.load Tryz.isAgg3 (OV.p rfl) (fun _ => by first | exact rd 0 _ rfl | exact Rd.up (rd 1 _ rfl) | exact Rd.up (Rd.up (rd 1 _ rfl)) | exact Rd.up (Rd.up (rd 2 _ rfl)) | exact Rd.up (Rd.up (Rd.up (rd 2 _ rfl))) | exact Rd.up (Rd.up (Rd.up (Rd.up (rd 2 _ rfl)))))) rfl ?_
  refine WL.val (V.assign (OV.p rfl)) rfl ?_
  refine WL.nil ?_
  refine WC.region ?_
  refine WL.val (V.move (OV.p rfl)) rfl ?_
  refine WL.val (V.move (OV.p rfl)) rfl ?_
  refine WL.val (V.convI Tryz.runUnderlying3 Tryz.runUnderlying5 (OV.p rfl)) rfl ?_
  refine WL.val (V.move (OV.p rfl)) rfl ?_
  refine WL.val (V.shr (OV.p rfl) (OV.p rfl) (by omega)) rfl ?_
  refine WL.val (V.convI Tryz.runUnderlying3 Tryz.runUnderlying5 (OV.p rfl)) rfl ?_
  refine WL.val (V.move (OV.p rfl)) rfl ?_
  refine WL.val (V.shr (OV.p rfl) (OV.p rfl) (by omega)) rfl ?_
  refine WL.val (V.convI Tryz.runUnderlying3 Tryz.runUnderlying5 (OV.p rfl)) rfl ?_
  refine WL.val (V.move (OV.p rfl)) rfl ?_
  refine WL.val (V.shr (OV.p rfl) (OV.p rfl) (by omega)) rfl ?_
  refine WL.val (V.convI Tryz.runUnderlying3 Tryz.runUnderlying5 (OV.p rfl)) rfl ?_
  refine WL.buildSlice (E := 5) (cs := [_, _, _, _]) (vs := [(0, _), (1, _), (2, _), (3, _)]) ⟨OV.p rfl, OV.p rfl, OV.p rfl, OV.p rfl, trivial⟩ rfl (bsl38_4_0_1_2_3 _ _ _ _) rfl (fun b25 => ?_)
  first
  | refine WL.appendNew (m := 4) (q := 4) (cs := cs) (news := le4v x) Tryz.underlying38 el5 (OV.p rfl) (OV.p rfl) (by repeat (first | exact hs | apply Seq.up)) (Seq.all rfl) (by decide) (by decide) (by decide) (by decide) rfl rfl (fun A1 c1 hA1 hc1 => ?_)
  | (refine WL.sub (Sub.refl _) (fun w h => h.sel 2 [1, 0] rfl) ?_
     refine WL.append (m := 8) (q := 4) (news := le4v y) Tryz.underlying38 el5 (OV.p rfl) (OV.p rfl) (Seq.all rfl) (le4v_one _) (by decide) rfl rfl (fun A2 c2 hA2 hc2 => ?_))
  | (refine WL.sub (Sub.refl _) (fun w h => h.sel 2 [1, 0] rfl) ?_
     refine WL.append (m := 12) (q := 4) (news := le4v z) Tryz.underlying38 el5 (OV.p rfl) (OV.p rfl) (Seq.all rfl) (le4v_one _) (by decide) rfl rfl (fun A3 c3 hA3 hc3 => ?_))
  refine WL.val (V.assign (OV.p rfl)) rfl ?_
  refine WL.nil ?_
  refine WC.region ?_
  refine WL.val (V.val_eq (v' := .int .i64 (2)) (V.add (OV.p rfl) (OV.p rfl)) (fun _ => rfl)) rfl ?_
  refine WL.val (V.move (OV.p rfl)) rfl ?_
  refine WL.nil ?_
  refine WC.sr ?_
  refine WL.val (V.lss (OV.p rfl) (OV.p rfl)) rfl ?_
  refine WL.nil ?_
  refine WC.seq ?_
  refine WC.condT' rfl (by first | rfl | (simp; done) | (simp; omega)) ?_
  refine WC.skip ?_
  refine WC.seq ?_
  refine WC.block ?_
  refine WC.sr ?_
  refine WL.val (V.idxS st42 (OV.p rfl) (OV.p rfl) (fun _ => by decide) (fun _ => by first | exact rd 0 _ rfl | exact Rd.up (rd 1 _ rfl) | exact Rd.up (Rd.up (rd 1 _ rfl)) | exact Rd.up (Rd.up (rd 2 _ rfl)) | exact Rd.up (Rd.up (Rd.up (rd 2 _ rfl))) | exact Rd.up (Rd.up (Rd.up (Rd.up (rd 2 _ rfl)))))) rfl ?_
  refine WL.val (V.load Tryz.isAgg3 (OV.p rfl) (fun _ => by first | exact rd 0 _ rfl | exact Rd.up (rd 1 _ rfl) | exact Rd.up (Rd.up (rd 1 _ rfl)) | exact Rd.up (Rd.up (rd 2 _ rfl)) | exact Rd.up (Rd.up (Rd.up (rd 2 _ rfl))) | exact Rd.up (Rd.up (Rd.up (Rd.up (rd 2 _ rfl)))))) rfl ?_
  refine WL.val (V.assign (OV.p rfl)) rfl ?_
  refine WL.nil ?_
  refine WC.region ?_
  refine WL.val (V.move (OV.p rfl)) rfl ?_
  refine WL.val (V.move (OV.p rfl)) rfl ?_
  refine WL.val (V.convI Tryz.runUnderlying3 Tryz.runUnderlying5 (OV.p rfl)) rfl ?_
  refine WL.val (V.move (OV.p rfl)) rfl ?_
  refine WL.val (V.shr (OV.p rfl) (OV.p rfl) (by omega)) rfl ?_
  refine WL.val (V.convI Tryz.runUnderlying3 Tryz.runUnderlying5 (OV.p rfl)) rfl ?_
  refine WL.val (V.move (OV.p rfl)) rfl ?_
  refine WL.val (V.shr (OV.p rfl) (OV.p rfl) (by omega)) rfl ?_
  refine WL.val (V.convI Tryz.runUnderlying3 Tryz.runUnderlying5 (OV.p rfl)) rfl ?_
  refine WL.val (V.move (OV.p rfl)) rfl ?_
  refine WL.val (V.shr (OV.p rfl) (OV.p rfl) (by omega)) rfl ?_
  refine WL.val (V.convI Tryz.runUnderlying3 Tryz.runUnderlying5 (OV.p rfl)) rfl ?_
  refine WL.buildSlice (E := 5) (cs := [_, _, _, _]) (vs := [(0, _), (1, _), (2, _), (3, _)]) ⟨OV.p rfl, OV.p rfl, OV.p rfl, OV.p rfl, trivial⟩ rfl (bsl38_4_0_1_2_3 _ _ _ _) rfl (fun b25 => ?_)
  first
  | refine WL.appendNew (m := 4) (q := 4) (cs := cs) (news := le4v x) Tryz.underlying38 el5 (OV.p rfl) (OV.p rfl) (by repeat (first | exact hs | apply Seq.up)) (Seq.all rfl) (by decide) (by decide) (by decide) (by decide) rfl rfl (fun A1 c1 hA1 hc1 => ?_)
  | (refine WL.sub (Sub.refl _) (fun w h => h.sel 2 [1, 0] rfl) ?_
     refine WL.append (m := 8) (q := 4) (news := le4v y) Tryz.underlying38 el5 (OV.p rfl) (OV.p rfl) (Seq.all rfl) (le4v_one _) (by decide) rfl rfl (fun A2 c2 hA2 hc2 => ?_))
  | (refine WL.sub (Sub.refl _) (fun w h => h.sel 2 [1, 0] rfl) ?_
     refine WL.append (m := 12) (q := 4) (news := le4v z) Tryz.underlying38 el5 (OV.p rfl) (OV.p rfl) (Seq.all rfl) (le4v_one _) (by decide) rfl rfl (fun A3 c3 hA3 hc3 => ?_))
  refine WL.val (V.assign (OV.p rfl)) rfl ?_
  refine WL.nil ?_
  refine WC.region ?_
  refine WL.val (V.val_eq (v' := .int .i64 (3)) (V.add (OV.p rfl) (OV.p rfl)) (fun _ => rfl)) rfl ?_
  refine WL.val (V.move (OV.p rfl)) rfl ?_
  refine WL.nil ?_
  refine WC.sr ?_
  refine WL.val (V.lss (OV.p rfl) (OV.p rfl)) rfl ?_
  refine WL.nil ?_
  refine WC.seq ?_
  refine WC.condF' rfl (by first | rfl | (simp; done) | (simp; omega)) ?_
  refine WC.exit ?_
  refine WC.sr ?_
  refine WL.val (V.move (OV.p rfl)) rfl ?_
  refine WL.val (V.assign (OV.p rfl)) rfl ?_
  refine WL.nil ?_
  refine WC.ret ?_
  exact BodyQ.ret (H' := SlA (.slice A3 16 c3) _ 1 16 _ :: F) (Res.tmp rfl rfl) (fun w h => h.sel 4 [0] rfl) ⟨A3, c3, rfl, rfl⟩
end
end Go.Proofs.YtohkefolnmcjnaaGreat
/- The symbolic executor, sixteenth part: one of many entries; rows of structs. -/
namespace Go.Sl
open Go.RowKit Go.BigFrame
set_option linter.unusedVariables false
set_option linter.unusedSimpArgs false

theorem take_perm {α : Type} : ∀ (l : List α) (k : Nat) (hk : k < l.length), List.Perm (l[k] :: l.eraseIdx k) l
  | [], k, hk => absurd hk (Nat.not_lt_zero _)
  | a :: l, 0, _ => List.Perm.refl _
  | a :: l, k + 1, hk => (List.Perm.swap _ _ _).trans ((take_perm l k (Nat.lt_of_succ_lt_succ hk)).cons a)
theorem Sat.allTail {K w : World} {A : Assn} {l H : List Assn} (h : Sat K w (A :: (l ++ H))) : Sat K w (A :: AllA l :: H) :=
  ⟨h.1, h.2.1, h.2.2.1, fun b hb B hB => by
    rcases List.mem_cons.1 hB with rfl | hB
    · rintro ⟨C, hC, hf⟩; exact h.2.2.2.1 b hb C (List.mem_append_left _ hC) hf
    · exact h.2.2.2.1 b hb B (List.mem_append_right _ hB), SatL.all.2 h.2.tail⟩
theorem Sat.unallTail {K w : World} {A : Assn} {l H : List Assn} (h : Sat K w (A :: AllA l :: H)) : Sat K w (A :: (l ++ H)) :=
  ⟨h.1, h.2.1, h.2.2.1, fun b hb B hB => by
    rcases List.mem_append.1 hB with hB | hB
    · exact fun hf => h.2.2.2.1 b hb (AllA l) (.head _) ⟨B, hB, hf⟩
    · exact h.2.2.2.1 b hb B (.tail _ hB), SatL.all.1 h.2.tail⟩
theorem Sat.perm' {K w : World} {l l' : List Assn} (hp : List.Perm l l') (h : Sat K w l) : Sat K w l' := ⟨h.1, SatL.perm hp h.2⟩
/-- One of many, ahead of the others. -/
theorem Sat.takeA {K w : World} {l H : List Assn} {k : Nat} (hk : k < l.length) (h : Sat K w (AllA l :: H)) : Sat K w (l[k] :: AllA (l.eraseIdx k) :: H) :=
  Sat.allTail (Sat.perm' ((take_perm l k hk).symm.append_right H) h.unall)
theorem Sat.putA {K w : World} {l H : List Assn} {k : Nat} {A : Assn} (hk : k < l.length) (h : Sat K w (A :: AllA (l.eraseIdx k) :: H)) : Sat K w (AllA (l.set k A) :: H) := by
  have hk' : k < (l.set k A).length := by rw [List.length_set]; exact hk
  have hp := take_perm (l.set k A) k hk'
  rw [List.getElem_set_self, List.eraseIdx_set_eq] at hp
  exact Sat.all (Sat.perm' (hp.append_right H) h.unallTail)

/-! ### Rows of structs: each of s cells -/
section
variable {α : Type} {f : α → List Value} {s : Nat}
theorem flat_length (hf : ∀ x, (f x).length = s) : ∀ l : List α, (l.flatMap f).length = l.length * s
  | [] => by simp
  | x :: l => by rw [List.flatMap_cons, List.length_append, hf, flat_length hf l, List.length_cons, Nat.succ_mul, Nat.add_comm]
theorem flat_get (hf : ∀ x, (f x).length = s) : ∀ (l : List α) (k i : Nat) (x : α) (v : Value), l[k]? = some x → (f x)[i]? = some v → (l.flatMap f)[k * s + i]? = some v
  | [], k, i, x, v, h, _ => by simp at h
  | y :: l, 0, i, x, v, h, hi => by
    simp only [List.getElem?_cons_zero, Option.some.injEq] at h
    subst h
    rw [List.flatMap_cons, Nat.zero_mul, Nat.zero_add, List.getElem?_append_left (List.getElem?_eq_some_iff.1 hi).1]
    exact hi
  | y :: l, k + 1, i, x, v, h, hi => by
    have ih := flat_get hf l k i x v (by simpa using h) hi
    rw [List.flatMap_cons, List.getElem?_append_right (by rw [hf, Nat.succ_mul]; omega), hf, ← ih]
    congr 1
    rw [Nat.succ_mul]; omega
theorem flat_put (hf : ∀ x, (f x).length = s) : ∀ (l : List α) (k : Nat) (x y : α), l[k]? = some x → setL (l.flatMap f) (k * s) (f y) = (l.set k y).flatMap f := fun l k x y h => by
  have hk := (List.getElem?_eq_some_iff.1 h).1
  have h1 : (k + 1) * s ≤ l.length * s := Nat.mul_le_mul_right _ hk
  rw [Nat.succ_mul] at h1
  rw [setL_append _ _ _ (by rw [hf, flat_length hf]; exact h1), hf]
  have h2 : l.set k y = l.take k ++ y :: l.drop (k + 1) := List.set_eq_take_append_cons_drop .. |>.trans (by rw [if_pos hk])
  have h3 : ∀ j, j ≤ l.length → (l.flatMap f).take (j * s) = (l.take j).flatMap f ∧ (l.flatMap f).drop (j * s) = (l.drop j).flatMap f := fun j hj => by
    have e : l.flatMap f = (l.take j).flatMap f ++ (l.drop j).flatMap f := by rw [← List.flatMap_append, List.take_append_drop]
    have e2 : ((l.take j).flatMap f).length = j * s := by rw [flat_length hf, List.length_take, Nat.min_eq_left hj]
    rw [e]
    exact ⟨List.take_left' e2, List.drop_left' e2⟩
  rw [h2, List.flatMap_append, List.flatMap_cons, (h3 k (Nat.le_of_lt hk)).1, show k * s + s = (k + 1) * s by rw [Nat.succ_mul], (h3 (k + 1) hk).2, List.append_assoc]
end
end Go.Sl
/- slices.SortStableFunc at []api.Found: up to 20 ones (an insertion sort). -/
namespace Go.Sl
open Go.RowKit
section
variable {Mo : Mode} {P : Program} {K : World} {n : Nat} {Q : Post} {e : Env} {H : List Assn} {R : Env → Prop} {ty : TypeId} {pos : String} {af : Array Edge} {ops : Array Oper} {rest : List Oper}
theorem WQ.callGV {d j dj : Nat} {want : Bool} {oj : Oper} {f : FuncId} {y : Operand} {first captured : List Value} {xs : List Operand} {vs : List Value} {ats : Array TypeId} {v gv : Value} {c : Bool}
    (hj : ops[j]? = some oj) (hdj : oj.dst = some dj) (hl : look e dj = some gv) (hG : GC gv want c) (hf : Callable P f) (hy : OV c e y (.func (.func f) first.toArray captured.toArray)) (hxs : OVs c e xs vs) (hF : c = true → Tells P f (first ++ vs ++ captured).toArray K H v) (hd : Nat.blt d n = true)
    (h : WQ Mo P K n ops rest R ((d, cv c v) :: e) H) : WQ Mo P K n ops (⟨some d, .call ⟨.value y, xs.toArray, ats⟩, ty, pos, af, some (j, want)⟩ :: rest) R e H := fun a ha => by
  refine wpQuiet_step fun S hS => ?_
  rw [Region.wanted_iff (o := ⟨some d, .call ⟨.value y, xs.toArray, ats⟩, ty, pos, af, some (j, want)⟩) rfl hj hdj hl ha hG]
  cases c with
  | false => exact hS _ (h _ (ha.put d hd _))
  | true =>
    simp only [if_true]
    refine ⟨v, fun w hw => ?_, hS _ (h _ (ha.put d hd v))⟩
    unfold Oper.quietAt
    rw [run_callV hf (hy.ev rfl ha) (hxs.ev ha rfl)]
    exact ⟨rfl, (hF rfl).call hw⟩
theorem WQ.callV {d : Nat} {f : FuncId} {y : Operand} {first captured : List Value} {xs : List Operand} {vs : List Value} {ats : Array TypeId} {v : Value}
    (hf : Callable P f) (hy : OV true e y (.func (.func f) first.toArray captured.toArray)) (hxs : OVs true e xs vs) (hF : Tells P f (first ++ vs ++ captured).toArray K H v) (hd : Nat.blt d n = true)
    (h : WQ Mo P K n ops rest R ((d, v) :: e) H) : WQ Mo P K n ops (⟨some d, .call ⟨.value y, xs.toArray, ats⟩, ty, pos, af, none⟩ :: rest) R e H := fun a ha => by
  refine wpQuiet_step fun S hS => ?_
  simp only [Region.wanted, if_true]
  refine ⟨v, fun w hw => ?_, hS _ (h _ (ha.put d hd v))⟩
  unfold Oper.quietAt
  rw [run_callV hf (hy.ev rfl ha) (hxs.ev ha rfl)]
  exact ⟨rfl, hF.call hw⟩
end
theorem setL_app : ∀ (vs cs r : List Value) (o : Nat), o + vs.length ≤ cs.length → setL (cs ++ r) o vs = setL cs o vs ++ r
  | [], _, _, _, _ => rfl
  | v :: vs, cs, r, o, h => by
    rw [List.length_cons] at h
    show setL ((cs ++ r).set o v) (o + 1) vs = setL (cs.set o v) (o + 1) vs ++ r
    rw [List.set_append_left _ _ (by omega)]
    exact setL_app vs (cs.set o v) r (o + 1) (by rw [List.length_set]; omega)
end Go.Sl
namespace Go.Proofs.YtohkefolnmcjnaaGreat
open Go.Sl Go.RowKit
set_option linter.unusedVariables false
set_option linter.unusedSimpArgs false
set_option maxRecDepth 20000

structure Fd where
  block : Int
  hd : Hd
  whole : Bool
  deriving DecidableEq
abbrev Fd.cells (x : Fd) : List Value := [.int .i64 x.block, .int .i64 x.hd.leb, .int .i64 x.hd.len, .int .i64 x.hd.num, .bool x.whole]
abbrev Fd.v (x : Fd) : Value := .agg #[.int .i64 x.block, .int .i64 x.hd.leb, .int .i64 x.hd.len, .int .i64 x.hd.num, .bool x.whole]
theorem Fd.len (x : Fd) : x.cells.length = 5 := rfl
def fd0 : Fd := ⟨0, ⟨0, 0, 0⟩, false⟩
abbrev flatF (l : List Fd) : List Value := l.flatMap Fd.cells
theorem flatF_length (l : List Fd) : (flatF l).length = l.length * 5 := flat_length Fd.len l
theorem flatF_rds {b T : Nat} {l : List Fd} {r : List Value} {j : Nat} {K : World} {H : List Assn} (hj : j < l.length) : Rds K (Cells b T (flatF l ++ r) :: H) b (j * 5) (l.getD j fd0).cells := fun i v hi => by
  have hg : l[j]? = some (l.getD j fd0) := by simp [List.getD, hj]
  have h1 := flat_get (s := 5) Fd.len l j i _ v hg hi
  refine Rd.here ?_
  rw [List.getElem?_append_left (List.getElem?_eq_some_iff.1 h1).1]
  exact h1
theorem flatF_put {l : List Fd} {r : List Value} {j : Nat} (hj : j < l.length) (y : Fd) : setL (flatF l ++ r) (j * 5) y.cells = flatF (l.set j y) ++ r := by
  have hg : l[j]? = some (l.getD j fd0) := by simp [List.getD, hj]
  rw [setL_app _ _ _ _ (by rw [flatF_length, Fd.len]; omega), flat_put (s := 5) Fd.len l j _ y hg]
theorem flatF_upd {b T j o : Nat} {l : List Fd} {r : List Value} {y : Fd} {K : World} {H : List Assn} (hj : j < l.length) (ho : o = j * 5) : Upd K (Cells b T (flatF l ++ r) :: H) b o y.cells (Cells b T (flatF (l.set j y) ++ r) :: H) :=
  Upd.here (Nat.ble_eq_true_of_le (by rw [ho, List.length_append, flatF_length, Fd.len]; omega)) (by rw [ho]; exact flatF_put hj y)
theorem flatF_one (y : Fd) : y.cells.all (·.oneCell') = true := rfl
/-! ### The sort, plainly -/
section
variable (lt : Fd → Fd → Bool)
def bub (ys : List Fd) : Nat → List Fd
  | 0 => ys
  | j + 1 => if lt (ys.getD (j + 1) fd0) (ys.getD j fd0) then bub ((ys.set (j + 1) (ys.getD j fd0)).set j (ys.getD (j + 1) fd0)) j else ys
def isTo (ys : List Fd) : Nat → List Fd
  | 0 => ys
  | i + 1 => bub lt (isTo ys i) i
/-- Into a falling list. -/
def insF : List Fd → Fd → List Fd
  | [], x => [x]
  | y :: q, x => if lt x y then y :: insF q x else x :: y :: q
def isort (ys : List Fd) : List Fd := (ys.foldl (insF lt) []).reverse
end
section
variable {lt : Fd → Fd → Bool}
theorem bub_length : ∀ (j : Nat) (ys : List Fd), (bub lt ys j).length = ys.length
  | 0, _ => rfl
  | j + 1, ys => by
    rw [bub]; split
    · rw [bub_length j]; simp
    · rfl
theorem isTo_length (ys : List Fd) : ∀ i, (isTo lt ys i).length = ys.length
  | 0 => rfl
  | i + 1 => by rw [isTo, bub_length, isTo_length]
theorem bub_ins : ∀ (q : List Fd) (x : Fd) (r : List Fd), bub lt (q.reverse ++ x :: r) q.length = (insF lt q x).reverse ++ r
  | [], x, r => rfl
  | y :: q, x, r => by
    rw [List.length_cons, bub, insF]
    have hq : q.reverse.length = q.length := List.length_reverse
    have e1 : ((y :: q).reverse ++ x :: r).getD (q.length + 1) fd0 = x := by
      rw [List.reverse_cons, List.append_assoc, List.getD, List.getElem?_append_right (by omega), hq]; simp
    have e2 : ((y :: q).reverse ++ x :: r).getD q.length fd0 = y := by
      rw [List.reverse_cons, List.append_assoc, List.getD, List.getElem?_append_right (by omega), hq]; simp
    rw [e1, e2]
    split
    · have e3 : (((y :: q).reverse ++ x :: r).set (q.length + 1) y).set q.length x = q.reverse ++ x :: (y :: r) := by
        rw [List.reverse_cons, List.append_assoc, List.set_append_right _ _ (by omega), List.set_append_right _ _ (by omega), hq]; simp
      rw [e3, bub_ins q x (y :: r), List.reverse_cons, List.append_assoc]; rfl
    · rw [List.reverse_cons, List.reverse_cons]; simp
theorem isTo_ins (ys : List Fd) : ∀ i, i ≤ ys.length → isTo lt ys i = ((ys.take i).foldl (insF lt) []).reverse ++ ys.drop i ∧ ((ys.take i).foldl (insF lt) []).length = i
  | 0, _ => ⟨by simp [isTo], rfl⟩
  | i + 1, h => by
    obtain ⟨ih, il⟩ := isTo_ins ys i (by omega)
    have hlen : ∀ (q : List Fd) (x : Fd), (insF lt q x).length = q.length + 1 := fun q x => by
      induction q with
      | nil => rfl
      | cons y q ih => rw [insF]; split <;> simp [ih]
    have ht : ys.take (i + 1) = ys.take i ++ [ys[i]'(by omega)] := by rw [List.take_add_one, List.getElem?_eq_getElem (by omega)]; rfl
    have hd : ys.drop i = ys[i]'(by omega) :: ys.drop (i + 1) := List.drop_eq_getElem_cons (by omega)
    have hb := bub_ins (lt := lt) ((ys.take i).foldl (insF lt) []) (ys[i]'(by omega)) (ys.drop (i + 1))
    rw [il, ← hd] at hb
    rw [isTo, ih, hb, ht, List.foldl_append]
    exact ⟨rfl, by show (insF lt _ _).length = _; rw [hlen, il]⟩
theorem isTo_sort (ys : List Fd) : isTo lt ys ys.length = isort lt ys := by
  rw [(isTo_ins ys ys.length (Nat.le_refl _)).1, List.take_length, List.drop_length, List.append_nil]; rfl
theorem isort_length (ys : List Fd) : (isort lt ys).length = ys.length := by rw [← isTo_sort, isTo_length]
theorem insF_perm : ∀ (q : List Fd) (x : Fd), List.Perm (insF lt q x) (x :: q)
  | [], x => List.Perm.refl _
  | y :: q, x => by
    rw [insF]; split
    · exact (List.Perm.cons y (insF_perm q x)).trans (List.Perm.swap x y q)
    · exact List.Perm.refl _
theorem foldl_perm : ∀ (ys q : List Fd), List.Perm (ys.foldl (insF lt) q) (ys ++ q)
  | [], q => List.Perm.refl _
  | x :: ys, q => by
    rw [List.foldl_cons]
    refine (foldl_perm ys (insF lt q x)).trans ?_
    refine (List.Perm.append_left ys (insF_perm q x)).trans ?_
    exact List.perm_middle
theorem isort_perm (ys : List Fd) : List.Perm (isort lt ys) ys := by
  unfold isort
  refine (List.reverse_perm _).trans ?_
  have := foldl_perm (lt := lt) ys []
  rwa [List.append_nil] at this
theorem mem_isort {ys : List Fd} {x : Fd} : x ∈ isort lt ys ↔ x ∈ ys := (isort_perm ys).mem_iff
/-- Rising, where 'less' is an order. -/
theorem insF_sorted (htr : ∀ a b c, lt a b = false → lt b c = false → lt a c = false) (has : ∀ a b, lt a b = true → lt b a = false) : ∀ (q : List Fd) (x : Fd), q.Pairwise (fun a b => lt a b = false) → (insF lt q x).Pairwise (fun a b => lt a b = false)
  | [], x, _ => List.pairwise_singleton _ _
  | y :: q, x, h => by
    have hp := List.pairwise_cons.1 h
    rw [insF]
    by_cases hx : lt x y = true
    · rw [if_pos hx]
      refine List.pairwise_cons.2 ⟨fun z hz => ?_, insF_sorted htr has q x hp.2⟩
      rcases List.mem_cons.1 ((insF_perm q x).mem_iff.1 hz) with rfl | hz
      · exact has _ _ hx
      · exact hp.1 z hz
    · rw [if_neg hx]
      have hx' : lt x y = false := by simpa using hx
      refine List.pairwise_cons.2 ⟨fun z hz => ?_, h⟩
      rcases List.mem_cons.1 hz with rfl | hz
      · exact hx'
      · exact htr _ _ _ hx' (hp.1 z hz)
theorem foldl_sorted (htr : ∀ a b c, lt a b = false → lt b c = false → lt a c = false) (has : ∀ a b, lt a b = true → lt b a = false) : ∀ (ys q : List Fd), q.Pairwise (fun a b => lt a b = false) → (ys.foldl (insF lt) q).Pairwise (fun a b => lt a b = false)
  | [], _, h => h
  | x :: ys, q, h => foldl_sorted htr has ys _ (insF_sorted htr has q x h)
theorem isort_sorted (htr : ∀ a b c, lt a b = false → lt b c = false → lt a c = false) (has : ∀ a b, lt a b = true → lt b a = false) (ys : List Fd) : (isort lt ys).Pairwise (fun a b => lt b a = false) := by
  unfold isort
  rw [List.pairwise_reverse]
  exact foldl_sorted htr has ys [] List.Pairwise.nil
end
/-! ### Walks -/
/-- A way to compare, in code. -/
def CmpIs (f : Nat) (c : Fd → Fd → Int) : Prop := Callable Tryz.prog f ∧ ∀ (K : World) (F : List Assn) (x y : Fd), Tells Tryz.prog f #[x.v, y.v] K F (.int .i64 (c x y))
section
variable {K : World} {F : List Assn}
theorem insertion_found {f : Nat} {c : Fd → Fd → Int} (hf : CmpIs f c) {b m cap : Nat} {ys : List Fd} {r : List Value} (hm : ys.length = m) (hb : m ≤ 1000000) :
    Does Tryz.prog 197 #[.slice (some ⟨b, 0, none⟩) m cap, .int .i64 0, .int .i64 (m : Int), .func (.func f) #[] #[]] K (Cells b 167 (flatF ys ++ r) :: F)
      (fun v H' => H' = Cells b 167 (flatF (isort (fun x y => decide (c x y < 0)) ys) ++ r) :: F) := by
  obtain ⟨lt, hlt⟩ : ∃ lt : Fd → Fd → Bool, lt = fun x y => decide (c x y < 0) := ⟨_, rfl⟩
  rw [← hlt]
  refine Does.enter Tryz.func197 rfl Tryz.ntmps197 rfl ?_
  simp only [env0, Nat.reduceAdd]
  refine WC.sr ?_
  refine WL.val (V.move (OV.p rfl)) rfl ?_
  refine WL.val (V.addI (OV.p rfl) (OV.p rfl) (fun hc => by first | omega | (simp at hc; omega))) rfl ?_
  refine WL.val (V.assign (OV.p rfl)) rfl ?_
  refine WL.nil ?_
  refine WC.block ?_
  refine WC.loop (σ := Nat) (fun i => [(0, .slice (some ⟨b, 0, none⟩) m cap), (1, .int .i64 0), (2, .int .i64 (m : Int)), (3, .func (.func f) #[] #[]), (8, .int .i64 (i : Int))]) (fun i => Cells b 167 (flatF (isTo lt ys i) ++ r) :: F) (fun i => 1 ≤ i ∧ (i = 1 ∨ i ≤ m)) (fun i => m + 1 - i) 1 ⟨Nat.le_refl _, .inl rfl⟩ (.cons rfl (.cons rfl (.cons rfl (.cons rfl (.cons rfl (.nil _)))))) (fun w h => h) ?_
  rintro i ⟨hi1, him⟩
  refine WC.seq ?_
  refine WC.sr ?_
  refine WL.val (V.move (OV.p rfl)) rfl ?_
  refine WL.val (V.move (OV.p rfl)) rfl ?_
  refine WL.val (V.lss (OV.p rfl) (OV.p rfl)) rfl ?_
  refine WL.nil ?_
  refine WC.cond rfl (fun hc0 => ?_) (fun hc0 => ?_)
  ·simp only [decide_eq_true_eq, decide_eq_false_iff_not] at hc0
   have hi2 : i < m := by omega
   refine WC.skip ?_
   refine WC.seq ?_
   refine WC.block ?_
   refine WC.sr ?_
   refine WL.val (V.move (OV.p rfl)) rfl ?_
   refine WL.val (V.assign (OV.p rfl)) rfl ?_
   refine WL.nil ?_
   refine WC.block ?_
   refine WC.loop (σ := Nat × List Fd) (fun s => [(0, .slice (some ⟨b, 0, none⟩) m cap), (1, .int .i64 0), (2, .int .i64 (m : Int)), (3, .func (.func f) #[] #[]), (8, .int .i64 (i : Int)), (9, .int .i64 (s.1 : Int))]) (fun s => Cells b 167 (flatF s.2 ++ r) :: F) (fun s => s.1 ≤ i ∧ s.2.length = m ∧ bub lt s.2 s.1 = isTo lt ys (i + 1)) (fun s => s.1) (i, isTo lt ys i) ⟨Nat.le_refl _, by rw [isTo_length, hm], rfl⟩ (.cons rfl (.cons rfl (.cons rfl (.cons rfl (.cons rfl (.cons rfl (.nil _))))))) (fun w h => h) ?_
   rintro ⟨j, zs⟩ ⟨hji, hzl, hzb⟩
   dsimp only at hji hzl hzb ⊢
   obtain ⟨za, hza⟩ : ∃ za, za = zs.getD j fd0 := ⟨_, rfl⟩
   obtain ⟨zb, hzb'⟩ : ∃ zb, zb = zs.getD (j - 1) fd0 := ⟨_, rfl⟩
   have hja : Rds K (Cells b 167 (flatF zs ++ r) :: F) b (0 + (j : Int).toNat * 5) za.cells := by
     rw [show 0 + (j : Int).toNat * 5 = j * 5 by omega, hza]; exact flatF_rds (by omega)
   have hjb : j ≠ 0 → Rds K (Cells b 167 (flatF zs ++ r) :: F) b (0 + ((j : Int) - 1).toNat * 5) zb.cells := fun h0 => by
     rw [show 0 + ((j : Int) - 1).toNat * 5 = (j - 1) * 5 by omega, hzb']; exact flatF_rds (by omega)
   refine WC.seq ?_
   refine WC.seq ?_
   refine WC.regionQ (by kernel_rfl) (by kernel_rfl) ?_
   refine WQ.val (V.move (OV.p rfl)) rfl ?_
   refine WQ.val (V.move (OV.p rfl)) rfl ?_
   refine WQ.val (V.gtr (OV.p rfl) (OV.p rfl)) rfl ?_
   refine WQ.val (V.move (OV.p rfl)) rfl ?_
   refine WQ.valG (oj := _) rfl rfl rfl GC.t (V.move (OV.p rfl)) rfl ?_
   refine WQ.valG (oj := _) rfl rfl rfl GC.t (V.move (OV.p rfl)) rfl ?_
   refine WQ.valG (oj := _) rfl rfl rfl GC.t (V.move (OV.p rfl)) rfl ?_
   refine WQ.valG (oj := _) rfl rfl rfl GC.t (V.idxB st133 (OV.g rfl id) (OV.g rfl id) (fun hc => by omega)) rfl ?_
   refine WQ.valG (oj := _) rfl rfl rfl GC.t (V.loadA (vs := za.cells) ⟨Tryz.isAgg167, Tryz.sizeOf167⟩ (OV.g rfl id) rfl (fun _ => hja)) rfl ?_
   refine WQ.valG (oj := _) rfl rfl rfl GC.t (V.move (OV.p rfl)) rfl ?_
   refine WQ.valG (oj := _) rfl rfl rfl GC.t (V.move (OV.p rfl)) rfl ?_
   refine WQ.valG (oj := _) rfl rfl rfl GC.t (V.subI (OV.g rfl id) (OV.p rfl) (fun hc => by first | omega | (simp at hc; omega))) rfl ?_
   refine WQ.valG (oj := _) rfl rfl rfl GC.t (V.idxB st133 (OV.g rfl id) (OV.g rfl id) (fun hc => by simp at hc; omega)) rfl ?_
   refine WQ.valG (oj := _) rfl rfl rfl GC.t (V.loadA (vs := zb.cells) ⟨Tryz.isAgg167, Tryz.sizeOf167⟩ (OV.g rfl id) rfl (fun hc => hjb (by simp at hc; omega))) rfl ?_
   refine WQ.callGV (oj := _) (first := []) (vs := [_, _]) (captured := []) rfl rfl rfl GC.t hf.1 (OV.g rfl id) ⟨OV.g rfl id, OV.g rfl id, trivial⟩ (fun _ => hf.2 _ _ za zb) rfl ?_
   refine WQ.valG (oj := _) rfl rfl rfl GC.t (V.lss (OV.g rfl id) (OV.p rfl)) rfl ?_
   refine WQ.val (V.pickAnd (OV.p rfl) (OV.g rfl id)) rfl ?_
   refine WQ.nil ?_
   refine WC.cond rfl (fun hc1 => ?_) (fun hc1 => ?_)
   ·simp only [Bool.and_eq_true, Bool.and_eq_false_iff, decide_eq_true_eq, decide_eq_false_iff_not] at hc1
    have h1 := hc1
    obtain ⟨j', rfl⟩ : ∃ j', j = j' + 1 := ⟨j - 1, by omega⟩
    rw [Nat.add_sub_cancel] at hzb'
    have hltj : lt za zb = true := by rw [hlt]; exact decide_eq_true h1.2
    rw [bub, ← hza, ← hzb', if_pos hltj] at hzb
    have hjb' := hjb (by omega)
    refine WC.skip ?_
    refine WC.seq ?_
    refine WC.block ?_
    refine WC.regionA F (by kernel_rfl) ?_
    refine WA.t 0 rfl (V.move (OV.p rfl)) ?_
    refine WA.t 1 rfl (V.move (OV.p rfl)) ?_
    refine WA.t 2 rfl (V.move (OV.p rfl)) ?_
    refine WA.t 3 rfl (V.move (OV.p rfl)) ?_
    refine WA.t 4 rfl (V.subI (OV.p rfl) (OV.p rfl) (fun hc => by first | omega | (simp at hc; omega))) ?_
    refine WA.t 5 rfl (V.move (OV.p rfl)) ?_
    refine WA.t 6 rfl (V.move (OV.p rfl)) ?_
    refine WA.t 7 rfl (V.subI (OV.p rfl) (OV.p rfl) (fun hc => by first | omega | (simp at hc; omega))) ?_
    refine WA.t 8 rfl (V.idxB st133 (OV.p rfl) (OV.p rfl) (fun hc => by omega)) ?_
    refine WA.t 10 rfl (V.move (OV.p rfl)) ?_
    refine WA.t 11 rfl (V.move (OV.p rfl)) ?_
    refine WA.t 12 rfl (V.idxB st133 (OV.p rfl) (OV.p rfl) (fun hc => by omega)) ?_
    refine WA.two (i := 9) (j := 13) (fun w h => by repeat (first | exact h | replace h := h.tail)) (by kernel_rfl) rfl rfl ?_ ?_
    ·refine WL.val (V.loadA (vs := zb.cells) ⟨Tryz.isAgg167, Tryz.sizeOf167⟩ (OV.p rfl) rfl (fun _ => hjb')) rfl ?_
     refine WL.nil ?_
     refine WA.o 13 rfl ?_
     refine WL.val (V.loadA (vs := za.cells) ⟨Tryz.isAgg167, Tryz.sizeOf167⟩ (OV.p rfl) rfl (fun _ => hja)) rfl ?_
     refine WL.nil ?_
     refine WA.t 14 rfl (V.idxB st133 (OV.p rfl) (OV.p rfl) (fun hc => by omega)) ?_
     refine WA.o 15 rfl ?_
     refine WL.store (cs := zb.cells) Tryz.sizeOf167 (OV.p rfl) (OV.p rfl) rfl rfl rfl (flatF_upd (j := j' + 1) (y := zb) (by omega) (by omega)) ?_
     refine WL.nil ?_
     refine WA.t 16 rfl (V.idxB st133 (OV.p rfl) (OV.p rfl) (fun hc => by omega)) ?_
     refine WA.o 17 rfl ?_
     refine WL.store (cs := za.cells) Tryz.sizeOf167 (OV.p rfl) (OV.p rfl) rfl rfl rfl (flatF_upd (j := j') (y := za) (by rw [List.length_set]; omega) (by omega)) ?_
     refine WL.nil ?_
     refine WA.fin ?_
     refine WC.region ?_
     refine WL.val (V.move (OV.p rfl)) rfl ?_
     refine WL.val (V.subI (OV.p rfl) (OV.p rfl) (fun hc => by first | omega | (simp at hc; omega))) rfl ?_
     refine WL.val (V.assign (OV.p rfl)) rfl ?_
     refine WL.nil ?_
     refine ⟨rfl, ?_⟩
     exact ⟨(j', (zs.set (j' + 1) zb).set j' za), ⟨by show j' ≤ i; omega, by show ((zs.set _ _).set _ _).length = m; simp [hzl], hzb⟩, Nat.lt_succ_self _, .cons rfl (.cons rfl (.cons rfl (.cons rfl (.cons rfl (.cons (look_eq rfl (by simp)) (.nil _)))))), fun w h => h⟩
    ·refine WL.val (V.loadA (vs := za.cells) ⟨Tryz.isAgg167, Tryz.sizeOf167⟩ (OV.p rfl) rfl (fun _ => hja)) rfl ?_
     refine WL.nil ?_
     refine WA.o 9 rfl ?_
     refine WL.val (V.loadA (vs := zb.cells) ⟨Tryz.isAgg167, Tryz.sizeOf167⟩ (OV.p rfl) rfl (fun _ => hjb')) rfl ?_
     refine WL.nil ?_
     refine WA.t 14 rfl (V.idxB st133 (OV.p rfl) (OV.p rfl) (fun hc => by omega)) ?_
     refine WA.o 15 rfl ?_
     refine WL.store (cs := zb.cells) Tryz.sizeOf167 (OV.p rfl) (OV.p rfl) rfl rfl rfl (flatF_upd (j := j' + 1) (y := zb) (by omega) (by omega)) ?_
     refine WL.nil ?_
     refine WA.t 16 rfl (V.idxB st133 (OV.p rfl) (OV.p rfl) (fun hc => by omega)) ?_
     refine WA.o 17 rfl ?_
     refine WL.store (cs := za.cells) Tryz.sizeOf167 (OV.p rfl) (OV.p rfl) rfl rfl rfl (flatF_upd (j := j') (y := za) (by rw [List.length_set]; omega) (by omega)) ?_
     refine WL.nil ?_
     refine WA.fin ?_
     refine WC.region ?_
     refine WL.val (V.move (OV.p rfl)) rfl ?_
     refine WL.val (V.subI (OV.p rfl) (OV.p rfl) (fun hc => by first | omega | (simp at hc; omega))) rfl ?_
     refine WL.val (V.assign (OV.p rfl)) rfl ?_
     refine WL.nil ?_
     refine ⟨rfl, ?_⟩
     exact ⟨(j', (zs.set (j' + 1) zb).set j' za), ⟨by show j' ≤ i; omega, by show ((zs.set _ _).set _ _).length = m; simp [hzl], hzb⟩, Nat.lt_succ_self _, .cons rfl (.cons rfl (.cons rfl (.cons rfl (.cons rfl (.cons (look_eq rfl (by simp)) (.nil _)))))), fun w h => h⟩
   ·simp only [Bool.and_eq_true, Bool.and_eq_false_iff, decide_eq_true_eq, decide_eq_false_iff_not] at hc1
    have h1 := hc1
    have hdone : isTo lt ys (i + 1) = zs := by
      rw [← hzb]
      cases j with
      | zero => rfl
      | succ j' =>
        rw [Nat.add_sub_cancel] at hzb'
        have hltj : lt za zb = false := by
          rw [hlt]
          rcases h1 with h | h
          · omega
          · exact decide_eq_false h
        rw [bub, ← hza, ← hzb', if_neg (by rw [hltj]; decide)]
    refine WC.exit ?_
    refine WC.region ?_
    refine WL.val (V.move (OV.p rfl)) rfl ?_
    refine WL.val (V.addI (OV.p rfl) (OV.p rfl) (fun hc => by first | omega | (simp at hc; omega))) rfl ?_
    refine WL.val (V.assign (OV.p rfl)) rfl ?_
    refine WL.nil ?_
    refine ⟨rfl, ?_⟩
    exact ⟨i + 1, ⟨by show 1 ≤ i + 1; omega, .inr hi2⟩, (by show m + 1 - (i + 1) < m + 1 - i; omega), .cons rfl (.cons rfl (.cons rfl (.cons rfl (.cons (look_eq rfl (by simp)) (.nil _))))), fun w h => Sat.cells_eq h (by rw [hdone])⟩
  ·simp only [decide_eq_true_eq, decide_eq_false_iff_not] at hc0
   refine WC.exit ?_
   have hfin : isTo lt ys i = isort lt ys := by
     rw [← isTo_sort, hm]
     rcases Nat.eq_zero_or_pos m with h0 | h0
     · have : ys = [] := List.eq_nil_of_length_eq_zero (by omega)
       subst this
       have key : ∀ k, isTo lt [] k = [] := fun k => List.eq_nil_of_length_eq_zero (by rw [isTo_length]; rfl)
       rw [key, key]
     · obtain rfl : i = m := by omega
       rfl
   exact BodyQ.normal (H' := Cells b _ _ :: F) (Res.none rfl) (fun w h => Sat.cells_eq h (by rw [hfin])) rfl
end
end Go.Proofs.YtohkefolnmcjnaaGreat
