import Derived.Test.YtcmojpiokjhmhaaGreatP16
import Derived.Test.YtcmojpiokjhmhaaGreatP15
import Derived.Test.YtcmojpiokjhmhaaGreatP4
namespace Go.Proofs.YtcmojpiokjhmhaaGreat
open Go.Sl Go.RowKit
set_option linter.unusedVariables false
set_option linter.unusedSimpArgs false
set_option maxRecDepth 20000
namespace ah
theorem JC (S : ah) (b p : Int) (xs : List Int) : (S.program b p xs).1.g = S.g := by unfold program; repeat (first | rfl | split)
theorem N7 (S : ah) (b : Int) : (S.erase b).1.g = S.g := by unfold erase; repeat (first | rfl | split)
theorem Kz (S : ah) (b : Int) : (S.mark b).1.g = S.g := by
  unfold mark all
  repeat (first | rfl | split)
theorem KF (b : Int) (x : ah × Int) : (done b x).1.g = x.1.g := by
  unfold done
  split
  · rfl
  · split
    · exact Kz _ _
    · exact Kz _ _
theorem MK (S : ah) (b p : Int) (d : List Nat) : (S.bO b p d).1.g = S.g := by
  unfold bO
  split
  · rfl
  · rw [KF, JC]
theorem Ms (S : ah) (b : Int) : (S.aM b).1.g = S.g := by
  unfold aM
  split
  · rfl
  · rw [KF, N7]
end ah
theorem Cw.Oj {C C' : Cw} {S : ah} (h : C'.sem = S) (hg : S.g = C.sem.g) : C'.g = C.g := by
  have : C'.sem.g = C.sem.g := by rw [h, hg]
  exact this
section
variable {bc bd : Nat} {C : Cw} {g : Geo} {K : World} {F : List ak}
theorem Ee (hC : C.Ok) (hg : C.g = g) (b p : Int) {A : Option Addr} {m cap : Nat} {d : List Nat} (hd : Seq K F A m 1 (aA .u8 d)) (h8 : Small 256 d) (hmc : m ≤ cap) (hm : m ≤ 1000000) :
    Does Tryz.prog 86 #[ptr bd 0, .int .i64 b, .int .i64 p, .slice A m cap] K (C.A bc :: bK bd bc g :: F)
    (fun v H' => ∃ C' : Cw, C'.Ok ∧ C'.g = g ∧ H' = C'.A bc :: bK bd bc g :: F ∧ C'.sem = (C.sem.bO b p d).1 ∧ v = .int .i64 (C.sem.bO b p d).2) := by
  subst hg
  exact (FQ hC b p hd h8 hmc hm).mono fun v H' ⟨C', h1, h2, h3, h4⟩ => ⟨C', h1, Cw.Oj h3 (ah.MK _ _ _ _), h2, h3, h4⟩
theorem uY (hC : C.Ok) (hg : C.g = g) (b : Int) : Does Tryz.prog 58 #[ptr bd 0, .int .i64 b] K (C.A bc :: bK bd bc g :: F)
    (fun v H' => ∃ C' : Cw, C'.Ok ∧ C'.g = g ∧ H' = C'.A bc :: bK bd bc g :: F ∧ C'.sem = (C.sem.aM b).1 ∧ v = .int .i64 (C.sem.aM b).2) := by
  subst hg
  exact (Fg hC b).mono fun v H' ⟨C', h1, h2, h3, h4⟩ => ⟨C', h1, Cw.Oj h3 (ah.Ms _ _), h2, h3, h4⟩
theorem qF (hC : C.Ok) (hg : C.g = g) (b p : Int) : Does Tryz.prog 70 #[ptr bd 0, .int .i64 b, .int .i64 p] K (C.A bc :: bK bd bc g :: F)
    (fun v H' => ∃ A' c', v = .tuple #[.slice A' (C.sem.aY b p).d.length c', .int .i64 ((C.sem.aY b p).n : Nat), .int .i64 (C.sem.aY b p).err] ∧
      H' = aU (.slice A' (C.sem.aY b p).d.length c') 5 1 (C.sem.aY b p).d.length (aA .u8 (C.sem.aY b p).d) :: C.A bc :: bK bd bc g :: F) := by
  subst hg
  exact Gt hC b p
theorem oh (hC : C.Ok) (hg : C.g = g) (b n : Int) (hn : -9223372036854775808 ≤ n ∧ n ≤ 9223372036854775807) : aL Tryz.prog 88 #[ptr bd 0, .int .i64 b, .int .i64 n] K (C.A bc :: bK bd bc g :: F) (.tuple #[.bool (C.sem.jC b n).1, .int .i64 (C.sem.jC b n).2]) := by
  subst hg
  exact Ev hC b n hn
theorem xM (hC : C.Ok) (hg : C.g = g) : Does Tryz.prog 82 #[ptr bd 0] K (C.A bc :: bK bd bc g :: F)
    (fun v H' => ∃ A' c', v = .slice A' C.sem.good.length c' ∧ H' = aU (.slice A' C.sem.good.length c') 3 1 C.sem.good.length (ints .i64 C.sem.good) :: C.A bc :: bK bd bc g :: F) := by
  subst hg
  exact Io hC
theorem Gz (hC : C.Ok) (hg : C.g = g) : Does Tryz.prog 48 #[ptr bc 0] K (C.A bc :: F) (fun v H' => ∃ bd, v = .tuple #[ptr bd 0, .int .i64 0] ∧ H' = C.A bc :: bK bd bc g :: F) := by
  subst hg
  exact Jh hC
end
namespace ah
theorem kU {S : ah} (h : S.left = 0) : S.deed = S := by
  unfold deed cut
  rw [h]
  obtain ⟨a, b, c, d, e, f, g, up, l, k⟩ := S
  dsimp only at h
  subst h
  simp
theorem Di {S : ah} {b p : Int} (h : 0 ≤ b ∧ b < S.g.bl ∧ 0 ≤ p ∧ p < S.g.pg) : S.page b p = true := by
  unfold page block
  simp; omega
theorem vg {S : ah} {b : Int} (h : 0 ≤ b ∧ b < S.g.bl) : S.block b = true := by
  unfold block
  simp; omega
theorem qP {S : ah} {b p : Int} (hu : S.up = true) (h : 0 ≤ b ∧ b < S.g.bl ∧ 0 ≤ p ∧ p < S.g.pg) (hm : S.marked b = false) : S.ahead b p true = 0 := by
  unfold ahead bad
  rw [if_neg (by rw [hu]; decide), if_neg (fun hh => by rcases hh with h | h | h | h | h <;> first | omega | cases h), hm, Bool.and_false, if_neg (by decide)]
theorem Cn {S : ah} {b p : Int} (hu : S.up = true) (h : 0 ≤ b ∧ b < S.g.bl ∧ 0 ≤ p ∧ p < S.g.pg) (hm : S.marked b = true) : S.ahead b p true = 73 := by
  unfold ahead bad
  rw [if_neg (by rw [hu]; decide), if_neg (fun hh => by rcases hh with h | h | h | h | h <;> first | omega | cases h), hm, hu, if_pos (by decide)]
section
variable {S : ah} {b p : Int} {d : List Nat}
theorem LV (hg : S.g.aD) (h8 : Small 256 d) (hl : d.length = S.room) : ((aZ (dw S.g d)).length : Int) = S.raw := by
  have hN := qM.of (bl := S.g.bl) (pg := S.g.pg) (by rw [← iG hg]; exact hg)
  unfold dw aZ
  rw [List.length_map, nQ hN.t h8 hl]
  exact (Geo.nP hg).symm
theorem FK (hu : S.up = true) (h : 0 ≤ b ∧ b < S.g.bl ∧ 0 ≤ p ∧ p < S.g.pg) (hm : S.marked b = false) (hl : d.length = S.room) : S.bO b p d = done b (S.program b p (aZ (dw S.g d))) := by
  have e : decide (d.length = S.room) = true := decide_eq_true hl
  unfold bO
  rw [e, if_neg (by rw [qP hu h hm]; decide)]
theorem BR {xs : List Nat} (hp : S.pages (b, p) = some (aZ xs)) (hw : S.wrong (b, p) = none) : S.fJ b p = xs := by
  unfold fJ reads
  rw [hp, hw]
  exact jN xs
theorem G6 (hg : S.g.aD) (hu : S.up = true) (h : 0 ≤ b ∧ b < S.g.bl ∧ 0 ≤ p ∧ p < S.g.pg) (hm : S.marked b = false) (h8 : Small 256 d) (hl : d.length = S.room) (hp : S.pages (b, p) = some (aZ (dw S.g d))) (hw : S.wrong (b, p) = none) :
    S.aY b p = ⟨0, d, 0⟩ := by
  have hN := qM.of (bl := S.g.bl) (pg := S.g.pg) (by rw [← iG hg]; exact hg)
  unfold aY
  rw [if_neg (by rw [qP hu h hm]; decide), BR hp hw]
  unfold dw
  rw [Jz hN.t h8 hl]
  rfl
theorem JB {t S n : Nat} {raw : List Nat} (h : raw.getD (S * n) 0 = 255) : dW t S n raw = 60 ∨ dW t S n raw = 61 := by
  unfold dW
  rw [h, if_neg (by decide), if_neg (fun h => h rfl)]
  split
  · exact .inl rfl
  · exact .inr rfl
end
end ah
structure Hd where
  (aB len num : Int)
  deriving DecidableEq
abbrev Hd.v (h : Hd) : Value := .agg #[.int .i64 h.aB, .int .i64 h.len, .int .i64 h.num]
abbrev Hd.cells (h : Hd) : List Value := [.int .i64 h.aB, .int .i64 h.len, .int .i64 h.num]
def Geo.cap (g : Geo) : Int := (g.pg - 1) * g.room
def Geo.aW (g : Geo) (n : Int) : Int := (n + g.room - 1) / g.room
def Geo.fits (g : Geo) (n : Int) : Bool := decide (0 ≤ n) && decide (n ≤ g.cap)
def Hd.may (g : Geo) (h : Hd) : Bool := g.fits h.len && decide (0 ≤ h.aB) && decide (h.aB < 64) && decide (1 ≤ h.num) && decide (h.num ≤ 1000000000)
def Ep (n : Int) : List Nat := [n.toNat % 256, n.toNat / 256 % 256, n.toNat / 65536 % 256, n.toNat / 16777216 % 256]
def gP (g : Geo) (h : Hd) : List Nat := [99, 97, 115, 101] ++ Ep h.aB ++ Ep h.len ++ Ep h.num ++ List.replicate (g.room.toNat - 16) 0
def tL (d : List Nat) (i : Nat) : Int := ((d.getD i 0 + 256 * d.getD (i + 1) 0 + 65536 * d.getD (i + 2) 0 + 16777216 * d.getD (i + 3) 0 : Nat) : Int)
def wL (d : List Nat) : Hd := ⟨tL d 4, tL d 8, tL d 12⟩
def gH (g : Geo) (d : List Nat) : Option Hd := if (wL d).may g && decide (gP g (wL d) = d) then some (wL d) else none
theorem wD (n : Int) : Small 256 (Ep n) := fun x hx => by
  unfold Ep at hx
  simp only [List.mem_cons, List.not_mem_nil, or_false] at hx
  rcases hx with rfl | rfl | rfl | rfl <;> exact Nat.mod_lt _ (by decide)
theorem pK (g : Geo) (h : Hd) : Small 256 (gP g h) := by
  unfold gP
  refine Small.append (Small.append (Small.append (Small.append ?_ (wD _)) (wD _)) (wD _)) (Small.vZ (by decide))
  intro x hx
  simp only [List.mem_cons, List.not_mem_nil, or_false] at hx
  omega
theorem kP {g : Geo} (hg : g.aD) (h : Hd) : (gP g h).length = g.room.toNat := by
  unfold gP Ep
  unfold Geo.aD at hg
  simp only [List.length_append, List.length_cons, List.length_nil, List.length_replicate]
  have : 16 ≤ g.room := by unfold Geo.room; omega
  omega
theorem Geo.iQ {g : Geo} (hg : g.aD) : 16 ≤ g.room ∧ g.room ≤ 4096 := by
  unfold Geo.aD at hg
  have := Geo.uh (a := g.se) (b := g.sb) (A := 8) (B := 512) (by omega) (by omega) (by omega) (by omega)
  unfold Geo.room
  omega
theorem Geo.nT {g : Geo} (hg : g.aD) : 16 ≤ g.cap ∧ g.cap ≤ 258048 := by
  have h1 := Geo.iQ hg
  unfold Geo.aD at hg
  have h2 := Geo.uh (a := g.pg - 1) (b := g.room) (A := 63) (B := 4096) (by omega) (by omega) (by omega) (by omega)
  have h3 : 1 * g.room ≤ (g.pg - 1) * g.room := Int.mul_le_mul_of_nonneg_right (by omega) (by omega)
  unfold Geo.cap
  omega
theorem Dy {n : Int} (h0 : 0 ≤ n) (h : n < 4294967296) (p q : List Nat) : tL (p ++ (Ep n ++ q)) p.length = n := by
  unfold tL Ep
  have e : ∀ i, (p ++ ([n.toNat % 256, n.toNat / 256 % 256, n.toNat / 65536 % 256, n.toNat / 16777216 % 256] ++ q)).getD (p.length + i) 0 = ([n.toNat % 256, n.toNat / 256 % 256, n.toNat / 65536 % 256, n.toNat / 16777216 % 256] ++ q).getD i 0 := fun i => by
    simp [List.getD, List.getElem?_append_right]
  have e0 := e 0
  rw [Nat.add_zero] at e0
  rw [e0, e 1, e 2, e 3]
  simp only [List.cons_append, List.getD_cons_zero, List.getD_cons_succ]
  omega
theorem DX {g : Geo} {h : Hd} (hm : h.may g = true) (hg : g.aD) : wL (gP g h) = h := by
  have hc := Geo.nT hg
  unfold Hd.may Geo.fits at hm
  simp only [Bool.and_eq_true, decide_eq_true_eq] at hm
  unfold wL gP
  have h1 := Dy (n := h.aB) (by omega) (by omega) [99, 97, 115, 101] (Ep h.len ++ (Ep h.num ++ List.replicate (g.room.toNat - 16) 0))
  have h2 := Dy (n := h.len) (by omega) (by omega) ([99, 97, 115, 101] ++ Ep h.aB) (Ep h.num ++ List.replicate (g.room.toNat - 16) 0)
  have h3 := Dy (n := h.num) (by omega) (by omega) ([99, 97, 115, 101] ++ Ep h.aB ++ Ep h.len) (List.replicate (g.room.toNat - 16) 0)
  simp only [← List.append_assoc] at h1 h2 h3
  rw [show ([99, 97, 115, 101] : List Nat).length = 4 from rfl] at h1
  rw [show (([99, 97, 115, 101] : List Nat) ++ Ep h.aB).length = 8 from rfl] at h2
  rw [show (([99, 97, 115, 101] : List Nat) ++ Ep h.aB ++ Ep h.len).length = 12 from rfl] at h3
  rw [h1, h2, h3]
theorem qc {g : Geo} {h : Hd} (hm : h.may g = true) (hg : g.aD) : gH g (gP g h) = some h := by
  unfold gH
  rw [DX hm hg, hm, decide_eq_true rfl]; rfl
section
variable {g : Geo} {K : World} {F : List ak}
theorem iZ (hg : g.aD) : aL Tryz.prog 80 #[g.v] K F (.tuple #[.int .i64 g.room, .int .i64 0]) := (z8 g).eq (by rw [show g.may = true from decide_eq_true hg]; rfl)
theorem EF (hg : g.aD) : aL Tryz.prog 49 #[g.v] K F (.tuple #[.int .i64 g.cap, .int .i64 0]) := by
  have hc := Geo.nT hg
  have hgb := hg
  unfold Geo.aD at hgb
  have hmx : max (g.pg - 1) 0 = g.pg - 1 := by omega
  refine Does.enter Tryz.func49 rfl Tryz.ntmps49 rfl ?_
  simp only [aI, Nat.reduceAdd]
  refine WC.sr ?_
  refine WL.box (cs := [_, _, _, _, _]) (OV.p rfl) rfl rfl (fun b1 => ?_)
  refine WL.sg rfl rfl (WL.sg rfl rfl (WL.nil (WC.sr ?_)))
  refine WL.val (V.bB (vs := [_, _, _, _, _]) ⟨Tryz.isAgg23, Tryz.sizeOf23⟩ (OV.p rfl) rfl (fun _ => by repeat (first | exact bD.gets ⟨rfl, rfl, rfl, rfl, rfl, trivial⟩ | apply bD.up))) rfl ?_
  refine WL.call (vs := [_]) Tryz.call80 ⟨OV.p rfl, trivial⟩ (iZ hg) rfl ?_
  rintro _ H0 ⟨rfl, h0⟩
  subst H0
  refine WL.mv rfl rfl (WL.xt rfl rfl rfl (WL.xt rfl rfl rfl (WL.sg rfl rfl (WL.sg rfl rfl (WL.nil (WC.sr (WL.val (V.fieldAddr nR (OV.p rfl)) rfl (WL.ld Tryz.isAgg3 rfl rfl ?_))))))))
  refine WL.sb rfl rfl rfl ?_
  refine WL.val (V.max (OV.p rfl) (OV.p rfl)) rfl (WL.mv rfl rfl ?_)
  refine WL.val (V.aC (v' := .int .i64 g.cap) (V.jF (OV.p rfl) (OV.p rfl) (fun _ => by rw [hmx]; unfold Geo.cap at hc; omega)) (fun _ => by rw [hmx]; rfl)) rfl ?_
  refine WL.mv rfl rfl (WL.sg rfl rfl (WL.sg rfl rfl (WL.nil (WC.ret ?_))))
  exact au.ret (H' := F) (aO.fD rfl rfl rfl) (fun w h => h.drop 1) ⟨rfl, rfl⟩
theorem sQ (hg : g.aD) {n : Int} (hn : n ≤ 1099511627776) : aL Tryz.prog 72 #[g.v, .int .i64 n] K F (.tuple (if g.fits n then #[.int .i64 (g.aW n), .int .i64 0] else #[.int .i64 0, .int .i64 1])) := by
  have hc := Geo.nT hg
  have hr := Geo.iQ hg
  refine Does.enter Tryz.func72 rfl Tryz.ntmps72 rfl ?_
  simp only [aI, Nat.reduceAdd]
  refine WC.sr ?_
  refine WL.box (cs := [_, _, _, _, _]) (OV.p rfl) rfl rfl (fun b2 => ?_)
  refine WL.sg rfl rfl (WL.sg rfl rfl (WL.nil (WC.sr ?_)))
  refine WL.val (V.bB (vs := [_, _, _, _, _]) ⟨Tryz.isAgg23, Tryz.sizeOf23⟩ (OV.p rfl) rfl (fun _ => by repeat (first | exact bD.gets ⟨rfl, rfl, rfl, rfl, rfl, trivial⟩ | apply bD.up))) rfl ?_
  refine WL.call (vs := [_]) Tryz.call49 ⟨OV.p rfl, trivial⟩ (EF hg) rfl ?_
  rintro _ H0 ⟨rfl, h0⟩
  subst H0
  refine WL.mv rfl rfl (WL.xt rfl rfl rfl (WL.xt rfl rfl rfl (WL.sg rfl rfl (WL.sg rfl rfl (WL.nil (WC.seq (WC.sr (WL.mv rfl rfl (WL.val (V.neq (OV.p rfl) (OV.p rfl)) rfl (WL.mv rfl rfl (WL.av (oj := _) rfl rfl rfl GC.f (V.move (OV.p rfl)) rfl (WL.av (oj := _) rfl rfl rfl GC.f (V.lss (OV.g rfl id) (OV.p rfl)) rfl (WL.val (V.bH (OV.p rfl) (OV.g rfl id)) rfl (WL.mv rfl rfl (WL.av (oj := _) rfl rfl rfl GC.f (V.move (OV.p rfl)) rfl (WL.av (oj := _) rfl rfl rfl GC.f (V.move (OV.p rfl)) rfl (WL.av (oj := _) rfl rfl rfl GC.f (V.gtr (OV.g rfl id) (OV.g rfl id)) rfl (WL.val (V.bH (OV.p rfl) (OV.g rfl id)) rfl (WL.nil ?_)))))))))))))))))))
  refine WC.cond rfl (fun hc0 => ?_) (fun hc0 => ?_)
  ·skip
   have h0 := hc0
   have he : g.fits n = !(!decide ((0 : Int) = 0) || decide (n < 0) || decide (g.cap < n)) := by
     unfold Geo.fits
     by_cases h1 : 0 ≤ n <;> by_cases h2 : n ≤ g.cap <;> simp [h1, h2] <;> omega
   have hf := he
   rw [h0] at hf
   rw [hf]
   refine WC.sr (WL.sg rfl rfl (WL.sg rfl rfl (WL.nil (WC.ret ?_))))
   exact au.ret (H' := F) (aO.fD rfl rfl rfl) (fun w h => h.drop 1) ⟨rfl, rfl⟩
  ·skip
   have h0 := hc0
   have he : g.fits n = !(!decide ((0 : Int) = 0) || decide (n < 0) || decide (g.cap < n)) := by
     unfold Geo.fits
     by_cases h1 : 0 ≤ n <;> by_cases h2 : n ≤ g.cap <;> simp [h1, h2] <;> omega
   have hf := he
   rw [h0] at hf
   rw [hf]
   have Oh := hf
   unfold Geo.fits at Oh
   simp only [Bool.not_false, Bool.and_eq_true, decide_eq_true_eq] at Oh
   refine WC.skip (WC.sr ?_)
   refine WL.val (V.bB (vs := [_, _, _, _, _]) ⟨Tryz.isAgg23, Tryz.sizeOf23⟩ (OV.p rfl) rfl (fun _ => by repeat (first | exact bD.gets ⟨rfl, rfl, rfl, rfl, rfl, trivial⟩ | apply bD.up))) rfl ?_
   refine WL.call (vs := [_]) Tryz.call80 ⟨OV.p rfl, trivial⟩ (iZ hg) rfl ?_
   rintro _ H0 ⟨rfl, h0⟩
   subst H0
   refine WL.mv rfl rfl (WL.xt rfl rfl rfl (WL.xt rfl rfl rfl (WL.sg rfl rfl (WL.sg rfl rfl (WL.nil (WC.sr (WL.mv rfl rfl (WL.mv rfl rfl (WL.ad rfl rfl rfl ?_)))))))))
   refine WL.sb rfl rfl rfl ?_
   refine WL.mv rfl rfl ?_
   refine WL.val (V.sV (OV.p rfl) (OV.p rfl) (fun hc => by first | omega | (simp at hc; omega))) rfl ?_
   refine WL.sg rfl rfl (WL.sg rfl rfl (WL.nil (WC.ret ?_)))
   exact au.ret (H' := F) (aO.fD rfl rfl rfl) (fun w h => h.drop 1) ⟨rfl, rfl⟩
theorem LK (hg : g.aD) (h : Hd) (hn : h.len ≤ 1099511627776) : aL Tryz.prog 112 #[g.v, h.v] K F (.bool (h.may g)) := by
  obtain ⟨e, he⟩ : ∃ e : Int, e = if g.fits h.len then 0 else 1 := ⟨_, rfl⟩
  obtain ⟨pn, hp⟩ : ∃ pn : Int, pn = if g.fits h.len then g.aW h.len else 0 := ⟨_, rfl⟩
  refine Does.enter Tryz.func112 rfl Tryz.ntmps112 rfl ?_
  simp only [aI, Nat.reduceAdd]
  refine WC.sr ?_
  refine WL.box (cs := [_, _, _, _, _]) (OV.p rfl) rfl rfl (fun b2 => ?_)
  refine WL.box (cs := [_, _, _]) (OV.p rfl) rfl rfl (fun b3 => ?_)
  refine WL.sg rfl rfl (WL.nil (WC.sr ?_))
  refine WL.val (V.bB (vs := [_, _, _, _, _]) ⟨Tryz.isAgg23, Tryz.sizeOf23⟩ (OV.p rfl) rfl (fun _ => by repeat (first | exact bD.gets ⟨rfl, rfl, rfl, rfl, rfl, trivial⟩ | apply bD.up))) rfl ?_
  refine WL.val (V.fieldAddr vE (OV.p rfl)) rfl (WL.ld Tryz.isAgg3 rfl rfl ?_)
  refine WL.call (vs := [_, _]) Tryz.call72 ⟨OV.p rfl, OV.p rfl, trivial⟩ (aL.eq (v' := .tuple #[.int .i64 pn, .int .i64 e]) (sQ hg hn) (by rw [hp, he]; cases g.fits h.len <;> rfl)) rfl ?_
  rintro _ H0 ⟨rfl, h0⟩
  subst H0
  refine WL.mv rfl rfl (WL.xt rfl rfl rfl (WL.xt rfl rfl rfl (WL.sg rfl rfl (WL.sg rfl rfl (WL.nil (WC.sr (WL.mv rfl rfl (WL.val (V.eql (OV.p rfl) (OV.p rfl)) rfl (WL.mv rfl rfl (WL.av (oj := _) rfl rfl rfl GC.t (V.fieldAddr yR (OV.p rfl)) rfl ?_))))))))))
  refine WL.av (oj := _) rfl rfl rfl GC.t (V.load Tryz.isAgg3 (OV.g rfl id) (fun _ => by repeat (first | exact Rd.here rfl | apply Rd.up))) rfl ?_
  refine WL.av (oj := _) rfl rfl rfl GC.t (V.geq (OV.g rfl id) (OV.p rfl)) rfl (WL.val (V.aJ (OV.p rfl) (OV.g rfl id)) rfl (WL.mv rfl rfl (WL.av (oj := _) rfl rfl rfl GC.t (V.fieldAddr yR (OV.p rfl)) rfl ?_)))
  refine WL.av (oj := _) rfl rfl rfl GC.t (V.load Tryz.isAgg3 (OV.g rfl id) (fun _ => by repeat (first | exact Rd.here rfl | apply Rd.up))) rfl ?_
  refine WL.av (oj := _) rfl rfl rfl GC.t (V.lss (OV.g rfl id) (OV.p rfl)) rfl (WL.val (V.aJ (OV.p rfl) (OV.g rfl id)) rfl (WL.mv rfl rfl (WL.av (oj := _) rfl rfl rfl GC.t (V.fieldAddr jK (OV.p rfl)) rfl ?_)))
  refine WL.av (oj := _) rfl rfl rfl GC.t (V.load Tryz.isAgg3 (OV.g rfl id) (fun _ => by repeat (first | exact Rd.here rfl | apply Rd.up))) rfl ?_
  refine WL.av (oj := _) rfl rfl rfl GC.t (V.geq (OV.g rfl id) (OV.p rfl)) rfl (WL.val (V.aJ (OV.p rfl) (OV.g rfl id)) rfl (WL.mv rfl rfl (WL.av (oj := _) rfl rfl rfl GC.t (V.fieldAddr jK (OV.p rfl)) rfl ?_)))
  refine WL.av (oj := _) rfl rfl rfl GC.t (V.load Tryz.isAgg3 (OV.g rfl id) (fun _ => by repeat (first | exact Rd.here rfl | apply Rd.up))) rfl ?_
  refine WL.av (oj := _) rfl rfl rfl GC.t (V.leq (OV.g rfl id) (OV.p rfl)) rfl (WL.val (V.aJ (OV.p rfl) (OV.g rfl id)) rfl (WL.sg rfl rfl (WL.nil (WC.ret ?_))))
  refine au.ret (H' := F) (aO.tmp rfl rfl) (fun w h => h.drop 2) ⟨?_, rfl⟩
  unfold Hd.may
  congr 1
  cases hf : g.fits h.len with
  | true => rw [hf] at he; rw [he]; rfl
  | false => rw [hf] at he; rw [he]; rfl
def rW (n : Int) : List Value := [.int .u8 (IntKind.u8.wrap n), .int .u8 (IntKind.u8.wrap (n.fdiv (2 ^ (min (8 : Int).toNat IntKind.i64.bits)))), .int .u8 (IntKind.u8.wrap (n.fdiv (2 ^ (min (16 : Int).toNat IntKind.i64.bits)))), .int .u8 (IntKind.u8.wrap (n.fdiv (2 ^ (min (24 : Int).toNat IntKind.i64.bits))))]
theorem II (n : Int) : IntKind.u8.wrap n = n % 256 := by
  simp only [IntKind.wrap, IntKind.bits, IntKind.signed]; simp
theorem wU {n : Int} (h : 0 ≤ n) : rW n = aA .u8 (Ep n) := by
  unfold rW Ep aA
  rw [II, II, II, II, show (2 : Int) ^ (min (8 : Int).toNat IntKind.i64.bits) = 256 from rfl, show (2 : Int) ^ (min (16 : Int).toNat IntKind.i64.bits) = 65536 from rfl, show (2 : Int) ^ (min (24 : Int).toNat IntKind.i64.bits) = 16777216 from rfl,
    Int.fdiv_eq_ediv_of_nonneg _ (by decide), Int.fdiv_eq_ediv_of_nonneg _ (by decide), Int.fdiv_eq_ediv_of_nonneg _ (by decide)]
  simp only [List.map_cons, List.map_nil]
  congr 1
  · congr 1; omega
  congr 1
  · congr 1; omega
  congr 1
  · congr 1; omega
  congr 1
  congr 1; omega
theorem nD (n : Int) : ∀ u ∈ rW n, u.oneCell' = true := by unfold rW; simp [Value.oneCell']
theorem Kw {A B : Option Addr} {cs : List Value} {x y z : Int} (hs : Seq K F A 4 1 cs) (hq : Seq K F B 3 1 [.int .i64 x, .int .i64 y, .int .i64 z]) :
    Does Tryz.prog 113 #[.slice A 4 4, .slice B 3 3] K F (fun v H' => ∃ A' c', v = .slice A' 16 c' ∧ H' = aU (.slice A' 16 c') 5 1 16 (cs ++ rW x ++ rW y ++ rW z) :: F) := by
  have hsl := hs.len
  have rd : ∀ (i : Nat) v, [Value.int .i64 x, .int .i64 y, .int .i64 z][i]? = some v → Rd K F (B.map (·.add (i * 1))) v := fun i v hi => by rw [Nat.mul_one]; exact hq.rd i v hi
  refine Does.enter Tryz.func113 rfl Tryz.ntmps113 rfl ?_
  simp only [aI, Nat.reduceAdd]
  refine WC.sr (WL.sg rfl rfl (WL.nil (WC.seq (WC.sr (WL.mv rfl rfl (WL.val (V.len (t := 24) Tryz.runUnderlying24 (OV.p rfl)) rfl (WL.mv rfl rfl (WL.nil (WC.block (WC.rounds 4 (WC.sr (WL.val (V.lss (OV.p rfl) (OV.p rfl)) rfl (WL.nil (WC.seq ?_))))))))))))))
  refine WC.dV rfl (by first | rfl | (simp; done) | (simp; omega)) ?_
  refine WC.skip (WC.seq (WC.block (WC.sr ?_)))
  refine WL.val (V.dS bZ (OV.p rfl) (OV.p rfl) (fun _ => by decide) (fun _ => by first | exact rd 0 _ rfl | exact Rd.up (rd 1 _ rfl) | exact Rd.up (Rd.up (rd 1 _ rfl)) | exact Rd.up (Rd.up (rd 2 _ rfl)) | exact Rd.up (Rd.up (Rd.up (rd 2 _ rfl))) | exact Rd.up (Rd.up (Rd.up (Rd.up (rd 2 _ rfl)))))) rfl ?_
  refine WL.val (V.load Tryz.isAgg3 (OV.p rfl) (fun _ => by first | exact rd 0 _ rfl | exact Rd.up (rd 1 _ rfl) | exact Rd.up (Rd.up (rd 1 _ rfl)) | exact Rd.up (Rd.up (rd 2 _ rfl)) | exact Rd.up (Rd.up (Rd.up (rd 2 _ rfl))) | exact Rd.up (Rd.up (Rd.up (Rd.up (rd 2 _ rfl)))))) rfl ?_
  refine WL.sg rfl rfl (WL.nil (WC.region (WL.mv rfl rfl (WL.mv rfl rfl (WL.val (V.kF Tryz.runUnderlying3 Tryz.runUnderlying5 (OV.p rfl)) rfl (WL.mv rfl rfl ?_))))))
  refine WL.val (V.shr (OV.p rfl) (OV.p rfl) (by omega)) rfl ?_
  refine WL.val (V.kF Tryz.runUnderlying3 Tryz.runUnderlying5 (OV.p rfl)) rfl (WL.mv rfl rfl ?_)
  refine WL.val (V.shr (OV.p rfl) (OV.p rfl) (by omega)) rfl ?_
  refine WL.val (V.kF Tryz.runUnderlying3 Tryz.runUnderlying5 (OV.p rfl)) rfl (WL.mv rfl rfl ?_)
  refine WL.val (V.shr (OV.p rfl) (OV.p rfl) (by omega)) rfl ?_
  refine WL.val (V.kF Tryz.runUnderlying3 Tryz.runUnderlying5 (OV.p rfl)) rfl ?_
  refine WL.buildSlice (E := 5) (cs := [_, _, _, _]) (vs := [(0, _), (1, _), (2, _), (3, _)]) ⟨OV.p rfl, OV.p rfl, OV.p rfl, OV.p rfl, trivial⟩ rfl (iP _ _ _ _) rfl (fun M4 => ?_)
  first
  | refine WL.rO (m := 4) (q := 4) (cs := cs) (news := rW x) Tryz.underlying43 yD (OV.p rfl) (OV.p rfl) (by repeat (first | exact hs | apply Seq.up)) (Seq.all rfl) (by decide) (by decide) (by decide) (by decide) rfl rfl (fun A1 c1 hA1 hc1 => ?_)
  | (refine WL.sub (Sub.refl _) (fun w h => h.sel 2 [1, 0] rfl) ?_
     refine WL.append (m := 8) (q := 4) (news := rW y) Tryz.underlying43 yD (OV.p rfl) (OV.p rfl) (Seq.all rfl) (nD _) (by decide) rfl rfl (fun A2 c2 hA2 hc2 => ?_))
  | (refine WL.sub (Sub.refl _) (fun w h => h.sel 2 [1, 0] rfl) ?_
     refine WL.append (m := 12) (q := 4) (news := rW z) Tryz.underlying43 yD (OV.p rfl) (OV.p rfl) (Seq.all rfl) (nD _) (by decide) rfl rfl (fun A3 c3 hA3 hc3 => ?_))
  refine WL.sg rfl rfl (WL.nil (WC.region ?_))
  refine WL.val (V.aC (v' := .int .i64 (1)) (V.add (OV.p rfl) (OV.p rfl)) (fun _ => rfl)) rfl ?_
  refine WL.mv rfl rfl (WL.nil (WC.sr (WL.val (V.lss (OV.p rfl) (OV.p rfl)) rfl (WL.nil (WC.seq ?_)))))
  refine WC.dV rfl (by first | rfl | (simp; done) | (simp; omega)) ?_
  refine WC.skip (WC.seq (WC.block (WC.sr ?_)))
  refine WL.val (V.dS bZ (OV.p rfl) (OV.p rfl) (fun _ => by decide) (fun _ => by first | exact rd 0 _ rfl | exact Rd.up (rd 1 _ rfl) | exact Rd.up (Rd.up (rd 1 _ rfl)) | exact Rd.up (Rd.up (rd 2 _ rfl)) | exact Rd.up (Rd.up (Rd.up (rd 2 _ rfl))) | exact Rd.up (Rd.up (Rd.up (Rd.up (rd 2 _ rfl)))))) rfl ?_
  refine WL.val (V.load Tryz.isAgg3 (OV.p rfl) (fun _ => by first | exact rd 0 _ rfl | exact Rd.up (rd 1 _ rfl) | exact Rd.up (Rd.up (rd 1 _ rfl)) | exact Rd.up (Rd.up (rd 2 _ rfl)) | exact Rd.up (Rd.up (Rd.up (rd 2 _ rfl))) | exact Rd.up (Rd.up (Rd.up (Rd.up (rd 2 _ rfl)))))) rfl ?_
  refine WL.sg rfl rfl (WL.nil (WC.region (WL.mv rfl rfl (WL.mv rfl rfl (WL.val (V.kF Tryz.runUnderlying3 Tryz.runUnderlying5 (OV.p rfl)) rfl (WL.mv rfl rfl ?_))))))
  refine WL.val (V.shr (OV.p rfl) (OV.p rfl) (by omega)) rfl ?_
  refine WL.val (V.kF Tryz.runUnderlying3 Tryz.runUnderlying5 (OV.p rfl)) rfl (WL.mv rfl rfl ?_)
  refine WL.val (V.shr (OV.p rfl) (OV.p rfl) (by omega)) rfl ?_
  refine WL.val (V.kF Tryz.runUnderlying3 Tryz.runUnderlying5 (OV.p rfl)) rfl (WL.mv rfl rfl ?_)
  refine WL.val (V.shr (OV.p rfl) (OV.p rfl) (by omega)) rfl ?_
  refine WL.val (V.kF Tryz.runUnderlying3 Tryz.runUnderlying5 (OV.p rfl)) rfl ?_
  refine WL.buildSlice (E := 5) (cs := [_, _, _, _]) (vs := [(0, _), (1, _), (2, _), (3, _)]) ⟨OV.p rfl, OV.p rfl, OV.p rfl, OV.p rfl, trivial⟩ rfl (iP _ _ _ _) rfl (fun M4 => ?_)
  first
  | refine WL.rO (m := 4) (q := 4) (cs := cs) (news := rW x) Tryz.underlying43 yD (OV.p rfl) (OV.p rfl) (by repeat (first | exact hs | apply Seq.up)) (Seq.all rfl) (by decide) (by decide) (by decide) (by decide) rfl rfl (fun A1 c1 hA1 hc1 => ?_)
  | (refine WL.sub (Sub.refl _) (fun w h => h.sel 2 [1, 0] rfl) ?_
     refine WL.append (m := 8) (q := 4) (news := rW y) Tryz.underlying43 yD (OV.p rfl) (OV.p rfl) (Seq.all rfl) (nD _) (by decide) rfl rfl (fun A2 c2 hA2 hc2 => ?_))
  | (refine WL.sub (Sub.refl _) (fun w h => h.sel 2 [1, 0] rfl) ?_
     refine WL.append (m := 12) (q := 4) (news := rW z) Tryz.underlying43 yD (OV.p rfl) (OV.p rfl) (Seq.all rfl) (nD _) (by decide) rfl rfl (fun A3 c3 hA3 hc3 => ?_))
  refine WL.sg rfl rfl (WL.nil (WC.region ?_))
  refine WL.val (V.aC (v' := .int .i64 (2)) (V.add (OV.p rfl) (OV.p rfl)) (fun _ => rfl)) rfl ?_
  refine WL.mv rfl rfl (WL.nil (WC.sr (WL.val (V.lss (OV.p rfl) (OV.p rfl)) rfl (WL.nil (WC.seq ?_)))))
  refine WC.dV rfl (by first | rfl | (simp; done) | (simp; omega)) ?_
  refine WC.skip (WC.seq (WC.block (WC.sr ?_)))
  refine WL.val (V.dS bZ (OV.p rfl) (OV.p rfl) (fun _ => by decide) (fun _ => by first | exact rd 0 _ rfl | exact Rd.up (rd 1 _ rfl) | exact Rd.up (Rd.up (rd 1 _ rfl)) | exact Rd.up (Rd.up (rd 2 _ rfl)) | exact Rd.up (Rd.up (Rd.up (rd 2 _ rfl))) | exact Rd.up (Rd.up (Rd.up (Rd.up (rd 2 _ rfl)))))) rfl ?_
  refine WL.val (V.load Tryz.isAgg3 (OV.p rfl) (fun _ => by first | exact rd 0 _ rfl | exact Rd.up (rd 1 _ rfl) | exact Rd.up (Rd.up (rd 1 _ rfl)) | exact Rd.up (Rd.up (rd 2 _ rfl)) | exact Rd.up (Rd.up (Rd.up (rd 2 _ rfl))) | exact Rd.up (Rd.up (Rd.up (Rd.up (rd 2 _ rfl)))))) rfl ?_
  refine WL.sg rfl rfl (WL.nil (WC.region (WL.mv rfl rfl (WL.mv rfl rfl (WL.val (V.kF Tryz.runUnderlying3 Tryz.runUnderlying5 (OV.p rfl)) rfl (WL.mv rfl rfl ?_))))))
  refine WL.val (V.shr (OV.p rfl) (OV.p rfl) (by omega)) rfl ?_
  refine WL.val (V.kF Tryz.runUnderlying3 Tryz.runUnderlying5 (OV.p rfl)) rfl (WL.mv rfl rfl ?_)
  refine WL.val (V.shr (OV.p rfl) (OV.p rfl) (by omega)) rfl ?_
  refine WL.val (V.kF Tryz.runUnderlying3 Tryz.runUnderlying5 (OV.p rfl)) rfl (WL.mv rfl rfl ?_)
  refine WL.val (V.shr (OV.p rfl) (OV.p rfl) (by omega)) rfl ?_
  refine WL.val (V.kF Tryz.runUnderlying3 Tryz.runUnderlying5 (OV.p rfl)) rfl ?_
  refine WL.buildSlice (E := 5) (cs := [_, _, _, _]) (vs := [(0, _), (1, _), (2, _), (3, _)]) ⟨OV.p rfl, OV.p rfl, OV.p rfl, OV.p rfl, trivial⟩ rfl (iP _ _ _ _) rfl (fun M4 => ?_)
  first
  | refine WL.rO (m := 4) (q := 4) (cs := cs) (news := rW x) Tryz.underlying43 yD (OV.p rfl) (OV.p rfl) (by repeat (first | exact hs | apply Seq.up)) (Seq.all rfl) (by decide) (by decide) (by decide) (by decide) rfl rfl (fun A1 c1 hA1 hc1 => ?_)
  | (refine WL.sub (Sub.refl _) (fun w h => h.sel 2 [1, 0] rfl) ?_
     refine WL.append (m := 8) (q := 4) (news := rW y) Tryz.underlying43 yD (OV.p rfl) (OV.p rfl) (Seq.all rfl) (nD _) (by decide) rfl rfl (fun A2 c2 hA2 hc2 => ?_))
  | (refine WL.sub (Sub.refl _) (fun w h => h.sel 2 [1, 0] rfl) ?_
     refine WL.append (m := 12) (q := 4) (news := rW z) Tryz.underlying43 yD (OV.p rfl) (OV.p rfl) (Seq.all rfl) (nD _) (by decide) rfl rfl (fun A3 c3 hA3 hc3 => ?_))
  refine WL.sg rfl rfl (WL.nil (WC.region ?_))
  refine WL.val (V.aC (v' := .int .i64 (3)) (V.add (OV.p rfl) (OV.p rfl)) (fun _ => rfl)) rfl ?_
  refine WL.mv rfl rfl (WL.nil (WC.sr (WL.val (V.lss (OV.p rfl) (OV.p rfl)) rfl (WL.nil (WC.seq ?_)))))
  refine WC.aQ rfl (by first | rfl | (simp; done) | (simp; omega)) ?_
  refine WC.exit (WC.sr (WL.mv rfl rfl (WL.sg rfl rfl (WL.nil (WC.ret ?_)))))
  exact au.ret (H' := aU (.slice A3 16 c3) _ 1 16 _ :: F) (aO.tmp rfl rfl) (fun w h => h.sel 4 [0] rfl) ⟨A3, c3, rfl, rfl⟩
end
end Go.Proofs.YtcmojpiokjhmhaaGreat
namespace Go.Sl
open Go.RowKit Go.BigFrame
set_option linter.unusedVariables false
set_option linter.unusedSimpArgs false
theorem wJ {α : Type} : ∀ (l : List α) (k : Nat) (hk : k < l.length), List.Perm (l[k] :: l.eraseIdx k) l
  | [], k, hk => absurd hk (Nat.not_lt_zero _)
  | a :: l, 0, _ => List.Perm.refl _
  | a :: l, k + 1, hk => (List.Perm.swap _ _ _).trans ((wJ l k (Nat.lt_of_succ_lt_succ hk)).cons a)
theorem Sat.Ns {K w : World} {A : ak} {l H : List ak} (h : Sat K w (A :: (l ++ H))) : Sat K w (A :: bG l :: H) :=
  ⟨h.1, h.2.1, h.2.2.1, fun b hb B hB => by
    rcases List.mem_cons.1 hB with rfl | hB
    · rintro ⟨C, hC, hf⟩; exact h.2.2.2.1 b hb C (List.mem_append_left _ hC) hf
    · exact h.2.2.2.1 b hb B (List.mem_append_right _ hB), bE.all.2 h.2.tail⟩
theorem Sat.Jg {K w : World} {A : ak} {l H : List ak} (h : Sat K w (A :: bG l :: H)) : Sat K w (A :: (l ++ H)) :=
  ⟨h.1, h.2.1, h.2.2.1, fun b hb B hB => by
    rcases List.mem_append.1 hB with hB | hB
    · exact fun hf => h.2.2.2.1 b hb (bG l) (.head _) ⟨B, hB, hf⟩
    · exact h.2.2.2.1 b hb B (.tail _ hB), bE.all.1 h.2.tail⟩
theorem Sat.perm' {K w : World} {l l' : List ak} (hp : List.Perm l l') (h : Sat K w l) : Sat K w l' := ⟨h.1, bE.perm hp h.2⟩
theorem Sat.takeA {K w : World} {l H : List ak} {k : Nat} (hk : k < l.length) (h : Sat K w (bG l :: H)) : Sat K w (l[k] :: bG (l.eraseIdx k) :: H) :=
  Sat.Ns (Sat.perm' ((wJ l k hk).symm.append_right H) h.uF)
theorem Sat.Bn {K w : World} {l H : List ak} {k : Nat} {A : ak} (hk : k < l.length) (h : Sat K w (A :: bG (l.eraseIdx k) :: H)) : Sat K w (bG (l.set k A) :: H) := by
  have hk' : k < (l.set k A).length := by rw [List.length_set]; exact hk
  have hp := wJ (l.set k A) k hk'
  rw [List.getElem_set_self, List.eraseIdx_set_eq] at hp
  exact Sat.all (Sat.perm' (hp.append_right H) h.Jg)
section
variable {α : Type} {f : α → List Value} {s : Nat}
theorem lY (hf : ∀ x, (f x).length = s) : ∀ l : List α, (l.flatMap f).length = l.length * s
  | [] => by simp
  | x :: l => by rw [List.flatMap_cons, List.length_append, hf, lY hf l, List.length_cons, Nat.succ_mul, Nat.add_comm]
theorem flat_get (hf : ∀ x, (f x).length = s) : ∀ (l : List α) (k i : Nat) (x : α) (v : Value), l[k]? = some x → (f x)[i]? = some v → (l.flatMap f)[k * s + i]? = some v
  | [], k, i, x, v, h, _ => by simp at h
  | y :: l, 0, i, x, v, h, hi => by
    simp only [List.getElem?_cons_zero, Option.some.injEq] at h
    subst h
    rw [List.flatMap_cons, Nat.zero_mul, Nat.zero_add, List.getElem?_append_left (List.getElem?_eq_some_iff.1 hi).1]
    exact hi
  | y :: l, k + 1, i, x, v, h, hi => by
    have ih := flat_get hf l k i x v (by simpa using h) hi
    rw [List.flatMap_cons, List.getElem?_append_right (by rw [hf, Nat.succ_mul]; omega), hf, ← ih]
    congr 1
    rw [Nat.succ_mul]; omega
theorem K9 (hf : ∀ x, (f x).length = s) : ∀ (l : List α) (k : Nat) (x y : α), l[k]? = some x → o9 (l.flatMap f) (k * s) (f y) = (l.set k y).flatMap f := fun l k x y h => by
  have hk := (List.getElem?_eq_some_iff.1 h).1
  have h1 : (k + 1) * s ≤ l.length * s := Nat.mul_le_mul_right _ hk
  rw [Nat.succ_mul] at h1
  rw [mG _ _ _ (by rw [hf, lY hf]; exact h1), hf]
  have h2 : l.set k y = l.take k ++ y :: l.drop (k + 1) := List.set_eq_take_append_cons_drop .. |>.trans (by rw [if_pos hk])
  have h3 : ∀ j, j ≤ l.length → (l.flatMap f).take (j * s) = (l.take j).flatMap f ∧ (l.flatMap f).drop (j * s) = (l.drop j).flatMap f := fun j hj => by
    have e : l.flatMap f = (l.take j).flatMap f ++ (l.drop j).flatMap f := by rw [← List.flatMap_append, List.take_append_drop]
    have e2 : ((l.take j).flatMap f).length = j * s := by rw [lY hf, List.length_take, Nat.min_eq_left hj]
    rw [e]
    exact ⟨List.take_left' e2, List.drop_left' e2⟩
  rw [h2, List.flatMap_append, List.flatMap_cons, (h3 k (Nat.le_of_lt hk)).1, show k * s + s = (k + 1) * s by rw [Nat.succ_mul], (h3 (k + 1) hk).2, List.append_assoc]
end
end Go.Sl
