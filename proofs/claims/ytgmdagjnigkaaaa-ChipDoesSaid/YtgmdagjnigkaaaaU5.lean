/- The reference's chip: Flip. -/
import Derived.Test.YtgmdagjnigkaaaaU4
import Derived.Test.YtgmdagjnigkaaaaF4
namespace Go.Proofs.Ytgmdagjnigkaaaa
open Go.Sl Go.RowKit
set_option linter.unusedVariables false
set_option linter.unusedSimpArgs false
set_option maxRecDepth 20000

def ddOk (raw : Int) (l : List Int) (x : Int) : Bool := decide (0 ≤ x) && decide (x < 8 * raw) && decide (x ∉ l)
def ddI (raw : Int) (xs : List Int) : List Int := xs.foldl (fun l x => if ddOk raw l x then l ++ [x] else l) []
theorem ddI_take {raw : Int} {xs : List Int} {j : Nat} (h : j < xs.length) : ddI raw (xs.take (j + 1)) = if ddOk raw (ddI raw (xs.take j)) (xs.getD j 0) then ddI raw (xs.take j) ++ [xs.getD j 0] else ddI raw (xs.take j) := by
  rw [List.take_add_one, List.getElem?_eq_getElem h]
  unfold ddI
  rw [List.foldl_append]
  simp [List.getD, h]
theorem ddI_length {raw : Int} {xs : List Int} : ∀ j, j ≤ xs.length → (ddI raw (xs.take j)).length ≤ j
  | 0, _ => by simp [ddI]
  | j + 1, h => by
    have ih := ddI_length (raw := raw) (xs := xs) j (by omega)
    rw [ddI_take (by omega)]
    split
    · rw [List.length_append]; simp; omega
    · omega
theorem ddI_facts {raw : Int} {xs : List Int} : ∀ j, j ≤ xs.length → (ddI raw (xs.take j)).Nodup ∧ ∀ x, x ∈ ddI raw (xs.take j) ↔ x ∈ xs.take j ∧ 0 ≤ x ∧ x < 8 * raw
  | 0, _ => by simp [ddI]
  | j + 1, h => by
    obtain ⟨h1, h2⟩ := ddI_facts (raw := raw) (xs := xs) j (by omega)
    have ht : xs.take (j + 1) = xs.take j ++ [xs.getD j 0] := by rw [List.take_add_one, List.getElem?_eq_getElem (by omega)]; simp [List.getD, show j < xs.length by omega]
    rw [ddI_take (by omega), ht]
    obtain ⟨y, hy⟩ : ∃ y, y = xs.getD j 0 := ⟨_, rfl⟩
    rw [← hy]
    unfold ddOk
    by_cases hok : (decide (0 ≤ y) && decide (y < 8 * raw) && decide (y ∉ ddI raw (xs.take j))) = true
    · rw [if_pos hok]
      simp only [Bool.and_eq_true, decide_eq_true_eq] at hok
      refine ⟨?_, fun x => ?_⟩
      · rw [List.nodup_append]
        refine ⟨h1, by simp, fun a ha b hb => ?_⟩
        rw [List.mem_singleton.1 hb]
        exact fun e => hok.2 (e ▸ ha)
      · rw [List.mem_append, List.mem_append, h2, List.mem_singleton]
        constructor
        · rintro (⟨k1, k2⟩ | rfl)
          · exact ⟨.inl k1, k2⟩
          · exact ⟨.inr rfl, hok.1⟩
        · rintro ⟨k1 | rfl, k2⟩
          · exact .inl ⟨k1, k2⟩
          · exact .inr rfl
    · rw [if_neg hok]
      refine ⟨h1, fun x => ?_⟩
      rw [List.mem_append, h2, List.mem_singleton]
      constructor
      · rintro ⟨k1, k2⟩; exact ⟨.inl k1, k2⟩
      · rintro ⟨k1 | rfl, k2⟩
        · exact ⟨k1, k2⟩
        · simp only [Bool.and_eq_true, decide_eq_true_eq] at hok
          by_cases hm : x ∈ ddI raw (xs.take j)
          · exact (h2 x).1 hm
          · exact absurd ⟨k2, hm⟩ hok
theorem ddI_perm (raw : Int) (xs : List Int) : List.Perm (ddI raw xs) (flipL raw xs) := by
  have h := ddI_facts (raw := raw) (xs := xs) xs.length (Nat.le_refl _)
  rw [List.take_length] at h
  refine (List.perm_ext_iff_of_nodup h.1 ?_).2 (fun x => by rw [h.2, mem_flipL])
  exact (flipL_sorted raw xs).imp (fun hlt e => by omega)
section
variable {a : Nat} {R : RW} {S : Chip} {K : World} {F : List Assn}
theorem ref_Flip (hR : R.Ok) (hS : R.Is S) {B : Option Addr} {m cap : Nat} {xs : List Int} (b p : Int) (hs : Seq K F B m 1 (ints .i64 xs)) (hm : m ≤ 1000000) :
    Does Try.prog 73 #[ptr a 0, .int .i64 b, .int .i64 p, .slice B m cap] K (R.A a :: F)
      (fun v H' => ∃ R' : RW, R'.Ok ∧ R'.Is (S.flip b p xs) ∧ H' = R'.A a :: F) := by
  have hl : xs.length = m := by simpa [ints] using hs.len
  have hrb := Geo.raw_bd hR.mays
  have hgb := hR.mays
  unfold Geo.mays at hgb
  have hraw : S.raw = R.g.raw := by unfold Chip.raw; rw [hS.g]
  refine Does.openR ?_
  dsimp only [RW.parts, List.cons_append, List.nil_append]
  refine Does.enter Try.func73 rfl Try.ntmps73 rfl ?_
  simp only [env0, Nat.reduceAdd]
  refine WC.seq ?_
  refine WC.seq ?_
  refine WC.region ?_
  refine WL.val (V.move (OV.p rfl)) rfl ?_
  refine WL.val (V.move (OV.p rfl)) rfl ?_
  refine WL.val (V.move (OV.p rfl)) rfl ?_
  refine WL.call (vs := [_, _, _]) Try.call75 ⟨OV.p rfl, OV.p rfl, OV.p rfl, trivial⟩ (ref_page b p Rds.all) rfl ?_
  rintro _ H0 ⟨rfl, h0⟩
  subst H0
  refine WL.val (V.not (OV.p rfl)) rfl ?_
  refine WL.nil ?_
  refine WC.cond rfl (fun hc0 => ?_) (fun hc0 => ?_)
  · simp only [Bool.not_eq_true', Bool.not_eq_false', Bool.and_eq_true, Bool.and_eq_false_iff, decide_eq_true_eq, decide_eq_false_iff_not] at hc0
    have h1 := hc0
    have hZ : S.flip b p xs = S := by
      unfold Chip.flip Chip.page Chip.block
      rw [if_neg]
      rw [← hS.g]; simp; omega
    refine WC.ret ?_
    exact BodyQ.ret (H' := R.A a :: F) (Res.none rfl) (fun w h => Sat.all (l := RW.parts a R) h) ⟨R, hR, by rw [hZ]; exact hS, rfl⟩
  · simp only [Bool.not_eq_true', Bool.not_eq_false', Bool.and_eq_true, Bool.and_eq_false_iff, decide_eq_true_eq, decide_eq_false_iff_not] at hc0
    have h1 := hc0
    have hZ : S.flip b p xs = { S with wrong := Chip.upds S.wrong (b, p) (some (flipL S.raw xs)) } := by
      unfold Chip.flip Chip.page Chip.block
      rw [if_pos]
      rw [← hS.g]; simp; omega
    obtain ⟨⟨⟨hb1, hb2⟩, hp1⟩, hp2⟩ := h1
    obtain ⟨bn, rfl⟩ : ∃ bn : Nat, b = (bn : Int) := ⟨b.toNat, by omega⟩
    obtain ⟨pn, rfl⟩ : ∃ pn : Nat, p = (pn : Int) := ⟨p.toNat, by omega⟩
    have hlen := hS.len
    rw [← hS.g] at hlen
    have hbl : bn < R.blocks.length := by omega
    obtain ⟨x, hxb⟩ : ∃ x, R.blocks[bn]? = some x := ⟨_, List.getElem?_eq_getElem hbl⟩
    have hBI := hS.blk bn x hxb
    have hxlen := hBI.len
    rw [← hS.g] at hxlen
    have hpl : pn < x.pages.length := by omega
    obtain ⟨y, hyp⟩ : ∃ y, x.pages[pn]? = some y := ⟨_, List.getElem?_eq_getElem hpl⟩
    have hcell : ∀ {i : Nat} {v : Value}, x.cells[i]? = some v → (R.blocks.flatMap RBlock.cells ++ R.rest)[0 + (bn : Int).toNat * 4 + i]? = some v := fun {i v} hi => by
      rw [show 0 + (bn : Int).toNat * 4 + i = bn * 4 + i by omega]; exact RW.blk_get hxb hi
    have hyo := hR.pgs x (List.mem_of_getElem? hxb) y (List.mem_of_getElem? hyp)
    refine WC.skip ?_
    refine WC.seq ?_
    refine WC.region ?_
    refine WL.val (V.assign (OV.p rfl)) rfl ?_
    refine WL.nil ?_
    refine WC.seq ?_
    refine WC.seq ?_
    refine WC.region ?_
    refine WL.val (V.assign (OV.p rfl)) rfl ?_
    refine WL.nil ?_
    refine WC.block ?_
    refine WC.loop (σ := Nat × Option Addr × Nat) (fun s => [(0, ptr a 0), (1, .int .i64 (bn : Int)), (2, .int .i64 (pn : Int)), (3, .slice B m cap), (8, .slice s.2.1 (ddI R.g.raw (xs.take s.1)).length s.2.2), (9, .int .i64 (s.1 : Int))]) (fun s => SlA (.slice s.2.1 (ddI R.g.raw (xs.take s.1)).length s.2.2) 3 1 (ddI R.g.raw (xs.take s.1)).length (ints .i64 (ddI R.g.raw (xs.take s.1))) :: (R.parts a ++ F)) (fun s => s.1 ≤ m) (fun s => m - s.1) (0, none, 0) (Nat.zero_le _) (.cons rfl (.cons rfl (.cons rfl (.cons rfl (.cons rfl (.cons rfl (.nil _))))))) (fun w h => Sat.slNil h 3 1) ?_
    rintro ⟨i, Ao, co⟩ hi
    dsimp only at hi ⊢
    dsimp only [RW.parts, List.cons_append, List.nil_append]
    obtain ⟨l, hll⟩ : ∃ l, l = ddI R.g.raw (xs.take i) := ⟨_, rfl⟩
    have hlen2 : l.length ≤ i := by rw [hll]; exact ddI_length i (by omega)
    rw [← hll]
    refine WC.seq ?_
    refine WC.seq ?_
    refine WC.region ?_
    refine WL.val (V.move (OV.p rfl)) rfl ?_
    refine WL.val (V.move (OV.p rfl)) rfl ?_
    refine WL.val (V.len (t := 40) Try.runUnderlying40 (OV.p rfl)) rfl ?_
    refine WL.val (V.lss (OV.p rfl) (OV.p rfl)) rfl ?_
    refine WL.nil ?_
    refine WC.cond rfl (fun hc1 => ?_) (fun hc1 => ?_)
    · simp only [decide_eq_true_eq, decide_eq_false_iff_not] at hc1
      refine WC.skip ?_
      refine WC.seq ?_
      refine WC.block ?_
      refine WC.seq ?_
      have him : i < m := by omega
      obtain ⟨z, hz⟩ : ∃ z, z = xs.getD i 0 := ⟨_, rfl⟩
      have hrx : Rd K F (B.map (·.add ((i : Int).toNat * 1))) (.int .i64 z) := by
        have := Seq.int_rd hs (j := (i : Int)) (by omega)
        rw [hz]
        rwa [show (i : Int).toNat = i by omega] at this ⊢
      have hnext : ddI R.g.raw (xs.take (i + 1)) = if ddOk R.g.raw l z then l ++ [z] else l := by rw [ddI_take (by omega), ← hll, ← hz]
      refine WC.regionQ (by kernel_rfl) (by kernel_rfl) ?_
      refine WQ.val (V.move (OV.p rfl)) rfl ?_
      refine WQ.val (V.move (OV.p rfl)) rfl ?_
      refine WQ.val (V.idxS st40 (OV.p rfl) (OV.p rfl) (fun hc => by omega) (fun hc => by repeat (first | exact hrx | apply Rd.up))) rfl ?_
      refine WQ.val (V.load Try.isAgg3 (OV.p rfl) (fun hc => by repeat (first | exact hrx | apply Rd.up))) rfl ?_
      refine WQ.val (V.geq (OV.p rfl) (OV.p rfl)) rfl ?_
      refine WQ.val (V.move (OV.p rfl)) rfl ?_
      refine WQ.valG (oj := _) rfl rfl rfl GC.t (V.move (OV.p rfl)) rfl ?_
      refine WQ.valG (oj := _) rfl rfl rfl GC.t (V.move (OV.p rfl)) rfl ?_
      refine WQ.valG (oj := _) rfl rfl rfl GC.t (V.idxS st40 (OV.g rfl id) (OV.g rfl id) (fun hc => by omega) (fun hc => by repeat (first | exact hrx | apply Rd.up))) rfl ?_
      refine WQ.valG (oj := _) rfl rfl rfl GC.t (V.load Try.isAgg3 (OV.g rfl id) (fun hc => by repeat (first | exact hrx | apply Rd.up))) rfl ?_
      refine WQ.valG (oj := _) rfl rfl rfl GC.t (V.move (OV.p rfl)) rfl ?_
      refine WQ.valG (oj := _) rfl rfl rfl GC.t (V.nilCheck (OV.g rfl id)) rfl ?_
      refine WQ.valG (oj := _) rfl rfl rfl GC.t (V.fieldAddr fo68_0 (OV.g rfl id)) rfl ?_
      refine WQ.valG (oj := _) rfl rfl rfl GC.t (V.loadA (vs := [_, _, _, _, _]) ⟨Try.isAgg23, Try.sizeOf23⟩ (OV.g rfl id) rfl (fun _ => by repeat (first | exact Rds.gets ⟨rfl, rfl, rfl, rfl, rfl, trivial⟩ | apply Rds.up))) rfl ?_
      refine WQ.callG (oj := _) (vs := [_]) rfl rfl rfl GC.t Try.call14 ⟨OV.g rfl id, trivial⟩ (fun hg => ref06_Raw R.g hR.mays _ _) rfl ?_
      refine WQ.valG (oj := _) rfl rfl rfl GC.t (V.mulI (OV.p rfl) (OV.g rfl id) (fun hc => by first | omega | (simp at hc; omega))) rfl ?_
      refine WQ.valG (oj := _) rfl rfl rfl GC.t (V.lss (OV.g rfl id) (OV.g rfl id)) rfl ?_
      refine WQ.val (V.pickAnd (OV.p rfl) (OV.g rfl id)) rfl ?_
      refine WQ.val (V.assign (OV.p rfl)) rfl ?_
      refine WQ.nil ?_
      refine WC.seq ?_
      refine WC.seq ?_
      refine WC.region ?_
      refine WL.val (V.assign (OV.p rfl)) rfl ?_
      refine WL.nil ?_
      refine WC.block ?_
      refine WC.loop (σ := Nat) (fun k => [(0, ptr a 0), (1, .int .i64 (bn : Int)), (2, .int .i64 (pn : Int)), (3, .slice B m cap), (8, .slice Ao l.length co), (9, .int .i64 (i : Int)), (10, .bool (ddOk R.g.raw (l.take k) z)), (11, .int .i64 (k : Int))]) (fun _ => SlA (.slice Ao l.length co) 3 1 l.length (ints .i64 l) :: (R.parts a ++ F)) (fun k => k ≤ l.length) (fun k => l.length - k) 0 (Nat.zero_le _) (.cons rfl (.cons rfl (.cons rfl (.cons rfl (.cons rfl (.cons rfl (.cons (look_eq rfl (by unfold ddOk; simp)) (.cons rfl (.nil _))))))))) (fun w h => h) ?_
      rintro k hk
      dsimp only [RW.parts, List.cons_append, List.nil_append]
      refine WC.seq ?_
      refine WC.seq ?_
      refine WC.region ?_
      refine WL.val (V.move (OV.p rfl)) rfl ?_
      refine WL.val (V.move (OV.p rfl)) rfl ?_
      refine WL.val (V.len (t := 40) Try.runUnderlying40 (OV.p rfl)) rfl ?_
      refine WL.val (V.lss (OV.p rfl) (OV.p rfl)) rfl ?_
      refine WL.nil ?_
      refine WC.cond rfl (fun hc2 => ?_) (fun hc2 => ?_)
      · simp only [decide_eq_true_eq, decide_eq_false_iff_not] at hc2
        refine WC.skip ?_
        refine WC.seq ?_
        refine WC.block ?_
        have hkl : k < l.length := by omega
        have hrl : ∀ {H : List Assn}, Rd K (SlA (.slice Ao l.length co) 3 1 l.length (ints .i64 l) :: H) (Ao.map (·.add ((k : Int).toNat * 1))) (.int .i64 (l.getD k 0)) := fun {H} => by
          have hq : Seq K (SlA (.slice Ao l.length co) 3 1 l.length (ints .i64 l) :: H) Ao l.length 1 (ints .i64 l) := SlA.seq (by simp [ints])
          have := hq.int_rd (j := (k : Int)) ⟨by omega, by omega⟩
          rwa [show (k : Int).toNat = k by omega] at this ⊢
        refine WC.regionQ (by kernel_rfl) (by kernel_rfl) ?_
        refine WQ.val (V.move (OV.p rfl)) rfl ?_
        refine WQ.val (V.move (OV.p rfl)) rfl ?_
        refine WQ.valG (oj := _) rfl rfl rfl GC.t (V.move (OV.p rfl)) rfl ?_
        refine WQ.valG (oj := _) rfl rfl rfl GC.t (V.move (OV.p rfl)) rfl ?_
        refine WQ.valG (oj := _) rfl rfl rfl GC.t (V.idxS st40 (OV.g rfl id) (OV.g rfl id) (fun hc => by omega) (fun hc => hrl)) rfl ?_
        refine WQ.valG (oj := _) rfl rfl rfl GC.t (V.load Try.isAgg3 (OV.g rfl id) (fun hc => hrl)) rfl ?_
        refine WQ.valG (oj := _) rfl rfl rfl GC.t (V.move (OV.p rfl)) rfl ?_
        refine WQ.valG (oj := _) rfl rfl rfl GC.t (V.move (OV.p rfl)) rfl ?_
        refine WQ.valG (oj := _) rfl rfl rfl GC.t (V.idxS st40 (OV.g rfl id) (OV.g rfl id) (fun hc => by omega) (fun hc => by repeat (first | exact hrx | apply Rd.up))) rfl ?_
        refine WQ.valG (oj := _) rfl rfl rfl GC.t (V.load Try.isAgg3 (OV.g rfl id) (fun hc => by repeat (first | exact hrx | apply Rd.up))) rfl ?_
        refine WQ.valG (oj := _) rfl rfl rfl GC.t (V.neq (OV.g rfl id) (OV.g rfl id)) rfl ?_
        refine WQ.val (V.pickAnd (OV.p rfl) (OV.g rfl id)) rfl ?_
        refine WQ.val (V.assign (OV.p rfl)) rfl ?_
        refine WQ.nil ?_
        refine WC.region ?_
        refine WL.val (V.move (OV.p rfl)) rfl ?_
        refine WL.val (V.addI (OV.p rfl) (OV.p rfl) (fun hc => by first | omega | (simp at hc; omega))) rfl ?_
        refine WL.val (V.assign (OV.p rfl)) rfl ?_
        refine WL.nil ?_
        refine ⟨rfl, ?_⟩
        refine ⟨k + 1, hkl, (by show l.length - (k + 1) < l.length - k; omega), .cons rfl (.cons rfl (.cons rfl (.cons rfl (.cons rfl (.cons rfl (.cons (look_eq rfl ?_) (.cons (look_eq rfl (by simp)) (.nil _)))))))), fun w h => h⟩
        have e1 : l.take (k + 1) = l.take k ++ [l.getD k 0] := by rw [List.take_add_one, List.getElem?_eq_getElem hkl]; simp [List.getD, hkl]
        rw [e1]
        unfold ddOk
        congr 1
        rw [Bool.eq_iff_iff]
        simp only [Bool.and_eq_true, decide_eq_true_eq, Bool.not_eq_true', decide_eq_false_iff_not, List.mem_append, List.mem_singleton, not_or]
        constructor
        · rintro ⟨⟨k1, k2⟩, k3⟩; exact ⟨k1, k2, fun e => k3 e.symm⟩
        · rintro ⟨k1, k2, k3⟩; exact ⟨⟨k1, k2⟩, fun e => k3 e.symm⟩
      · simp only [decide_eq_true_eq, decide_eq_false_iff_not] at hc2
        refine WC.exit ?_
        refine WC.seq ?_
        obtain rfl : k = l.length := by omega
        rw [List.take_length]
        refine WC.region ?_
        refine WL.val (V.move (OV.p rfl)) rfl ?_
        refine WL.nil ?_
        refine WC.cond rfl (fun hc3 => ?_) (fun hc3 => ?_)
        · skip
          have h3 := hc3
          rw [if_pos h3] at hnext
          refine WC.region ?_
          refine WL.val (V.move (OV.p rfl)) rfl ?_
          refine WL.val (V.move (OV.p rfl)) rfl ?_
          refine WL.val (V.move (OV.p rfl)) rfl ?_
          refine WL.val (V.idxS st40 (OV.p rfl) (OV.p rfl) (fun hc => by omega) (fun hc => by repeat (first | exact hrx | apply Rd.up))) rfl ?_
          refine WL.val (V.load Try.isAgg3 (OV.p rfl) (fun hc => by repeat (first | exact hrx | apply Rd.up))) rfl ?_
          refine WL.buildSlice (E := 3) (cs := [_]) (vs := [(0, _)]) ⟨OV.p rfl, trivial⟩ rfl (bsl40_1_0 _) rfl (fun b65 => ?_)
          refine WL.sub (Sub.refl _) (fun w h => h.p1) ?_
          refine WL.append (m := l.length) (q := 1) Try.underlying40 el3 (OV.p rfl) (OV.p rfl) (Seq.all rfl) (by intro u hu; rw [List.mem_singleton.1 hu]; rfl) (by omega) rfl rfl (fun A' c' hA' hc' => ?_)
          refine WL.val (V.assign (OV.p rfl)) rfl ?_
          refine WL.nil ?_
          refine WC.region ?_
          refine WL.val (V.move (OV.p rfl)) rfl ?_
          refine WL.val (V.addI (OV.p rfl) (OV.p rfl) (fun hc => by first | omega | (simp at hc; omega))) rfl ?_
          refine WL.val (V.assign (OV.p rfl)) rfl ?_
          refine WL.nil ?_
          refine ⟨rfl, ?_⟩
          first
          | exact ⟨(i + 1, A', c'), (by show i + 1 ≤ m; omega), (by show m - (i + 1) < m - i; omega), .cons rfl (.cons rfl (.cons rfl (.cons rfl (.cons (look_eq rfl (by dsimp only; rw [hnext, List.length_append]; rfl)) (.cons (look_eq rfl (by simp)) (.nil _)))))), fun w h => by
              dsimp only
              rw [hnext, List.length_append, ints_append]
              exact h.sel 2 [0] rfl⟩
          | exact ⟨(i + 1, Ao, co), (by show i + 1 ≤ m; omega), (by show m - (i + 1) < m - i; omega), .cons rfl (.cons rfl (.cons rfl (.cons rfl (.cons (look_eq rfl (by dsimp only; rw [hnext])) (.cons (look_eq rfl (by simp)) (.nil _)))))), fun w h => by
              dsimp only
              rw [hnext]
              exact h⟩
        · skip
          have h3 := hc3
          rw [if_neg (by rw [h3]; decide)] at hnext
          refine WC.skip ?_
          refine WC.region ?_
          refine WL.val (V.move (OV.p rfl)) rfl ?_
          refine WL.val (V.addI (OV.p rfl) (OV.p rfl) (fun hc => by first | omega | (simp at hc; omega))) rfl ?_
          refine WL.val (V.assign (OV.p rfl)) rfl ?_
          refine WL.nil ?_
          refine ⟨rfl, ?_⟩
          first
          | exact ⟨(i + 1, A', c'), (by show i + 1 ≤ m; omega), (by show m - (i + 1) < m - i; omega), .cons rfl (.cons rfl (.cons rfl (.cons rfl (.cons (look_eq rfl (by dsimp only; rw [hnext, List.length_append]; rfl)) (.cons (look_eq rfl (by simp)) (.nil _)))))), fun w h => by
              dsimp only
              rw [hnext, List.length_append, ints_append]
              exact h.sel 2 [0] rfl⟩
          | exact ⟨(i + 1, Ao, co), (by show i + 1 ≤ m; omega), (by show m - (i + 1) < m - i; omega), .cons rfl (.cons rfl (.cons rfl (.cons rfl (.cons (look_eq rfl (by dsimp only; rw [hnext])) (.cons (look_eq rfl (by simp)) (.nil _)))))), fun w h => by
              dsimp only
              rw [hnext]
              exact h⟩
    · simp only [decide_eq_true_eq, decide_eq_false_iff_not] at hc1
      refine WC.exit ?_
      obtain rfl : i = m := by omega
      have hlf : l = ddI R.g.raw xs := by rw [hll, List.take_of_length_le (by omega)]
      have hlb : ∀ q ∈ l, 0 ≤ q ∧ q < 8 * R.g.raw := fun q hq => by
        have h9 := ddI_facts (raw := R.g.raw) (xs := xs) xs.length (Nat.le_refl _)
        rw [List.take_length, ← hlf] at h9
        exact ((h9.2 q).1 hq).2
      have hrow : R.rows[bn]'(by show bn < R.rows.length; rw [List.length_map]; exact hbl) = RBlock.row x := by
        rw [List.getElem_map]
        congr 1
        rw [List.getElem?_eq_getElem hbl] at hxb
        exact Option.some.inj hxb
      refine WC.sub (H' := Cells x.pb 105 (x.pages.flatMap RPage.cells ++ x.pr) :: AllA (R.rows.eraseIdx bn) :: SlA (.slice Ao l.length co) 3 1 l.length (ints .i64 l) :: Cells a 68 R.cells :: Cells R.bb 103 (R.blocks.flatMap RBlock.cells ++ R.rest) :: AllA R.own :: F) (Sub.refl _) (fun w h => by
        have h' := Sat.takeA (k := bn) (by show bn < R.rows.length; rw [List.length_map]; exact hbl) (h.sel 5 [3, 0, 1, 2, 4] rfl)
        rw [hrow] at h'
        exact h') ?_
      refine WC.region ?_
      refine WL.val (V.move (OV.p rfl)) rfl ?_
      refine WL.val (V.nilCheck (OV.p rfl)) rfl ?_
      refine WL.val (V.fieldAddr fo68_1 (OV.p rfl)) rfl ?_
      refine WL.val (V.load Try.isAgg66 (OV.p rfl) (fun _ => by repeat (first | exact Rd.here rfl | apply Rd.up))) rfl ?_
      refine WL.val (V.move (OV.p rfl)) rfl ?_
      refine WL.val (V.idxB st66 (OV.p rfl) (OV.p rfl) (fun hc => by omega)) rfl ?_
      refine WL.val (V.fieldAddr fo103_0 (OV.p rfl)) rfl ?_
      refine WL.val (V.load Try.isAgg101 (OV.p rfl) (fun hc => Rd.up (Rd.up (Rd.up (Rd.up (Rd.here (hcell (i := 0) rfl))))))) rfl ?_
      refine WL.val (V.move (OV.p rfl)) rfl ?_
      refine WL.val (V.move (OV.p rfl)) rfl ?_
      refine WL.val (V.idxB st101 (OV.p rfl) (OV.p rfl) (fun hc => by omega)) rfl ?_
      refine WL.val (V.fieldAddr fo105_1 (OV.p rfl)) rfl ?_
      refine WL.store (cs := [_]) Try.sizeOf40 (OV.p rfl) (OV.p rfl) rfl rfl rfl (Upd.at_ (by
        have h1 : (pn + 1) * 2 ≤ x.pages.length * 2 := Nat.mul_le_mul_right _ hpl
        rw [List.length_append, flat_length pcells_len]; show 0 + (pn : Int).toNat * 2 + 1 < _; omega)) ?_
      refine WL.nil ?_
      obtain ⟨y', hy'⟩ : ∃ y' : RPage, y' = ⟨y.A, y.c, y.raw, Ao, co, l⟩ := ⟨_, rfl⟩
      obtain ⟨own', hown⟩ : ∃ own', own' = SlA (.slice Ao l.length co) 3 1 l.length (ints .i64 l) :: R.own := ⟨_, rfl⟩
      refine BodyQ.normal (H' := (R.setB bn (x.setP pn y' x.next) own').A a :: F) (Res.none rfl) (fun w h => ?_) ⟨_, ?_, ?_, rfl⟩
      · rw [show 0 + (pn : Int).toNat * 2 + 1 = pn * 2 + 1 by omega] at h
        have e1 : (R.blocks.flatMap RBlock.cells ++ R.rest).set (bn * 4 + 1) (.int .i64 x.next) = R.blocks.flatMap RBlock.cells ++ R.rest := set_at (RW.blk_get hxb (i := 1) rfl)
        refine RW.foldP (y := y) hxb hyp ?_
        rw [e1]
        have hp3 : (pn + 1) * 2 ≤ x.pages.length * 2 := Nat.mul_le_mul_right _ hpl
        have e2 : (x.pages.flatMap RPage.cells ++ x.pr).set (pn * 2 + 1) (.slice Ao l.length co) = setL (x.pages.flatMap RPage.cells ++ x.pr) (pn * 2) y'.cells := by
          rw [setL_left _ _ _ _ (by rw [flat_length pcells_len]; show pn * 2 + 2 ≤ _; omega), flat_put pcells_len x.pages pn y y' hyp, List.set_append, if_pos (by rw [flat_length pcells_len]; omega), flat_set pcells_len x.pages pn 1 y y' _ hyp (by decide) (by rw [hy']; rfl)]
        rw [e2] at h
        have h1 := (h.sel 6 [2, 5, 0, 1, 3, 4] rfl).absorb.sel 5 [1, 2, 3, 4, 0] rfl
        rw [hown]
        exact h1
      · refine hR.setP (b := bn) (p := pn) hxb ?_ (fun K w h => by rw [hown] at h; exact Sat.all (l := R.own) (H := []) h.unall.tail) (hR.next x (List.mem_of_getElem? hxb))
        rw [hy', hown]
        exact ⟨hyo.ra.up, SeqIn.here fun K => SlA.seq (by simp [ints]), hyo.rl, hyo.rb, hlb, by show l.length ≤ maxLen; simp only [maxLen]; omega⟩
      · rw [hZ]
        refine hS.setP (b := bn) (p := pn) hxb ⟨rfl, rfl, rfl, rfl, rfl, rfl, rfl, rfl, fun k hk => ?_, fun k q hkq => ?_⟩ ⟨?_, ?_⟩ hpl
        · by_cases hkb : k = bn
          · rw [if_pos hkb, hBI.next, hkb]; rfl
          · rw [if_neg hkb]; rfl
        · have hne : ¬ (((k : Int), (q : Int)) = ((bn : Int), (pn : Int))) := fun e => hkq (by injection e with e1 e2; omega)
          exact ⟨rfl, if_neg hne⟩
        · rw [hy']; exact (hBI.pg pn y hyp).raw
        · rw [hy']; show List.Perm l ((Chip.upds S.wrong _ _ _).getD []); unfold Chip.upds; rw [if_pos rfl, hlf, hraw]; exact ddI_perm _ _
end
end Go.Proofs.Ytgmdagjnigkaaaa
