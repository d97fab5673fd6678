/- Geometries: what packages ecc, bch and casemateref06 tell of them. -/
import Derived.Test.YtcmojpiokjhmhaaTy
namespace Go.Proofs.Ytcmojpiokjhmhaa
open Go.Sl Go.RowKit
set_option linter.unusedVariables false
set_option linter.unusedSimpArgs false
set_option maxRecDepth 20000

structure Geo where
  (bl pg se sb fl : Int)
  deriving DecidableEq
namespace Geo
abbrev v (g : Geo) : Value := .agg #[.int .i64 g.bl, .int .i64 g.pg, .int .i64 g.se, .int .i64 g.sb, .int .i64 g.fl]
def zero : Geo := ⟨0, 0, 0, 0, 0⟩
def mays (g : Geo) : Prop := 1 ≤ g.bl ∧ g.bl ≤ 256 ∧ 2 ≤ g.pg ∧ g.pg ≤ 64 ∧ 1 ≤ g.se ∧ g.se ≤ 8 ∧ 4 ≤ g.sb ∧ g.sb ≤ 512 ∧ g.sb % 4 = 0 ∧ 1 ≤ g.fl ∧ g.fl ≤ 8 ∧ 16 ≤ g.se * g.sb
instance (g : Geo) : Decidable g.mays := by unfold mays; infer_instance
def may (g : Geo) : Bool := decide g.mays
def more (g : Geo) : Int := (13 * g.fl + 7) / 8
def whole (g : Geo) : Int := g.sb + g.more
def raw (g : Geo) : Int := g.se * g.whole + 1
def room (g : Geo) : Int := g.se * g.sb
theorem mul_bd {a b : Int} {A B : Int} (h1 : 0 ≤ a) (h2 : a ≤ A) (h3 : 0 ≤ b) (h4 : b ≤ B) : 0 ≤ a * b ∧ a * b ≤ A * B := ⟨Int.mul_nonneg h1 h3, Int.mul_le_mul h2 h4 h3 (by omega)⟩
theorem mays_of {g : Geo} (h : g.may = true) : g.mays := by simpa [may] using h
theorem more_bd {g : Geo} (h : g.mays) : 2 ≤ g.more ∧ g.more ≤ 13 := by unfold mays at h; unfold more; omega
theorem whole_bd {g : Geo} (h : g.mays) : 6 ≤ g.whole ∧ g.whole ≤ 525 := by have := more_bd h; unfold mays at h; unfold whole; omega
theorem raw_bd {g : Geo} (h : g.mays) : 7 ≤ g.raw ∧ g.raw ≤ 4201 := by
  have h1 := whole_bd h
  have h2 : 1 ≤ g.se ∧ g.se ≤ 8 := by unfold mays at h; omega
  have h3 := mul_bd (A := 8) (B := 525) (by omega : 0 ≤ g.se) h2.2 (by omega : 0 ≤ g.whole) h1.2
  have h4 : 1 * g.whole ≤ g.se * g.whole := Int.mul_le_mul_of_nonneg_right h2.1 (by omega)
  unfold raw
  omega
end Geo

def Geo.small (g : Geo) : Bool := !g.may || (decide (g.room ≤ 32) && decide (g.bl ≤ 16) && decide (g.pg ≤ 8))
end Go.Proofs.Ytcmojpiokjhmhaa
