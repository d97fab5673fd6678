/- A head's numbers (in a seat without chips). -/
import Derived.Test.YtcmojpiokjhmhaaTy
import Derived.Test.YtcmojpiokjhmhaaSlX
namespace Go.Proofs.Ytcmojpiokjhmhaa
open Go.Sl Go.RowKit
structure Hd where
  (leb len num : Int)
  deriving DecidableEq
abbrev Hd.v (h : Hd) : Value := .agg #[.int .i64 h.leb, .int .i64 h.len, .int .i64 h.num]
abbrev Hd.cells (h : Hd) : List Value := [.int .i64 h.leb, .int .i64 h.len, .int .i64 h.num]
end Go.Proofs.Ytcmojpiokjhmhaa
