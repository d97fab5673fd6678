import Derived.Test.YtcedojacbhnbiaaGreatP8
set_option autoImplicit true
set_option linter.all false
set_option maxHeartbeats 2000000
set_option maxRecDepth 20000
set_option relaxedAutoImplicit true
namespace Go.Proofs.YtcedojacbhnbiaaGreat
open Go.Sl Go.RowKit List Nat
def Ai(l:List Bool):List Value:=l.map Value.bool
structure Mw where
 Ah:Option Addr
 ch:Nat
 Ad:Option Addr
 cd:Nat
 has:List Bool
 iw:List ByteArray
namespace Mw
abbrev hs(M:Mw):aH:=aV (.slice M.Ah M.has.length M.ch) 4 1 M.has.length (Ai M.has)
abbrev ds(M:Mw):aH:=aV (.slice M.Ad M.iw.length M.cd) 9 1 M.iw.length (strs M.iw)
end Mw
end Go.Proofs.YtcedojacbhnbiaaGreat
