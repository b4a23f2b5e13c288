/- Shapes as data. -/
import Derived.Test.YtakhaanenlblmaaOpenA
set_option linter.unusedSimpArgs false
set_option linter.unusedVariables false
namespace Go.Proofs.Ytakhaanenlblmaa
open Go.RowKit
structure Shp where
 kd:Int
 pv:Value
 p:List UInt8
 vv:Value
 v:List UInt8
 kv:Value
 ps:List (Value × List UInt8)
def shcells (s:Shp):List Value:=[.int .i64 s.kd,s.pv,s.vv,s.kv]
structure IsShp (w:World) (s:Shp):Prop where
 hp:Bytes w s.pv s.p
 hv:Bytes w s.vv s.v
 hk:Texts w s.kv s.ps
end Go.Proofs.Ytakhaanenlblmaa
