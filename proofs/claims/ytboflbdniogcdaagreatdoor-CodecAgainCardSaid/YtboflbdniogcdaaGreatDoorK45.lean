/-
  Parts of a proof.
-/
import Derived.Test.YtboflbdniogcdaaGreatDoorK00
import Derived.Test.YtboflbdniogcdaaGreatDoorK41
import Derived.Test.YtboflbdniogcdaaGreatDoorK14
import Derived.OpenShut
set_option linter.unusedVariables false
set_option linter.unusedSimpArgs false
set_option maxRecDepth 100000
set_option maxHeartbeats 100000000
namespace Go.Proofs.YtboflbdniogcdaaGreatDoor
open Go.RowKit Go.Mz Go.ChangeShapes Go.WideShapes
def inI64 (x:Int):Prop:= -9223372036854775808≤x∧x<9223372036854775808
structure PartI where
 w:Int
 h:Int
 per:Int
 wide:Int
 a:Option Addr
 c:Nat
 l:List Nat
def PartI.val (y:PartI):Value:= .agg #[.int .i64 y.w,.int .i64 y.h,.int .i64 y.per,.int .i64 y.wide,.slice y.a y.l.length y.c]
structure PartIn (w:World) (y:PartI):Prop where
 rd:Reads w 1 (.slice y.a y.l.length y.c) y.l.length (y.l.map uv)
 lt:∀ x∈y.l,x<4294967296
 w:inI64 y.w
 h:inI64 y.h
 per:inI64 y.per
 wide:inI64 y.wide
end Go.Proofs.YtboflbdniogcdaaGreatDoor
