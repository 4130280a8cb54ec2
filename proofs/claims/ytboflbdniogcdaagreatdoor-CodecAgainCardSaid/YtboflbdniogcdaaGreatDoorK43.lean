/-
  Parts of a proof.
-/
import Derived.Test.YtboflbdniogcdaaGreatDoorK00
import Derived.Test.YtboflbdniogcdaaGreatDoorK42
import Derived.Test.YtboflbdniogcdaaGreatDoorK05
import Derived.Test.YtboflbdniogcdaaGreatDoorK01
import Derived.Test.YtboflbdniogcdaaGreatDoorChecked
import Derived.WalkLawsBesides
import Derived.Deep.LoopGhost
import Derived.Deep.RegionWith
import Derived.Deep.RegionHeld3
import Derived.Deep.Cut
import Derived.Deep.CutRange
import Derived.Test.YtboflbdniogcdaaGreatDoorK02
import Derived.Deep.QuietTactic
import Derived.BigQuiet
import Derived.Laws.Rows
set_option linter.unusedVariables false
set_option linter.unusedSimpArgs false
set_option maxRecDepth 100000
set_option maxHeartbeats 100000000
namespace Go.Proofs.YtboflbdniogcdaaGreatDoor
open Go.RowKit Go.Mz
theorem J0 {w0 w:World} {F:SProp} (h:St w0 w F) (bs:List UInt8) {v:Value} (hv:Stb w0 F (fun w=>Reads w 1 v bs.length (bs.map bv))) (hl:bs.length≤1000000000) (n:Int) (hn:n≤1000000000) (old:Bool):
  Calls Tryz.prog 119 #[v,.int .i64 n,.bool old] w fun e w'=>∃ v',e= .returned (.tuple #[v',.int .i64 (fC (ag old bs) old n).2])∧
   St w0 w' (own 5 1 v' (fC (ag old bs) old n).1.length ((fC (ag old bs) old n).1.map bv)*F):=by
 by_cases h0:n<0
 ·have e:fC (ag old bs) old n=([],1):=by rw[fC,if_pos h0]
  rw[e];obtain⟨av,cv,rfl⟩:=(hv w h).sub;have H:=ac h;clear h hv;go_enter Tryz.func119,Tryz.ntmps119;go_wp2_with fail;go_ret2;exact⟨.slice none 0 0,rfl,St.own_nil _ _ H.out⟩
 ·obtain⟨m,rfl⟩:∃ m:Nat,n=m:=⟨n.toNat,by omega⟩;have e:fC (ag old bs) old m=bJ (ag old bs) old m (8*bs.length+1) ⟨bz,[],0⟩ []:=by
   rw[fC,if_neg h0,eT,bM]
  rw[e];exact JZ h bs hv hl m (by omega) old _ rfl _ rfl
theorem J1 {w0 w:World} {F:SProp} (h:St w0 w F) (bs:List UInt8) {v:Value} (hv:Stb w0 F (fun w=>Reads w 1 v bs.length (bs.map bv))) (hl:bs.length≤1000000000) (n:Int) (hn:n≤1000000000):
  Calls Tryz.prog 72 #[v,.int .i64 n] w fun e w'=>∃ v',e= .returned (.tuple #[v',.int .i64 (fC (ag false bs) false n).2])∧
   St w0 w' (own 5 1 v' (fC (ag false bs) false n).1.length ((fC (ag false bs) false n).1.map bv)*F):=by
 have C:=ac (J0 h bs hv hl n hn false);obtain⟨av,cv,rfl⟩:=(hv w h).sub;clear h hv;generalize fC (ag false bs) false n=R at*
 go_enter Tryz.func72,Tryz.ntmps72;go_wp2_with fail;refine C.out.mono ?_;rintro e w2 ⟨v',rfl,h2⟩;obtain⟨a2,c2,rfl⟩:=h2.reads.sub;have H2:=ac h2;clear h2;go_wp2_with fail;go_ret2;exact⟨_,rfl,H2.out⟩
end Go.Proofs.YtboflbdniogcdaaGreatDoor
