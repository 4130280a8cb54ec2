/-
  Parts of a proof.
-/
import Derived.Test.YtboflbdniogcdaaGreatDoorK00
import Derived.Test.YtboflbdniogcdaaGreatDoorK01
import Derived.Deep.Slices
import Derived.Deep.Fields
import Derived.ProofKit
set_option linter.unusedVariables false
set_option linter.unusedSimpArgs false
set_option maxRecDepth 100000
set_option maxHeartbeats 100000000
namespace Go.Mz
open Go.RowKit Go.ChangeShapes Go.WideShapes Go.Deep
section
variable {H:Type} {enc:TypeId × Value→H} {P:Program} {w:World} {base:Nat} {spare:Nat→Bool} {held:Bool}
end
theorem kj {α:Type} (enc:α→List Value) (m:Nat) (hm:∀ x,(enc x).length=m) (l:List α) (k:Nat) (x:α) (h:l[k]? =some x) (j:Nat) (hj:j<m):(l.flatMap enc)[k*m+j]? =(enc x)[j]? :=by
 induction l generalizing k with
 | nil=>simp at h
 | cons p l ih=>
  cases k with
  | zero=>
   simp only[lL,Av] at h;subst h;rw[fR,mQ,bA,bK (by rw[hm];exact hj)]
  | succ k=>
   simp only[dE] at h;rw[fR,ck (by rw[hm,dF];omega),← ih k h,hm]
   congr 1;rw[dF];omega
end Go.Mz
