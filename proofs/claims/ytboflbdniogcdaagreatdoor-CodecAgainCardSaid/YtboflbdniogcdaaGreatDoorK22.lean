/-
  Parts of a proof.
-/
import Derived.Test.YtboflbdniogcdaaGreatDoorK00
import Derived.Test.YtboflbdniogcdaaGreatDoorK15
import Derived.Test.YtboflbdniogcdaaGreatDoorK16
set_option linter.unusedVariables false
set_option linter.unusedSimpArgs false
set_option maxRecDepth 100000
set_option maxHeartbeats 100000000
namespace Go.Proofs.YtboflbdniogcdaaGreatDoor
open Go.RowKit Go.Mz
theorem nG {l:List Nat} {i:Nat} {w:List Nat} (h:(aF l)[i]? =some w):i<l.length∧w=gW l i:=by
 have hi:i<l.length:=by
  obtain⟨hx,_⟩:=cG.1 h;simpa [aF] using hx
 rw[aF,aC,dW hi] at h;exact⟨hi,(fv h).symm⟩
theorem sC {l:List Nat} {i:Nat} (h:i<l.length):(aF l)[i]? =some (gW l i):=by
 rw[aF,aC,dW h];rfl
theorem DX {l:List Nat} {i:Nat} (h:gW l i≠[]):0<l.getD i 0:=by
 rcases gm (l.getD i 0) with h0 | h0
 ·exact absurd (bG (by rw[iU,h0])) h
 ·exact h0
theorem lj {l:List Nat} (ok:OkC l) (h30:∀ n∈l,n≤30):PF (aF l):=by
 intro i k v w hik hv hw hvn;obtain⟨hi,rfl⟩:=nG hv;obtain⟨hk,rfl⟩:=nG hw;exact Dy ok h30 hi hk hik (DX hvn)
theorem ju (l:List Nat):∀ w∈aF l,Bit w:=fun w hw=>by
 rw[aF,cu] at hw;obtain⟨i,_,rfl⟩:=hw;exact wL l i
theorem xf (low:Bool) {l:List Nat} (hb:Bit l):∃ z,ag low (az low l)=l++z:=by
 refine⟨(ag low (az low l)).drop l.length,?_⟩;have:(ag low (az low l)).take l.length=l:=by
  apply gD;intro i
  by_cases hi:i<l.length
  ·have:=rP low hb i;rw[KK hi];simp only[List.getD_eq_getElem?_getD] at this;have h2:i<(ag low (az low l)).length:=by simp;omega
   rw[au h2,au hi] at this ⊢;simpa using this
  ·rw[bh (by simp;omega),bh (by omega)]
 conv=>lhs;rw[← ez l.length (ag low (az low l)),this]
def fF (W:List (List Nat)) (K:List Nat):List Nat:=K.flatMap fun i=>W.getD i []
theorem DY {W:List (List Nat)} (hb:∀ w∈W,Bit w) (K:List Nat):Bit (fF W K):=fun b h=>by
 obtain⟨i,_,h⟩:=jH.1 h;rw[List.getD_eq_getElem?_getD] at h;cases e:W[i]? with
 | none=>rw[e] at h;simp at h
 | some w=>rw[e] at h;exact hb w (aI e) b h
end Go.Proofs.YtboflbdniogcdaaGreatDoor
