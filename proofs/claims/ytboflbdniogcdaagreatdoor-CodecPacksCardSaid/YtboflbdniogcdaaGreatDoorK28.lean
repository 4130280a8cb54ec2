/-
  Parts of a proof.
-/
import Derived.Test.YtboflbdniogcdaaGreatDoorK19
import Derived.Test.YtboflbdniogcdaaGreatDoorK22
set_option linter.unusedVariables false
set_option linter.unusedSimpArgs false
set_option maxRecDepth 100000
set_option maxHeartbeats 100000000
namespace Go.Proofs.YtboflbdniogcdaaGreatDoor
open Go.RowKit Go.Mz
theorem mN {l:List Nat} {i:Nat} {w:List Nat} (h:(aB l)[i]? =some w):i<l.length∧w=eM l i:=by
 have hi:i<l.length:=by
  obtain⟨hx,_⟩:=dJ.1 h;simpa [aB] using hx
 rw[aB,au,fs hi] at h;exact⟨hi,(gm h).symm⟩
theorem rB {l:List Nat} {i:Nat} (h:i<l.length):(aB l)[i]? =some (eM l i):=by
 rw[aB,au,fs h];rfl
theorem Dy {l:List Nat} {i:Nat} (h:eM l i≠[]):0<l.getD i 0:=by
 rcases fM (l.getD i 0) with h0 | h0
 ·exact absurd (bC (by rw[jd,h0])) h
 ·exact h0
theorem lC {l:List Nat} (ok:OkC l) (h30:∀ n∈l,n≤30):PF (aB l):=by
 intro i k v w hik hv hw hvn;obtain⟨hi,rfl⟩:=mN hv;obtain⟨hk,rfl⟩:=mN hw;exact Cz ok h30 hi hk hik (Dy hvn)
theorem je (l:List Nat):∀ w∈aB l,Bit w:=fun w hw=>by
 rw[aB,bW] at hw;obtain⟨i,_,rfl⟩:=hw;exact uR l i
theorem vM (low:Bool) {l:List Nat} (hb:Bit l):∃ z,aF low (aq low l)=l++z:=by
 refine⟨(aF low (aq low l)).drop l.length,?_⟩;have:(aF low (aq low l)).take l.length=l:=by
  apply iA;intro i
  by_cases hi:i<l.length
  ·have:=nP low hb i;rw[Jp hi];simp only[List.getD_eq_getElem?_getD] at this;have h2:i<(aF low (aq low l)).length:=by simp;omega
   rw[ai h2,ai hi] at this ⊢;simpa using this
  ·rw[bg (by simp;omega),bg (by omega)]
 conv=>lhs;rw[← eQ l.length (aF low (aq low l)),this]
def fC (W:List (List Nat)) (K:List Nat):List Nat:=K.flatMap fun i=>W.getD i []
theorem Dz {W:List (List Nat)} (hb:∀ w∈W,Bit w) (K:List Nat):Bit (fC W K):=fun b h=>by
 obtain⟨i,_,h⟩:=iS.1 h;rw[List.getD_eq_getElem?_getD] at h;cases e:W[i]? with
 | none=>rw[e] at h;simp at h
 | some w=>rw[e] at h;exact hb w (aG e) b h
end Go.Proofs.YtboflbdniogcdaaGreatDoor
