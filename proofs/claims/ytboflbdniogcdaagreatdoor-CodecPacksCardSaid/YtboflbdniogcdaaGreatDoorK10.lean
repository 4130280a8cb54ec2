/-
  Parts of a proof.
-/
import Derived.Deep.RegionHeld3
import Derived.Test.YtboflbdniogcdaaGreatDoorK09
import Derived.Test.YtboflbdniogcdaaGreatDoorK05
set_option linter.unusedVariables false
set_option linter.unusedSimpArgs false
set_option maxRecDepth 100000
set_option maxHeartbeats 100000000
namespace Go.Proofs.YtboflbdniogcdaaGreatDoor
open Go.RowKit Go.Mz
def widN (q:Nat):Nat:=if q<512 then 9 else if q<1024 then 10 else if q<2048 then 11 else 12
theorem nU {w:World} {i j:Int} (q:Nat) (hq:i+j=q) (hi:0≤i) (hj:0≤j) (hq2:q≤100000):
  Calls Tryz.prog 88 #[.int .i64 i,.int .i64 j] w fun e w'=>e= .returned (.int .i64 (widN q))∧w=w':=by
 have hs:IntKind.i64.wrap (i+j)=q:=by rw[IntWalk.i64_in _ (by omega)];exact hq
 go_enter Tryz.func88,Tryz.ntmps88;go_wp2_with fail
 go_loop [5] (fun n=>∃ k:Nat,9≤k∧k≤12∧n= .int .i64 k∧(9<k→2^(k-1)≤q)) (fun n=>12-(intOf n).toNat)
 case atStart=>exact⟨9,by omega,by omega,rfl,fun h=>by omega⟩
 case round=>
  obtain⟨k,hk1,hk2,rfl,hk3⟩:=hrel;have hk:k=9∨k=10∨k=11∨k=12:=by omega
  rcases hk with rfl | rfl | rfl | rfl
  ·by_cases hc:q<512
   ·have hc':(q:Int)<512:=by omega
    have HW:=ac (show widN q=9 by rw[widN,if_pos hc]);clear hk3;go_wp2_with fail;go_ret;refine⟨?_,rfl⟩;rw[HW.out];rfl
   ·have hc':¬ (q:Int)<512:=by omega
    clear hk3;go_wp2_with fail;exact⟨⟨10,by omega,by omega,rfl,fun _=>by simp;omega⟩,by simp [intOf]⟩
  ·by_cases hc:q<1024
   ·have hc':(q:Int)<1024:=by omega
    have h5:2^9≤q:=hk3 (by omega);simp at h5;have HW:=ac (show widN q=10 by rw[widN,if_neg (show ¬ q<512 by omega),if_pos hc]);clear hk3;go_wp2_with fail;go_ret;refine⟨?_,rfl⟩;rw[HW.out];rfl
   ·have hc':¬ (q:Int)<1024:=by omega
    clear hk3;go_wp2_with fail;exact⟨⟨11,by omega,by omega,rfl,fun _=>by simp;omega⟩,by simp [intOf]⟩
  ·by_cases hc:q<2048
   ·have hc':(q:Int)<2048:=by omega
    have h5:2^10≤q:=hk3 (by omega);simp at h5;have HW:=ac (show widN q=11 by rw[widN,if_neg (show ¬ q<512 by omega),if_neg (show ¬ q<1024 by omega),if_pos hc]);clear hk3;go_wp2_with fail;go_ret;refine⟨?_,rfl⟩;rw[HW.out];rfl
   ·have hc':¬ (q:Int)<2048:=by omega
    clear hk3;go_wp2_with fail;exact⟨⟨12,by omega,by omega,rfl,fun _=>by simp;omega⟩,by simp [intOf]⟩
  ·have h5:2^11≤q:=hk3 (by omega);simp at h5;have HW:=ac (show widN q=12 by rw[widN,if_neg (show ¬ q<512 by omega),if_neg (show ¬ q<1024 by omega),if_neg (show ¬ q<2048 by omega)]);clear hk3;go_wp2_with fail;go_ret;refine⟨?_,rfl⟩;rw[HW.out];rfl
end Go.Proofs.YtboflbdniogcdaaGreatDoor
