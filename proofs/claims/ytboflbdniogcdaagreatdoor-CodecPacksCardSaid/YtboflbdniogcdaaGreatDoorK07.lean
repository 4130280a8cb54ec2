/-
  Parts of a proof.
-/
import Derived.Deep.RegionWith
import Derived.Deep.RegionHeld3
import Derived.Deep.Cut
import Derived.Deep.CutRange
import Derived.Test.YtboflbdniogcdaaGreatDoorK04
set_option linter.unusedVariables false
set_option linter.unusedSimpArgs false
set_option maxRecDepth 100000
set_option maxHeartbeats 100000000
namespace Go.Proofs.YtboflbdniogcdaaGreatDoor
open Go.RowKit Go.Mz
def sv (t:Txt):Value:= .string ⟨t.toArray⟩
theorem tZ:ElemT Tryz.prog 38 9 1 16 (.string ⟨#[]⟩):=
 ⟨Tryz.underlying38,info_parts (by kernel_rfl),rfl,by decide⟩
theorem qQ (l:List Txt):∀ u∈l.map sv,u.oneCell'=true:=by
 intro u hu;obtain⟨c,_,rfl⟩:=bW.1 hu;rfl
theorem AK {w:World} {i:Int} (k:Nat) (hi:i=k) (old:Bool) (hk:k≤100000):
  Calls Tryz.prog 110 #[.int .i64 i,.bool old] w fun e w'=>e= .returned (.int .i64 (cg k old))∧w=w':=by
 subst hi;have hs:IntKind.i64.wrap ((k:Int)+1)=k+1:=IntWalk.i64_in _ (by omega);cases old
 ·have HW:=ac (show cg k false=if k+1<512 then 9 else if k+1<1024 then 10 else if k+1<2048 then 11 else 12 from rfl);go_enter Tryz.func110,Tryz.ntmps110
  by_cases h1:(k:Int)+1<512
  ·go_wp2_with fail;go_ret;exact⟨by rw[HW.out,if_pos (by omega)];rfl,rfl⟩
  by_cases h2:(k:Int)+1<1024
  ·go_wp2_with fail;go_ret;exact⟨by rw[HW.out,if_neg (by omega),if_pos (by omega)];rfl,rfl⟩
  by_cases h3:(k:Int)+1<2048
  ·go_wp2_with fail;go_ret;exact⟨by rw[HW.out,if_neg (by omega),if_neg (by omega),if_pos (by omega)];rfl,rfl⟩
  ·go_wp2_with fail;go_ret;exact⟨by rw[HW.out,if_neg (by omega),if_neg (by omega),if_neg (by omega)];rfl,rfl⟩
 ·have HW:=ac (show cg k true=if k<512 then 9 else if k<1024 then 10 else if k<2048 then 11 else 12 from rfl);go_enter Tryz.func110,Tryz.ntmps110
  by_cases h1:(k:Int)<512
  ·go_wp2_with fail;go_ret;exact⟨by rw[HW.out,if_pos (by omega)];rfl,rfl⟩
  by_cases h2:(k:Int)<1024
  ·go_wp2_with fail;go_ret;exact⟨by rw[HW.out,if_neg (by omega),if_pos (by omega)];rfl,rfl⟩
  by_cases h3:(k:Int)<2048
  ·go_wp2_with fail;go_ret;exact⟨by rw[HW.out,if_neg (by omega),if_neg (by omega),if_pos (by omega)];rfl,rfl⟩
  ·go_wp2_with fail;go_ret;exact⟨by rw[HW.out,if_neg (by omega),if_neg (by omega),if_neg (by omega)];rfl,rfl⟩
theorem t4 {w0 w:World} {F:SProp} (h:St w0 w F):
  Calls Tryz.prog 62 #[] w fun e w'=>∃ v,e= .returned v∧St w0 w' (own 9 1 v aV.length (aV.map sv)*F):=by
 have H:=ac h;clear h;have T:=tZ;go_enter Tryz.func62,Tryz.ntmps62;go_wp2_with fail
 go_loopw [2,1] (fun i v wr=>∃ k:Nat,k≤258∧i= .int .i64 k∧St w0 wr (own 9 1 v k (((List.range k).map fun i=>[UInt8.ofNat i]).map sv)*F)) (fun i _ _=>258-(intOf i).toNat)
 case atStart=>exact⟨0,by omega,rfl,by simpa using St.own_nil _ _ H.out⟩
 case round=>
  obtain⟨k,hk,rfl,hst⟩:=hrel;obtain⟨a,cap,rfl⟩:=hst.reads.sub;have HS:=ac hst;clear hst
  by_cases hkn:k<258
  ·have hkz:(k:Int)<258:=by omega
   have hw8:IntKind.u8.wrap (k:Int)=((UInt8.ofNat k).toNat:Int):=by rw[IntKind.wrap_u8'];simp
   generalize hd:UInt8.ofNat k=d at*
   have HD:=ac hd;clear hd;go_wp2_with (with_reducible (refine kr 32 9 rfl ?_));refine on (ks Tryz.underlying32 Tryz.underlying5 Tryz.underlying9 rfl rfl (n:=1) (kt wr 5 d rfl) ?_);go_wp2_with (at_builtin;apply ag);have h1:=(HS.out.drop_alloc (.cells #[.int .u8 (d.toNat:Int)] 5)).lit #[.string ⟨[d].toArray⟩] 9 1 rfl (by decide);refine on (aC T rfl _ _ rfl rfl h1.right (x:= .slice (some ⟨wr.heap.size+1,0,none⟩) 1 1) rfl (m:=1) (news:=[[d]].map sv) (by have:=h1.reads;simpa [sv] using this) (qQ [[d]]) ?_ ?_ ?_)
   ·unfold maxLen;omega
   ·omega
   intro v' w7 h7 _;obtain⟨a7,c7,rfl⟩:=h7.reads.sub;have H7:=ac h7;clear h7 h1;go_wp2_with fail;refine⟨⟨k+1,by omega,by go_num,?_⟩,by simp [intOf];omega⟩;have:=H7.out;simpa [gX,HD.out,sv] using this
  ·obtain rfl:k=258:=by omega
   go_wp2_with fail;go_ret;exact⟨_,rfl,by have:=HS.out;simpa [aV] using this⟩
end Go.Proofs.YtboflbdniogcdaaGreatDoor
