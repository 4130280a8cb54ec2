/-
  Parts of a proof.
-/
import Derived.Test.YtboflbdniogcdaaGreatDoorK00
import Derived.Test.YtboflbdniogcdaaGreatDoorK05
import Derived.Test.YtboflbdniogcdaaGreatDoorK03
import Derived.WalkLawsBesides
import Derived.Test.YtboflbdniogcdaaGreatDoorK16
import Derived.Test.YtboflbdniogcdaaGreatDoorK01
import Derived.Test.YtboflbdniogcdaaGreatDoorChecked
import Derived.Deep.LoopGhost
set_option linter.unusedVariables false
set_option linter.unusedSimpArgs false
set_option maxRecDepth 100000
set_option maxHeartbeats 100000000
namespace Go.Proofs.YtboflbdniogcdaaGreatDoor
open Go.RowKit Go.Mz
theorem Fy (x:Nat) (h:x<1000000000000):bits .and .i64 (x:Int) 1=((x%2:Nat):Int):=by
 show IntKind.i64.wrap ((BitVec.ofInt 64 (x:Int) &&& BitVec.ofInt 64 1).toNat:Int)=_;rw[BitVec.toNat_and,K9,K9];have e1:((x:Int)%((2^64:Nat):Int)).toNat=x:=by omega
 have e2:((1:Int)%((2^64:Nat):Int)).toNat=1:=by decide
 rw[e1,e2,nat_mask1,IntWalk.i64_in _ (by omega)]
theorem Fz {w0 w:World} {F:SProp} (h:St w0 w F) (v n:Nat) (hv:v<1000000000000) (hn:n≤30) {i j:Int} (hi:i=v) (hj:j=n):
  Calls Tryz.prog 219 #[.int .i64 i,.int .i64 j] w fun e w'=>e= .returned (.string ⟨(tx (aE v n)).toArray⟩)∧St w0 w' F:=by
 subst hi hj;have H:=ac h;clear h;have T:=cP;go_enter Tryz.func219,Tryz.ntmps219;go_wp2_with (at_make;apply ap);refine on (gV T rfl _ _ rfl n rfl rfl rfl rfl H.out (by unfold maxLen;omega) (by omega) ?_);intro v' w1 h1;obtain⟨a',cap',rfl⟩:=h1.reads.sub;have H1:=ac h1;clear h1;have hlt:(tx (aE v n)).length=n:=by simp
 have HLT:=ac hlt;clear hlt;go_wp2_with fail
 go_loopw [11] (fun i wr=>∃ k:Nat,k≤n∧i= .int .i64 k∧St w0 wr (own 5 1 (.slice a' n cap') n (((tx (aE v n)).take k++List.replicate (n-k) 0).map bv)*F)) (fun i _=>n-(intOf i).toNat)
 case atStart=>exact⟨0,Nat.zero_le _,rfl,by
  have e:(madeCells (Value.int .u8 0).cells (n*1)).toList=((tx (aE v n)).take 0++List.replicate (n-0) 0).map bv:=by
   rw[gz];simp [Value.cells,toList_madeCells_one,bv]
  rw[← e];exact H1.out⟩
 case round=>
  obtain⟨k,hk,rfl,hst⟩:=hrel
  by_cases hkn:k<n
  ·obtain⟨g,rfl⟩:=ce hst (by omega);have hfz:=hst.own_free k;have hcc:=hst.own_cell (i:=k) (u:= .int .u8 0) (by
    rw[aC,ck (by rw[aL,HLT.out];omega),aL,HLT.out,dx,if_pos (by omega)];rfl)
   have hbit:v/2^(n-1-k)%2≤1:=by omega
   have hx:(tx (aE v n))[k]? =some (dg (v/2^(n-1-k)%2)):=by rw[tx,aC,kR v n k hkn];rfl
   have HT:=ac (show(((tx (aE v n)).take k++List.replicate (n-k) 0).map bv).set k (bv (dg (v/2^(n-1-k)%2)))=((tx (aE v n)).take (k+1)++List.replicate (n-(k+1)) 0).map bv by
    rw[← ew]
    congr 1
    rw[jJ,hx,kJ _ _ (by rw[aL,HLT.out];omega),aL,HLT.out];have e2:List.replicate (n-k) (0:UInt8)=0::List.replicate (n-(k+1)) 0:=by rw[← gU];congr 1;omega
    have e3:k-min k n=0:=by omega
    rw[e2,e3];simp)
   have hsub1:IntKind.i64.wrap ((n:Int)-1)=(n:Int)-1:=IntWalk.i64_in _ (by omega);have hsub2:IntKind.i64.wrap ((n:Int)-1-k)=((n-1-k:Nat):Int):=by rw[IntWalk.i64_in _ (by omega)];omega
   have HST:=ac hst;clear hst;generalize hp:n-1-k=p at*
   have hdv:bits BinOp.and IntKind.i64 ((v:Int)/2^p) 1=((v/2^p%2:Nat):Int):=by
    rw[← Fy _ (jh (kH _ _) hv)]
    congr 1
   have hdg:=ru hbit;generalize v/2^p%2=b at*
   have HDV:=ac hdv;clear hdv;have hk1:(k:Int)<n:=by omega
   go_wp2_with fail;refine⟨⟨k+1,by omega,by go_num,?_⟩,by simp [intOf];omega⟩;rw[HDV.out,← HT.out];have e:(Value.int .u8 ((48+(b:Int))%256))=bv (dg b):=by
    rw[bv,hdg];exact kf (by omega)
   rw[e];exact HST.out.own_set k _
  ·obtain rfl:k=n:=by omega
   have HST:=ac hst;clear hst;go_wp2_with (with_reducible (refine AQ 32 9 rfl ?_));refine on (AW Tryz.underlying32 Tryz.underlying5 Tryz.underlying9 rfl rfl (n:=k) (bs:=tx (aE v k)) (by
    have:=HST.out.reads;rw[b8,oJ,cy,cW (by rw[HLT.out];omega)] at this;exact this) ?_)
   go_wp2_with fail;go_ret;exact⟨rfl,HST.out.right⟩
end Go.Proofs.YtboflbdniogcdaaGreatDoor
