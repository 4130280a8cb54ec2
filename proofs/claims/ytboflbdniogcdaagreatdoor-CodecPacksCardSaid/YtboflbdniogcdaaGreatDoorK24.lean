/-
  Parts of a proof.
-/
import Derived.Test.YtboflbdniogcdaaGreatDoorK02
import Derived.Test.YtboflbdniogcdaaGreatDoorK22
set_option linter.unusedVariables false
set_option linter.unusedSimpArgs false
set_option maxRecDepth 100000
set_option maxHeartbeats 100000000
namespace Go.Proofs.YtboflbdniogcdaaGreatDoor
open Go.RowKit Go.Mz
theorem C4 (x:Nat) (h:x<1000000000000):bits .and .i64 (x:Int) 1=((x%2:Nat):Int):=by
 show IntKind.i64.wrap ((BitVec.ofInt 64 (x:Int) &&& BitVec.ofInt 64 1).toNat:Int)=_;rw[BitVec.toNat_and,JL,JL];have e1:((x:Int)%((2^64:Nat):Int)).toNat=x:=by omega
 have e2:((1:Int)%((2^64:Nat):Int)).toNat=1:=by decide
 rw[e1,e2,nat_mask1,IntWalk.i64_in _ (by omega)]
theorem C5 {w0 w:World} {F:SProp} (h:St w0 w F) (v n:Nat) (hv:v<1000000000000) (hn:n≤30) {i j:Int} (hi:i=v) (hj:j=n):
  Calls Tryz.prog 219 #[.int .i64 i,.int .i64 j] w fun e w'=>e= .returned (.string ⟨(tx (ap v n)).toArray⟩)∧St w0 w' F:=by
 subst hi hj;have H:=ac h;clear h;have T:=eh;go_enter Tryz.func219,Tryz.ntmps219;go_wp2_with (at_make;apply ag);refine on (iF T rfl _ _ rfl n rfl rfl rfl rfl H.out (by unfold maxLen;omega) (by omega) ?_);intro v' w1 h1;obtain⟨a',cap',rfl⟩:=h1.reads.sub;have H1:=ac h1;clear h1;have hlt:(tx (ap v n)).length=n:=by simp
 have HLT:=ac hlt;clear hlt;go_wp2_with fail
 go_loopw [11] (fun i wr=>∃ k:Nat,k≤n∧i= .int .i64 k∧St w0 wr (own 5 1 (.slice a' n cap') n (((tx (ap v n)).take k++List.replicate (n-k) 0).map bv)*F)) (fun i _=>n-(intOf i).toNat)
 case atStart=>exact⟨0,Nat.zero_le _,rfl,by
  have e:(madeCells (Value.int .u8 0).cells (n*1)).toList=((tx (ap v n)).take 0++List.replicate (n-0) 0).map bv:=by
   rw[gW];simp [Value.cells,toList_madeCells_one,bv]
  rw[← e];exact H1.out⟩
 case round=>
  obtain⟨k,hk,rfl,hst⟩:=hrel
  by_cases hkn:k<n
  ·obtain⟨g,rfl⟩:=bR hst (by omega);have hfz:=hst.own_free k;have hcc:=hst.own_cell (i:=k) (u:= .int .u8 0) (by
    rw[au,dh (by rw[aJ,HLT.out];omega),aJ,HLT.out,eb,if_pos (by omega)];rfl)
   have hbit:v/2^(n-1-k)%2≤1:=by omega
   have hx:(tx (ap v n))[k]? =some (dg (v/2^(n-1-k)%2)):=by rw[tx,au,kx v n k hkn];rfl
   have HT:=ac (show(((tx (ap v n)).take k++List.replicate (n-k) 0).map bv).set k (bv (dg (v/2^(n-1-k)%2)))=((tx (ap v n)).take (k+1)++List.replicate (n-(k+1)) 0).map bv by
    rw[← ez]
    congr 1
    rw[fY,hx,lW _ _ (by rw[aJ,HLT.out];omega),aJ,HLT.out];have e2:List.replicate (n-k) (0:UInt8)=0::List.replicate (n-(k+1)) 0:=by rw[← jr];congr 1;omega
    have e3:k-min k n=0:=by omega
    rw[e2,e3];simp)
   have hsub1:IntKind.i64.wrap ((n:Int)-1)=(n:Int)-1:=IntWalk.i64_in _ (by omega);have hsub2:IntKind.i64.wrap ((n:Int)-1-k)=((n-1-k:Nat):Int):=by rw[IntWalk.i64_in _ (by omega)];omega
   have HST:=ac hst;clear hst;generalize hp:n-1-k=p at*
   have hdv:bits BinOp.and IntKind.i64 ((v:Int)/2^p) 1=((v/2^p%2:Nat):Int):=by
    rw[← C4 _ (jq (kZ _ _) hv)]
    congr 1
   have hdg:=jy hbit;generalize v/2^p%2=b at*
   have HDV:=ac hdv;clear hdv;have hk1:(k:Int)<n:=by omega
   go_wp2_with fail;refine⟨⟨k+1,by omega,by go_num,?_⟩,by simp [intOf];omega⟩;rw[HDV.out,← HT.out];have e:(Value.int .u8 ((48+(b:Int))%256))=bv (dg b):=by
    rw[bv,hdg];exact gL (by omega)
   rw[e];exact HST.out.own_set k _
  ·obtain rfl:k=n:=by omega
   have HST:=ac hst;clear hst;go_wp2_with (with_reducible (refine kr 32 9 rfl ?_));refine on (ks Tryz.underlying32 Tryz.underlying5 Tryz.underlying9 rfl rfl (n:=k) (bs:=tx (ap v k)) (by
    have:=HST.out.reads;rw[du,nC,bE,bU (by rw[HLT.out];omega)] at this;exact this) ?_)
   go_wp2_with fail;go_ret;exact⟨rfl,HST.out.right⟩
theorem ro {w:World} (k:Nat) (hk:k≤30) {s:ByteArray} (hs:s=⟨(tx (List.replicate k 1)).toArray⟩):
  Calls Tryz.prog 183 #[.string s] w fun e w'=>e= .returned (.tuple #[.string ⟨#[]⟩,.bool false])∧w=w':=by
 subst hs;have hl:(tx (List.replicate k 1)).length=k:=by simp
 go_enter Tryz.func183,Tryz.ntmps183;go_wp2_with fail
 go_loop [4] (fun i=>∃ j:Nat,j≤k∧i= .int .i64 ((j:Int)-1)) (fun i=>(intOf i+1).toNat)
 case atStart=>exact⟨k,Nat.le_refl _,by simp⟩
 case round=>
  obtain⟨j,hj,rfl⟩:=hrel;cases j with
  | zero=>
   go_wp2_with fail;go_ret2;exact⟨rfl,rfl⟩
  | succ m=>
   have e:(((m+1:Nat):Int)-1)=(m:Int):=by omega
   rw[e];have hg:(tx (List.replicate k 1))[m]? =some (dg 1):=by rw[tx,nD,eb,if_pos (by omega)]
   have hm1:(m:Int)<k:=by omega
   have hgx:∀ h,(ByteArray.mk (tx (List.replicate k 1)).toArray)[m]'h=dg 1:=fun h=>gu hg h
   have hd:(dg 1).toNat=49:=by decide
   clear hg;go_wp2_with fail;exact⟨⟨m,by omega,rfl⟩,by simp [intOf]⟩
theorem u4q {w:World} (p:List Nat) (k:Nat) (hb:Bit p) (hk:p.length+k+1≤30) {s:ByteArray} (hs:s=⟨(tx (p++0::List.replicate k 1)).toArray⟩):
  Calls Tryz.prog 183 #[.string s] w fun e w'=>e= .returned (.tuple #[.string ⟨(tx (p++1::List.replicate k 0)).toArray⟩,.bool true])∧w=w':=by
 have hl:(tx (p++0::List.replicate k 1)).length=p.length+k+1:=by simp;omega
 have hz:s.size=p.length+k+1:=by rw[hs];exact hl
 have hat:∀ m,(hm:m<s.size)→s[m]'hm=if m<p.length then dg (p.getD m 0) else if m=p.length then dg 0 else dg 1:=fun m hm=>by
  subst hs;refine gu ?_ hm;rw[tx,au];rw[hz] at hm
  by_cases h1:m<p.length
  ·rw[cR h1,if_pos h1,ai h1];simp [h1]
  ·rw[dh (by omega),if_neg h1]
   by_cases h2:m=p.length
   ·rw[if_pos h2,h2,du];rfl
   ·rw[if_neg h2];obtain⟨q,hq⟩:∃ q,m-p.length=q+1:=⟨m-p.length-1,by omega⟩;rw[hq,cY,eb,if_pos (by omega)];rfl
 have HAT:=ac hat;clear hat;have hex:s.extract 0 p.length=⟨(tx p).toArray⟩:=by
  subst hs;rw[ByteArray.extract_mk,cZ];have:(tx p).length=p.length:=by simp
  rw[jO,jP,JM (by omega),bU (by omega)]
 have HEX:=ac hex;clear hex;have HS:=ac hs;clear hs hl;go_enter Tryz.func183,Tryz.ntmps183;go_wp2_with fail
 go_loop [4] (fun i=>∃ j:Nat,p.length≤j∧j≤p.length+k∧i= .int .i64 j) (fun i=>(intOf i).toNat)
 case atStart=>exact⟨p.length+k,by omega,by omega,by simp⟩
 case round=>
  obtain⟨j,hj1,hj2,rfl⟩:=hrel;have hjs:j<s.size:=by omega
  have hgx:=HAT.out j hjs;rw[if_neg (by omega)] at hgx;have cV:(dg 1).toNat=49:=by decide
  have hd0:(dg 0).toNat=48:=by decide
  have hji:(j:Int)<s.size:=by omega
  by_cases hjp:j=p.length
  ·rw[if_pos hjp] at hgx;subst hjp;have hle:(p.length:Int)≤s.size:=by omega
   go_wp2_with fail
   go_loopg [5] k (fun g v wr=>∃ q:Nat,q+g=k∧v= .string ⟨(tx (p++1::List.replicate q 0)).toArray⟩∧wr=w)
   case atStart=>exact⟨0,by omega,by
    rw[HEX.out,show(ByteArray.mk #[49])=⟨(tx [1]).toArray⟩ from rfl,ByteArray.mk_append_mk,← cZ];rfl,rfl⟩
   case round=>
    obtain⟨q,hq,rfl,rfl⟩:=hrel;have hlq:(tx (p++1::List.replicate q 0)).length=p.length+q+1:=by simp;omega
    have hap:(tx (p++1::List.replicate (q+1) 0))=tx (p++1::List.replicate q 0)++tx [0]:=by
     rw[← cZ,List.append_assoc,dB,← ft]
    have HAP:=ac hap;clear hap
    by_cases hg:gk=0
    ·obtain rfl:q=k:=by omega
     generalize htt:tx (p++1::List.replicate q 0)=tt at*
     have HTT:=ac htt;clear htt;go_wp2_with fail;go_ret2;refine⟨?_,rfl⟩;rw[HTT.out];rfl
    ·have hqk:q<k:=by omega
     generalize tx (p++1::List.replicate q 0)=tt at*
     go_wp2_with fail
     go_roundg (gk-1)
     case measure=>omega
     case rel=>
      refine⟨q+1,by omega,?_,rfl⟩;rw[HAP.out,← ByteArray.mk_append_mk];rfl
  ·rw[if_neg hjp] at hgx;go_wp2_with fail;refine⟨⟨j-1,by omega,by omega,by go_num⟩,by simp [intOf];omega⟩
end Go.Proofs.YtboflbdniogcdaaGreatDoor
