/-
  Parts of a proof.
-/
import Derived.Test.YtboflbdniogcdaaGreatDoorK00
import Derived.Lib.AppendZeros
import Derived.Test.YtboflbdniogcdaaGreatDoorK17
import Derived.Test.YtboflbdniogcdaaGreatDoorFld
import Derived.Test.YtboflbdniogcdaaGreatDoorK18
import Derived.Test.YtboflbdniogcdaaGreatDoorK20
import Derived.RegionTactic
import Derived.BigRegion
set_option linter.unusedVariables false
set_option linter.unusedSimpArgs false
set_option maxRecDepth 100000
set_option maxHeartbeats 100000000
namespace Go.Proofs.YtboflbdniogcdaaGreatDoor
open Go.RowKit Go.Mz
set_option maxRecDepth 1000000
theorem nE (w:World) (x:Int):Reads (w.alloc (.cells #[.int .i64 x] 3)) 1 (.slice (some ⟨w.heap.size,0,none⟩) 1 1) 1 ([x].map iv):=
 (St.own_blk (e:=3) (size:=1) (n:=1) (cap:=1) (xs:=[x].map iv) ((St.init w).alloc _) (Nat.le_refl _) (by decide) rfl rfl).reads
def dA (w0:World) (F:SProp):Prop:=Stb w0 F (fun w=>Lib.TabIs Tryz.prog w "strings.asciiSpace" .u8 Lib.asciiSpaceTab)
theorem sy {w0 w:World} {F:SProp} (h:St w0 w F) (ht:dA w0 F) (s:ByteArray) (ls:List (List UInt8)) (hf:Lib.fields s.data.toList=ls) (hs:s.size<4294967281) (ha:∀ b∈s.data.toList,b.toNat<128) (hl:ls.length≤100000):
  Calls Tryz.prog 174 #[.string s] w fun e w'=>∃ v,e= .returned v∧St w0 w' (own 9 1 v ls.length (ls.map bN)*F):=by
 refine(Tryz.strings_Fields s w hs (fun j b hb=>ha b (aI hb)) (ht w h)).mono ?_;rintro e w' ⟨rfl,rfl⟩;rw[hf];refine⟨_,rfl,?_⟩;exact St.own_blk (h.alloc _) (Nat.le_refl _) (by unfold maxLen;omega) (by simp) (by
  simp only[gz];rw[cW (by simp)];rfl)
theorem DV {w0 w:World} {F:SProp} (h:St w0 w F) (ht:dA w0 F):
  Calls Tryz.prog 139 #[] w fun e w'=>∃ vw vm,e= .returned (.tuple #[vw,vm])∧St w0 w' (own 9 1 vw 10 (aP.map cA)*(own 196 1 vm 10 (eL.map iv)*F)):=by
 have H:=ac h;clear h;have HT:=ac ht;clear ht;go_enter Tryz.func139,Tryz.ntmps139;go_wp2_with fail;refine(sy H.out HT.out _ (aP.map tx) (by decide +kernel) (by decide +kernel) (by decide +kernel) (by decide)).mono ?_;rintro e w2 ⟨v2,rfl,h2⟩;obtain⟨a2,c2,rfl⟩:=h2.reads.sub;have h3:=h2.lit #[.int .i64 (-3),.int .i64 (-2),.int .i64 (-1),.int .i64 0,.int .i64 1,.int .i64 2,.int .i64 3,.int .i64 4,.int .i64 5,.int .i64 6] 196 10 rfl (by decide);have H3:=ac h3;clear h2 h3;go_wp2_with fail;go_ret2;refine⟨_,_,rfl,?_⟩;have h4:=H3.out.perm (ak _ _ _);have e:(aP.map tx).map bN=aP.map cA:=by rw[eU];rfl
 rw[e] at h4;exact h4
theorem wZ {k:Nat} (h:k<104):(be.take (k+1)).map iv=(be.take k).map iv++[((dm k:Nat):Int)].map iv:=by
 have hx:be[k]? =some ((dm k:Nat):Int):=by rw[be,aC,dW h];rfl
 rw[jJ,hx,← List.map_append];rfl
theorem xd {w0 w:World} {F:SProp} (h:St w0 w F) (ht:dA w0 F) (black:Bool):
  Calls Tryz.prog 137 #[.bool black] w fun e w'=>∃ vw vl,e= .returned (.tuple #[vw,vl])∧St w0 w' (own 3 1 vl 104 (be.map iv)*(own 9 1 vw 104 ((aM black).map cA)*F)):=by
 have H:=ac h;clear h;have HT:=ac ht;clear ht;cases black
 ·go_enter Tryz.func137,Tryz.ntmps137;go_wp2_with fail;refine(sy H.out HT.out _ ((aM false).map tx) (by decide +kernel) (by decide +kernel) (by decide +kernel) (by decide +kernel)).mono ?_;rintro e w2 ⟨v2,rfl,h2⟩;have e2:((aM false).map tx).map bN=(aM false).map cA:=by rw[eU];rfl
  have l2:((aM false).map tx).length=104:=by rw[bS,ko]
  rw[e2,l2] at h2;obtain⟨a2,c2,rfl⟩:=h2.reads.sub;have H2:=ac (St.own_nil 3 1 h2);clear h2 e2 l2;obtain⟨FW,hFW⟩:∃ FW,FW=aM false:=⟨_,rfl⟩;rw[← hFW] at H2;have HFW:=ac hFW;clear hFW;have T:=eM;go_wp2_with fail
  go_loopw [7,19] (fun vo vi wr=>∃ (k:Nat) (ao:Option Addr) (co:Nat),k≤104∧vi= .int .i64 k∧vo= .slice ao k co∧St w0 wr (own 3 1 (.slice ao k co) k ((be.take k).map iv)*(own 9 1 (.slice a2 104 c2) 104 (FW.map cA)*F))) (fun _ vi _=>104-(intOf vi).toNat)
  case atStart=>exact⟨0,none,0,by omega,rfl,rfl,H2.out⟩
  case round=>
   clear H2;obtain⟨k,ao,co,hk,rfl,rfl,hst⟩:=hrel
   by_cases hk4:k<104
   ·have hk5:(k:Int)<104:=by omega
    have HX:=ac (wZ hk4);have HST:=ac hst;clear hst
    by_cases h64:k<64
    ·have h64':(k:Int)<64:=by omega
     have HL:=ac (show dm k=k by rw[dm,if_pos h64]);go_wp2_with (at_builtin;apply ap);refine on (aG T rfl _ _ rfl rfl (HST.out.drop_alloc (.cells #[.int .i64 (k:Int)] 3)) rfl (nE wr k) (fU [(k:Int)]) ?_ ?_ ?_)
     ·unfold maxLen;omega
     ·omega
     intro v' w7 h9 _;rw[HL.out] at HX;rw[← HX.out] at h9;obtain⟨aN,cN,rfl⟩:=h9.reads.sub;have H9:=ac h9;clear h9;go_wp2_with fail;exact⟨⟨k+1,aN,cN,by omega,by go_num,rfl,H9.out⟩,by simp [intOf];omega⟩
    ·have h64':¬ (k:Int)<64:=by omega
     have HL:=ac (show dm k=64*(k-63) by rw[dm,if_neg h64]);have hs1:(k:Int)-63=((k-63:Nat):Int):=by omega
     obtain⟨m,hm⟩:∃ m,m=64*(k-63):=⟨_,rfl⟩;have hs2:(64:Int)*((k-63:Nat):Int)=(m:Int):=by omega
     have hm9:m≤3000:=by omega
     rw[HL.out,← hm] at HX;clear hm HL;generalize k-63=j at*
     go_wp2_with (at_builtin;apply ap);refine on (aG T rfl _ _ rfl rfl (HST.out.drop_alloc (.cells #[.int .i64 (m:Int)] 3)) rfl (nE wr m) (fU [(m:Int)]) ?_ ?_ ?_)
     ·unfold maxLen;omega
     ·omega
     intro v' w7 h9 _;rw[← HX.out] at h9;obtain⟨aN,cN,rfl⟩:=h9.reads.sub;have H9:=ac h9;clear h9;go_wp2_with fail;exact⟨⟨k+1,aN,cN,by omega,by go_num,rfl,H9.out⟩,by simp [intOf];omega⟩
   ·obtain rfl:k=104:=by omega
    have e:be.take 104=be:=cW (by rw[pN];omega);rw[e] at hst;have HST:=ac hst;clear hst;go_wp2_with fail;go_ret2;exact⟨.slice a2 104 c2,.slice ao 104 co,rfl,by rw[← HFW.out];exact HST.out⟩
 ·go_enter Tryz.func137,Tryz.ntmps137;go_wp2_with fail;refine(sy H.out HT.out _ ((aM true).map tx) (by decide +kernel) (by decide +kernel) (by decide +kernel) (by decide +kernel)).mono ?_;rintro e w2 ⟨v2,rfl,h2⟩;have e2:((aM true).map tx).map bN=(aM true).map cA:=by rw[eU];rfl
  have l2:((aM true).map tx).length=104:=by rw[bS,ko]
  rw[e2,l2] at h2;obtain⟨a2,c2,rfl⟩:=h2.reads.sub;have H2:=ac (St.own_nil 3 1 h2);clear h2 e2 l2;obtain⟨FW,hFW⟩:∃ FW,FW=aM true:=⟨_,rfl⟩;rw[← hFW] at H2;have HFW:=ac hFW;clear hFW;have T:=eM;go_wp2_with fail
  go_loopw [7,19] (fun vo vi wr=>∃ (k:Nat) (ao:Option Addr) (co:Nat),k≤104∧vi= .int .i64 k∧vo= .slice ao k co∧St w0 wr (own 3 1 (.slice ao k co) k ((be.take k).map iv)*(own 9 1 (.slice a2 104 c2) 104 (FW.map cA)*F))) (fun _ vi _=>104-(intOf vi).toNat)
  case atStart=>exact⟨0,none,0,by omega,rfl,rfl,H2.out⟩
  case round=>
   clear H2;obtain⟨k,ao,co,hk,rfl,rfl,hst⟩:=hrel
   by_cases hk4:k<104
   ·have hk5:(k:Int)<104:=by omega
    have HX:=ac (wZ hk4);have HST:=ac hst;clear hst
    by_cases h64:k<64
    ·have h64':(k:Int)<64:=by omega
     have HL:=ac (show dm k=k by rw[dm,if_pos h64]);go_wp2_with (at_builtin;apply ap);refine on (aG T rfl _ _ rfl rfl (HST.out.drop_alloc (.cells #[.int .i64 (k:Int)] 3)) rfl (nE wr k) (fU [(k:Int)]) ?_ ?_ ?_)
     ·unfold maxLen;omega
     ·omega
     intro v' w7 h9 _;rw[HL.out] at HX;rw[← HX.out] at h9;obtain⟨aN,cN,rfl⟩:=h9.reads.sub;have H9:=ac h9;clear h9;go_wp2_with fail;exact⟨⟨k+1,aN,cN,by omega,by go_num,rfl,H9.out⟩,by simp [intOf];omega⟩
    ·have h64':¬ (k:Int)<64:=by omega
     have HL:=ac (show dm k=64*(k-63) by rw[dm,if_neg h64]);have hs1:(k:Int)-63=((k-63:Nat):Int):=by omega
     obtain⟨m,hm⟩:∃ m,m=64*(k-63):=⟨_,rfl⟩;have hs2:(64:Int)*((k-63:Nat):Int)=(m:Int):=by omega
     have hm9:m≤3000:=by omega
     rw[HL.out,← hm] at HX;clear hm HL;generalize k-63=j at*
     go_wp2_with (at_builtin;apply ap);refine on (aG T rfl _ _ rfl rfl (HST.out.drop_alloc (.cells #[.int .i64 (m:Int)] 3)) rfl (nE wr m) (fU [(m:Int)]) ?_ ?_ ?_)
     ·unfold maxLen;omega
     ·omega
     intro v' w7 h9 _;rw[← HX.out] at h9;obtain⟨aN,cN,rfl⟩:=h9.reads.sub;have H9:=ac h9;clear h9;go_wp2_with fail;exact⟨⟨k+1,aN,cN,by omega,by go_num,rfl,H9.out⟩,by simp [intOf];omega⟩
   ·obtain rfl:k=104:=by omega
    have e:be.take 104=be:=cW (by rw[pN];omega);rw[e] at hst;have HST:=ac hst;clear hst;go_wp2_with fail;go_ret2;exact⟨.slice a2 104 c2,.slice ao 104 co,rfl,by rw[← HFW.out];exact HST.out⟩
def aA (C:Nat):SProp:=fx fun x:Nat × Nat × Nat=>
 blk C (.cells #[.pointer (some ⟨x.1,0,none⟩),.pointer (some ⟨x.2.1,0,none⟩),.pointer (some ⟨x.2.2,0,none⟩)] 186)*(bD x.1 (aM false) be*(bD x.2.1 (aM true) be*en x.2.2 aP eL))
theorem sB {w0 w:World} {C:Nat} {F:SProp} (h:St w0 w (aA C*F)):∃ B0 B1 Bm:Nat,
  St w0 w (blk C (.cells #[.pointer (some ⟨B0,0,none⟩),.pointer (some ⟨B1,0,none⟩),.pointer (some ⟨Bm,0,none⟩)] 186)*(bD B0 (aM false) be*(bD B1 (aM true) be*(en Bm aP eL*F)))):=by
 obtain⟨⟨B0,B1,Bm⟩,h⟩:=h.ex_l;exact⟨B0,B1,Bm,h.perm (by simp only;ac_rfl)⟩
theorem nF {w0 w:World} {C B0 B1 Bm:Nat} {F:SProp}
  (h:St w0 w (blk C (.cells #[.pointer (some ⟨B0,0,none⟩),.pointer (some ⟨B1,0,none⟩),.pointer (some ⟨Bm,0,none⟩)] 186)*(bD B0 (aM false) be*(bD B1 (aM true) be*(en Bm aP eL*F))))):St w0 w (aA C*F):=
 St.mk_ex_l (B0,B1,Bm) (h.perm (by simp only;ac_rfl))
theorem xe {w0 w:World} {F:SProp} (black:Bool) {vm vw:Value} (h:St w0 w (own 3 1 vm 104 (be.map iv)*(own 9 1 vw 104 ((aM black).map cA)*F))):
  Calls Tryz.prog 138 #[vw,vm] w fun e w'=>∃ B,e= .returned (.tuple #[.pointer (some ⟨B,0,none⟩),.int .i64 0])∧St w0 w' (bD B (aM black) be*F):=
 DR h (by rw[ko]) (by rw[pN,ko]) (nA black) (pL black) (by rw[ko];decide) (fun w hw=>by have:=(mh black w hw).2;omega)
theorem DW {w0 w:World} {F:SProp} {vm vw:Value} (h:St w0 w (own 196 1 vm 10 (eL.map iv)*(own 9 1 vw 10 (aP.map cA)*F))):
  Calls Tryz.prog 140 #[vw,vm] w fun e w'=>∃ B,e= .returned (.tuple #[.pointer (some ⟨B,0,none⟩),.int .i64 0])∧St w0 w' (en B aP eL*F):=
 DT h (by rw[lg]) (by rw[wP,lg]) so wN (by rw[lg];decide) (fun w hw=>by have:=(pM w hw).2;omega)
theorem li {w0 w:World} {F:SProp} (h:St w0 w F) (ht:dA w0 F):
  Calls Tryz.prog 92 #[] w fun e w'=>∃ C,e= .returned (.pointer (some ⟨C,0,none⟩))∧St w0 w' (aA C*F):=by
 have h1:=h.alloc (.cells #[.pointer none,.pointer none,.pointer none] 186);have H1:=ac h1;clear h h1;have HT:=ac ht;clear ht;go_enter Tryz.func92,Tryz.ntmps92;go_upto_region 2 with (fail)
 generalize w.heap.size=C at*
 generalize w.alloc (.cells #[.pointer none,.pointer none,.pointer none] 186)=w1 at*
 go_wp2_with fail
 go_loopw [9] (fun vi wr=>(vi= .int .i64 0∧St w0 wr (blk C (.cells #[.pointer none,.pointer none,.pointer none] 186)*F))∨
  (vi= .int .i64 1∧∃ B0:Nat,St w0 wr (blk C (.cells #[.pointer (some ⟨B0,0,none⟩),.pointer none,.pointer none] 186)*(bD B0 (aM false) be*F)))∨
  (vi= .int .i64 2∧∃ B0 B1:Nat,St w0 wr (blk C (.cells #[.pointer (some ⟨B0,0,none⟩),.pointer (some ⟨B1,0,none⟩),.pointer none] 186)*(bD B1 (aM true) be*(bD B0 (aM false) be*F))))) (fun vi _=>2-(intOf vi).toNat)
 case atStart=>exact .inl ⟨rfl,H1.out⟩
 case round=>
  clear H1
  rcases hrel with ⟨rfl,hst⟩ | ⟨rfl,B0,hst⟩ | ⟨rfl,B0,B1,hst⟩
  ·have HW:=ac (xd hst (fun w h=>HT.out w h.right) false);clear hst;go_wp2_with fail;refine HW.out.mono ?_;rintro e w2 ⟨vw,vl,rfl,h2⟩;obtain⟨aw,cw,rfl⟩:=h2.right.reads.sub;obtain⟨al,cl,rfl⟩:=h2.reads.sub;have HN:=ac (xe false h2.drew);clear h2 HW;go_upto_region 6 with (fail)
   go_region_with (first | (go_at_call 138;refine HN.out.mono ?_;rintro e w3 ⟨B0,rfl,h3⟩;have h3:=h3.perm (ak _ _ _);have f0:=h3.free 0;have c0:=h3.cell 0 rfl;have H4:=ac (h3.set 0 (.pointer (some ⟨B0,0,none⟩)));clear h3))
   all_goals
    clear f0 c0 HN;generalize w3.setCell ⟨C,0,none⟩ (.pointer (some ⟨B0,0,none⟩))=w4 at*
    go_wp2_with fail;exact⟨.inr (.inl ⟨by go_num,B0,H4.out⟩),by simp [intOf]⟩
  ·have HW:=ac (xd hst (fun w h=>HT.out w h.right.right) true);clear hst;go_wp2_with fail;refine HW.out.mono ?_;rintro e w2 ⟨vw,vl,rfl,h2⟩;obtain⟨aw,cw,rfl⟩:=h2.right.reads.sub;obtain⟨al,cl,rfl⟩:=h2.reads.sub;have HN:=ac (xe true h2.drew);clear h2 HW;go_upto_region 6 with (fail)
   go_region_with (first | (go_at_call 138;refine HN.out.mono ?_;rintro e w3 ⟨B1,rfl,h3⟩;have h3:=h3.perm (ak _ _ _);have f0:=h3.free 1;have c0:=h3.cell 1 rfl;have H4:=ac (h3.set 1 (.pointer (some ⟨B1,0,none⟩)));clear h3))
   all_goals
    clear f0 c0 HN;generalize w3.setCell ⟨C,1,none⟩ (.pointer (some ⟨B1,0,none⟩))=w4 at*
    go_wp2_with fail;exact⟨.inr (.inr ⟨by go_num,B0,B1,H4.out⟩),by simp [intOf]⟩
  ·have HM:=ac (DV hst (fun w h=>HT.out w h.right.right.right));clear hst;go_wp2_with fail;refine HM.out.mono ?_;rintro e w2 ⟨vw,vm,rfl,h2⟩;have h2:=h2.perm (ak _ _ _);obtain⟨aw,cw,rfl⟩:=h2.right.reads.sub;obtain⟨am,cm,rfl⟩:=h2.reads.sub;have HN:=ac (DW h2);clear h2 HM;go_wp2_with fail;refine HN.out.mono ?_;rintro e w3 ⟨Bm,rfl,h3⟩;have h3:=h3.perm (ak _ _ _);have f0:=h3.free 2;have c0:=h3.cell 2 rfl;have H4:=ac (h3.set 2 (.pointer (some ⟨Bm,0,none⟩)));clear h3;go_wp2_with fail;go_ret;refine⟨C,rfl,nF (B0:=B0) (B1:=B1) (Bm:=Bm) ?_⟩;exact H4.out.perm (show _=blk C (.cells #[.pointer (some ⟨B0,0,none⟩),.pointer (some ⟨B1,0,none⟩),.pointer (some ⟨Bm,0,none⟩)] 186)*(bD B0 (aM false) be*(bD B1 (aM true) be*(en Bm aP eL*F))) by
    show blk C (.cells #[.pointer (some ⟨B0,0,none⟩),.pointer (some ⟨B1,0,none⟩),.pointer (some ⟨Bm,0,none⟩)] 186)*(en Bm aP eL*(bD B1 (aM true) be*(bD B0 (aM false) be*F)))=_;ac_rfl)
end Go.Proofs.YtboflbdniogcdaaGreatDoor
