/-
  Parts of a proof.
-/
import Derived.Test.YtboflbdniogcdaaGreatDoorK35
set_option linter.unusedVariables false
set_option linter.unusedSimpArgs false
set_option maxRecDepth 100000
set_option maxHeartbeats 100000000
namespace Go.Proofs.YtboflbdniogcdaaGreatDoor
open Go.RowKit Go.Mz
theorem na {l:List Nat} {how:Nat} {W:List (List Nat)} (h:bM l how= .inr W):∀ v∈W,Bit v:=by
 rw[bM] at h
 split at h
 ·cases h
 ·split at h
  ·cases h
  ·rename_i h0 _
   rcases rW (l.map fun(n:Nat)=>(n:Int)) with ⟨h1,_⟩ | ⟨l',h1,_,_,h2⟩
   ·exact absurd h1 h0
   ·rw[h2] at h;have:=Sum.inr.inj h;rw[← this];exact je l'
theorem FU {t:List Nat} (ht:Bit t) (p:Nat):vl t p 3≤7:=by
 have:vl t p 3<2^3:=eH true (fun i=>t.getD (p+i) 0) (fun i=>ht.getD _) 3;have:vl t p 3<8:=this;omega
theorem FV {w0 w:World} {F:SProp} {t:List Nat} (ht:Bit t) (hl:t.length≤1000000000) {p:Nat} (hp:p≤t.length) {out:List UInt8} {most:Nat} (hom:out.length≤most) (hm:most≤10000000000000) {ao:Option Addr} {co:Nat} (h:St w0 w (own 5 1 (.slice ao out.length co) (out.length) (out.map bv)*F)) {sb:ByteArray} (hsb:sb=⟨(tx t).toArray⟩):
  Calls Tryz.prog 116 #[.agg (bB sb p (.slice ao out.length co) most)] w fun e w'=>∃ (x p':Nat) (out':List UInt8) (ao':Option Addr) (co':Nat),
   e= .returned (.tuple #[.agg (bB sb p' (.slice ao' out'.length co') most),.int .i64 (x:Nat)])∧rX (gV t most p out) x p' out'∧(x=0→p'≤t.length)∧out'.length≤most∧St w0 w' (own 5 1 (.slice ao' out'.length co') out'.length (out'.map bv)*F):=by
 have T:=fA;have h1:=(h.alloc (.cells (bB sb p (.slice ao out.length co) most) 153)).alloc (.cells gI 153);have hsz:(w.alloc (.cells (bB sb p (.slice ao out.length co) most) 153)).heap.size=w.heap.size+1:=by
  show(w.heap.push _).size=_;exact gr _
 rw[hsz] at h1;have HNUM:=ac (fun(w:World) (G:SProp) (h:St w0 w G) (q:Nat) (hq:q≤t.length) (n:Nat) (hn:n≤31)=>m9 h ht hl hq n hn (ao:=ao) (no:=out.length) (co:=co) (most:=(most:Int)) hsb (j:=(n:Int)) rfl);have HLNG:=ac (fun(w:World) (G:SProp) (h:St w0 w G) (q:Nat) (hq:q≤t.length) (W:List (List Nat)) (hb:∀ v∈W,Bit v) (hW:W.length≤19) (vw:Value) (hv:Stb w0 G (fun w=>Reads w 1 vw W.length (W.map aD))) (n:Nat) (hn:n≤100000)=>FT h ht hl hq hb hW hv n hn (ao:=ao) (no:=out.length) (co:=co) (most:=(most:Int)) hsb);have HBLK:=ac (fun(w:World) (G:SProp) (q:Nat) (hq:q≤t.length) (A B:List (List Nat)) (hbA:∀ v∈A,Bit v) (hbB:∀ v∈B,Bit v) (hA:A.length≤900) (hB:B.length≤900) (h:St w0 w (own 5 1 (.slice ao out.length co) (out.length) (out.map bv)*G)) (va vb:Value) (hva:Stb w0 G (fun w=>Reads w 1 va A.length (A.map aD))) (hvb:Stb w0 G (fun w=>Reads w 1 vb B.length (B.map aD)))=>xz ht hl hq hbA hbB hA hB hom hm h hva hvb hsb);have hsbl:sb.size=t.length:=by rw[hsb,Lib.size_eq];simp
 have HR:=ac (show gV t most p out=(if t.length<p+14 then .inl 2 else
   if 286<vl t p 5+257∨30<vl t (p+5) 5+1 then .inl 3 else
   match eO t (be.take (vl t (p+10) 4+4)) (p+14) (List.replicate 19 0) with
   | .inl e=> .inl e
   | .inr (q,lens)=>
    match bM lens 0 with
    | .inl e=> .inl e
    | .inr W=>
     match cP t W (vl t p 5+257+(vl t (p+5) 5+1)) (vl t p 5+257+(vl t (p+5) 5+1)+1) [] q with
     | .inl e=> .inl e
     | .inr (q',all)=>if all.getD 256 0=0 then .inl 3 else fR t (all.take (vl t p 5+257)) (all.drop (vl t p 5+257)) 1 most q' out) from rfl)
 unfold bB gI at h1;clear h hsz hsb;have H1:=ac h1;clear h1;unfold bB at HNUM HLNG HBLK ⊢;go_enter Tryz.func116,Tryz.ntmps116;go_upto_region 1 with (fail)
 have h1:=H1.out;clear H1;generalize hb0:w.heap.size=b0 at*
 generalize hb1:b0+1=b1 at*
 generalize hWW:(w.alloc (.cells #[.string sb,.int .i64 (p:Int),.slice ao out.length co,.int .i64 (most:Int)] 153)).alloc (.cells #[.string ⟨#[]⟩,.int .i64 0,.slice none 0 0,.int .i64 0] 153)=Ww at*
 have hne:¬ b0=b1:=by omega
 have hne':¬ b1=b0:=by omega
 clear hb0 hb1 hWW;have h2:=h1.perm (show _=blk b0 (.cells #[.string sb,.int .i64 (p:Int),.slice ao out.length co,.int .i64 (most:Int)] 153)*(own 5 1 (.slice ao out.length co) (out.length) (out.map bv)*(blk b1 (.cells #[.string ⟨#[]⟩,.int .i64 0,.slice none 0 0,.int .i64 0] 153)*F)) by ac_rfl);clear h1;have c0:=h2.cell 0 rfl;have c1:=h2.cell 1 rfl;have c2:=h2.cell 2 rfl;have c3:=h2.cell 3 rfl
 by_cases hcut:t.length<p+14
 ·have hc2:(t.length:Int)<(p:Int)+14:=by omega
  rw[if_pos hcut] at HR;have hB9:=h2.perm (show _=blk b1 (.cells #[.string ⟨#[]⟩,.int .i64 0,.slice none 0 0,.int .i64 0] 153)*(blk b0 (.cells #[.string sb,.int .i64 (p:Int),.slice ao out.length co,.int .i64 (most:Int)] 153)*(own 5 1 (.slice ao out.length co) (out.length) (out.map bv)*F)) by ac_rfl);have hS9:=hB9.perm (af _ _ _);have s0:=hS9.cell 0 rfl;have s1:=hS9.cell 1 rfl;have s2:=hS9.cell 2 rfl;have s3:=hS9.cell 3 rfl;have r0:=hB9.cell 0 rfl;have r1:=hB9.cell 1 rfl;have r2:=hB9.cell 2 rfl;have r3:=hB9.cell 3 rfl;have rf0:=hB9.free 0;have rf1:=hB9.free 1;have rf2:=hB9.free 2;have rf3:=hB9.free 3;have HF:=ac (aP hB9 rfl (.string sb) (.int .i64 (p:Int)) (.slice ao out.length co) (.int .i64 (most:Int)));clear hB9 hS9 h2;go_wp2_with fail;refine cH rfl rfl HF.out.at_ Tryz.underlying153 rfl (by show _=some 4;kernel_rfl) rfl ?_;exact⟨2,p,out,ao,co,rfl,by rw[HR.out];exact⟨rfl,by decide⟩,(fun h=>by cases h),hom,HF.out.right.right⟩
 have hc2:¬ (t.length:Int)<(p:Int)+14:=by omega
 rw[if_neg hcut] at HR;obtain⟨q1,hq1⟩:∃ q1,q1=p+5:=⟨_,rfl⟩;obtain⟨q2,hq2⟩:∃ q2,q2=q1+5:=⟨_,rfl⟩;obtain⟨q3,hq3⟩:∃ q3,q3=q2+4:=⟨_,rfl⟩;rw[← hq1,show p+10=q2 by omega,show p+14=q3 by omega] at HR;have HQ3L:=ac (show q3≤t.length by omega);have HQ2L:=ac (show q2≤t.length by omega);have HQ1L:=ac (show q1≤t.length by omega);have C1:=HNUM.out Ww _ h2 p hp 5 (by omega);rw[if_neg (by omega),if_neg (by omega),if_neg (by omega),← hq1] at C1;have hv1:vl t p 5<2^5:=eH true (fun i=>t.getD (p+i) 0) (fun i=>ht.getD _) 5;have hv2:vl t q1 5<2^5:=eH true (fun i=>t.getD (q1+i) 0) (fun i=>ht.getD _) 5;have hv3:vl t q2 4<2^4:=eH true (fun i=>t.getD (q2+i) 0) (fun i=>ht.getD _) 4;have C2:=ac (fun(w:World) (G:SProp) (h:St w0 w G)=>(by have C:=HNUM.out w _ h q1 HQ1L.out 5 (by omega);rw[if_neg (by omega),if_neg (by omega),if_neg (by omega),← hq2] at C;exact C:
  Calls Tryz.prog 111 #[.agg #[.string sb,.int .i64 (q1:Int),.slice ao out.length co,.int .i64 (most:Int)],.int .i64 5] w fun e w'=>
   e= .returned (.tuple #[.agg #[.string sb,.int .i64 (q2:Int),.slice ao out.length co,.int .i64 (most:Int)],.int .i64 (vl t q1 5:Nat),.int .i64 (0:Nat)])∧St w0 w' G))
 have C3:=ac (fun(w:World) (G:SProp) (h:St w0 w G)=>(by have C:=HNUM.out w _ h q2 HQ2L.out 4 (by omega);rw[if_neg (by omega),if_neg (by omega),if_neg (by omega),← hq3] at C;exact C:
  Calls Tryz.prog 111 #[.agg #[.string sb,.int .i64 (q2:Int),.slice ao out.length co,.int .i64 (most:Int)],.int .i64 4] w fun e w'=>
   e= .returned (.tuple #[.agg #[.string sb,.int .i64 (q3:Int),.slice ao out.length co,.int .i64 (most:Int)],.int .i64 (vl t q2 4:Nat),.int .i64 (0:Nat)])∧St w0 w' G))
 generalize vl t p 5=v1 at*
 generalize vl t q1 5=v2 at*
 generalize vl t q2 4=v3 at*
 have hw1:(v1:Int)+257=((v1+257:Nat):Int):=by omega
 have hw2:(v2:Int)+1=((v2+1:Nat):Int):=by omega
 have hw3:(v3:Int)+4=((v3+4:Nat):Int):=by omega
 have hv1:v1<32:=hv1;have hv2:v2<32:=hv2;have hv3:v3<16:=hv3;have hlit:257≤v1+257∧v1+257≤288:=by omega
 have hdis:1≤v2+1∧v2+1≤32:=by omega
 have hmt:4≤v3+4∧v3+4≤19:=by omega
 generalize v1+257=lits at*
 generalize v2+1=dists at*
 generalize v3+4=mt at*
 have HC1:=ac C1;clear C1 h2 hq1 hq2 hq3 hcut;go_wp2_with fail;refine HC1.out.mono ?_;rintro e w3 ⟨rfl,h3⟩;have d0:=h3.cell 0 rfl;have d1:=h3.cell 1 rfl;have d2:=h3.cell 2 rfl;have d3:=h3.cell 3 rfl;have df0:=h3.free 0;have df1:=h3.free 1;have df2:=h3.free 2;have df3:=h3.free 3;have h4:=aP h3 rfl (.string sb) (.int .i64 (q1:Int)) (.slice ao out.length co) (.int .i64 (most:Int));clear h3 HC1;go_upto_region 4 with (fail)
 generalize (((w3.setCell ⟨b0,0,none⟩ (.string sb)).setCell ⟨b0,1,none⟩ (.int .i64 (q1:Int))).setCell ⟨b0,2,none⟩ (.slice ao out.length co)).setCell ⟨b0,3,none⟩ (.int .i64 (most:Int))=W3 at*
 clear c0 c1 c2 c3 d0 d1 d2 d3 df0 df1 df2 df3;have h4:St w0 W3 (blk b0 (.cells #[.string sb,.int .i64 (q1:Int),.slice ao out.length co,.int .i64 (most:Int)] 153)*(own 5 1 (.slice ao out.length co) (out.length) (out.map bv)*(blk b1 (.cells #[.string ⟨#[]⟩,.int .i64 0,.slice none 0 0,.int .i64 0] 153)*F))):=h4;have c0:=h4.cell 0 rfl;have c1:=h4.cell 1 rfl;have c2:=h4.cell 2 rfl;have c3:=h4.cell 3 rfl;have HC2:=ac (C2.out W3 _ h4);clear h4 C2;go_wp2_with fail;refine HC2.out.mono ?_;rintro e w4 ⟨rfl,h3⟩;have d0:=h3.cell 0 rfl;have d1:=h3.cell 1 rfl;have d2:=h3.cell 2 rfl;have d3:=h3.cell 3 rfl;have df0:=h3.free 0;have df1:=h3.free 1;have df2:=h3.free 2;have df3:=h3.free 3;have h4:=aP h3 rfl (.string sb) (.int .i64 (q2:Int)) (.slice ao out.length co) (.int .i64 (most:Int));clear h3 HC2;go_upto_region 5 with (fail)
 generalize (((w4.setCell ⟨b0,0,none⟩ (.string sb)).setCell ⟨b0,1,none⟩ (.int .i64 (q2:Int))).setCell ⟨b0,2,none⟩ (.slice ao out.length co)).setCell ⟨b0,3,none⟩ (.int .i64 (most:Int))=W4 at*
 clear c0 c1 c2 c3 d0 d1 d2 d3 df0 df1 df2 df3;have h4:St w0 W4 (blk b0 (.cells #[.string sb,.int .i64 (q2:Int),.slice ao out.length co,.int .i64 (most:Int)] 153)*(own 5 1 (.slice ao out.length co) (out.length) (out.map bv)*(blk b1 (.cells #[.string ⟨#[]⟩,.int .i64 0,.slice none 0 0,.int .i64 0] 153)*F))):=h4;have c0:=h4.cell 0 rfl;have c1:=h4.cell 1 rfl;have c2:=h4.cell 2 rfl;have c3:=h4.cell 3 rfl;have HC3:=ac (C3.out W4 _ h4);clear h4 C3;go_wp2_with fail;refine HC3.out.mono ?_;rintro e w5 ⟨rfl,h3⟩;have d0:=h3.cell 0 rfl;have d1:=h3.cell 1 rfl;have d2:=h3.cell 2 rfl;have d3:=h3.cell 3 rfl;have df0:=h3.free 0;have df1:=h3.free 1;have df2:=h3.free 2;have df3:=h3.free 3;have h4:=aP h3 rfl (.string sb) (.int .i64 (q3:Int)) (.slice ao out.length co) (.int .i64 (most:Int));clear h3 HC3;go_upto_region 7 with (fail)
 generalize (((w5.setCell ⟨b0,0,none⟩ (.string sb)).setCell ⟨b0,1,none⟩ (.int .i64 (q3:Int))).setCell ⟨b0,2,none⟩ (.slice ao out.length co)).setCell ⟨b0,3,none⟩ (.int .i64 (most:Int))=W5 at*
 clear c0 c1 c2 c3 d0 d1 d2 d3 df0 df1 df2 df3;have h4:St w0 W5 (blk b0 (.cells #[.string sb,.int .i64 (q3:Int),.slice ao out.length co,.int .i64 (most:Int)] 153)*(own 5 1 (.slice ao out.length co) (out.length) (out.map bv)*(blk b1 (.cells #[.string ⟨#[]⟩,.int .i64 0,.slice none 0 0,.int .i64 0] 153)*F))):=h4;clear hv1 hv2 hv3
 by_cases hbad:286<lits∨30<dists
 ·rw[if_pos hbad] at HR
  by_cases hb1':286<lits
  ·have hb2':286<(lits:Int):=by omega
   have hB9:=h4.perm (show _=blk b1 (.cells #[.string ⟨#[]⟩,.int .i64 0,.slice none 0 0,.int .i64 0] 153)*(blk b0 (.cells #[.string sb,.int .i64 (q3:Int),.slice ao out.length co,.int .i64 (most:Int)] 153)*(own 5 1 (.slice ao out.length co) (out.length) (out.map bv)*F)) by ac_rfl);have hS9:=hB9.perm (af _ _ _);have s0:=hS9.cell 0 rfl;have s1:=hS9.cell 1 rfl;have s2:=hS9.cell 2 rfl;have s3:=hS9.cell 3 rfl;have r0:=hB9.cell 0 rfl;have r1:=hB9.cell 1 rfl;have r2:=hB9.cell 2 rfl;have r3:=hB9.cell 3 rfl;have rf0:=hB9.free 0;have rf1:=hB9.free 1;have rf2:=hB9.free 2;have rf3:=hB9.free 3;have HF:=ac (aP hB9 rfl (.string sb) (.int .i64 (q3:Int)) (.slice ao out.length co) (.int .i64 (most:Int)));clear hB9 hS9 h4;go_wp2_with fail;refine cH rfl rfl HF.out.at_ Tryz.underlying153 rfl (by show _=some 4;kernel_rfl) rfl ?_;exact⟨3,q3,out,ao,co,rfl,by rw[HR.out];exact⟨rfl,by decide⟩,(fun h=>by cases h),hom,HF.out.right.right⟩
  ·have hb2':¬ 286<(lits:Int):=by omega
   have hb3':30<(dists:Int):=by omega
   have hB9:=h4.perm (show _=blk b1 (.cells #[.string ⟨#[]⟩,.int .i64 0,.slice none 0 0,.int .i64 0] 153)*(blk b0 (.cells #[.string sb,.int .i64 (q3:Int),.slice ao out.length co,.int .i64 (most:Int)] 153)*(own 5 1 (.slice ao out.length co) (out.length) (out.map bv)*F)) by ac_rfl);have hS9:=hB9.perm (af _ _ _);have s0:=hS9.cell 0 rfl;have s1:=hS9.cell 1 rfl;have s2:=hS9.cell 2 rfl;have s3:=hS9.cell 3 rfl;have r0:=hB9.cell 0 rfl;have r1:=hB9.cell 1 rfl;have r2:=hB9.cell 2 rfl;have r3:=hB9.cell 3 rfl;have rf0:=hB9.free 0;have rf1:=hB9.free 1;have rf2:=hB9.free 2;have rf3:=hB9.free 3;have HF:=ac (aP hB9 rfl (.string sb) (.int .i64 (q3:Int)) (.slice ao out.length co) (.int .i64 (most:Int)));clear hB9 hS9 h4;go_wp2_with fail;refine cH rfl rfl HF.out.at_ Tryz.underlying153 rfl (by show _=some 4;kernel_rfl) rfl ?_;exact⟨3,q3,out,ao,co,rfl,by rw[HR.out];exact⟨rfl,by decide⟩,(fun h=>by cases h),hom,HF.out.right.right⟩
 rw[if_neg hbad] at HR;have hb2':¬ 286<(lits:Int):=by omega
 have hb3':¬ 30<(dists:Int):=by omega
 have H4:=ac h4;clear h4;go_wp2_with (at_make;apply ag);refine on (iF T rfl _ _ rfl 19 rfl rfl rfl rfl H4.out (by decide) (by decide) ?_);intro v6 w6 h6;have h6':St w0 w6 (own 3 1 v6 19 (nvs (List.replicate 19 0))*(blk b0 (.cells #[.string sb,.int .i64 (q3:Int),.slice ao out.length co,.int .i64 (most:Int)] 153)*(own 5 1 (.slice ao out.length co) (out.length) (out.map bv)*(blk b1 (.cells #[.string ⟨#[]⟩,.int .i64 0,.slice none 0 0,.int .i64 0] 153)*F)))):=by
  have e:(madeCells (iv 0).cells (19*1)).toList=nvs (List.replicate 19 0):=by
   rw[gW];simp [iv,Value.cells,toList_madeCells_one,nvs];rfl
  rw[← e];exact h6
 obtain⟨a6,c6,rfl⟩:=h6'.reads.sub;obtain⟨g6,rfl⟩:=bR h6' (by omega);have H6:=ac (h6'.perm (show _=blk b0 (.cells #[.string sb,.int .i64 (q3:Int),.slice ao out.length co,.int .i64 (most:Int)] 153)*(own 3 1 (.slice (some ⟨g6,0,none⟩) 19 c6) 19 (nvs (List.replicate 19 0))*(own 5 1 (.slice ao out.length co) (out.length) (out.map bv)*(blk b1 (.cells #[.string ⟨#[]⟩,.int .i64 0,.slice none 0 0,.int .i64 0] 153)*F))) by ac_rfl));clear h6 h6' H4;go_wp2_with fail;obtain⟨RM,hRM⟩:∃ RM,eO t (be.take mt) q3 (List.replicate 19 0)=RM:=⟨_,rfl⟩;rw[hRM] at HR;have HRM:=ac hRM;clear hRM;have hotl:(be.take mt).length=mt:=by rw[aJ];exact lP hmt.2
 have HOT:=ac hotl;clear hotl
 go_loopw [11] (fun vi wr=>∃ (j q:Nat) (lens:List Nat),j≤mt∧vi= .int .i64 j∧lens.length=19∧(∀ x∈lens,x≤7)∧eO t ((be.take mt).drop j) q lens=RM∧q≤t.length∧
  St w0 wr (blk b0 (.cells #[.string sb,.int .i64 (q:Int),.slice ao out.length co,.int .i64 (most:Int)] 153)*(own 3 1 (.slice (some ⟨g6,0,none⟩) 19 c6) 19 (nvs lens)*(own 5 1 (.slice ao out.length co) (out.length) (out.map bv)*(blk b1 (.cells #[.string ⟨#[]⟩,.int .i64 0,.slice none 0 0,.int .i64 0] 153)*F))))) (fun vi _=>mt-(intOf vi).toNat)
 case atStart=>exact⟨0,q3,List.replicate 19 0,by omega,rfl,by simp,(fun x hx=>by rw[mg] at hx;omega),HRM.out,HQ3L.out,H6.out⟩
 case round=>
  clear H6 HRM HQ3L HQ2L HQ1L;obtain⟨j,q,lens,hj,rfl,hll,hl7,hmeta,hq,hst⟩:=hrel;have c0:=hst.cell 0 rfl;have c1:=hst.cell 1 rfl;have c2:=hst.cell 2 rfl;have c3:=hst.cell 3 rfl
  by_cases hjm:j<mt
  ·have hjm2:(j:Int)<mt:=by omega
   have hj19:j<19:=by omega
   have hjo:j<be.length:=hj19;have hx:=ai hjo;have hdrop:(be.take mt).drop j=be[j]::(be.take mt).drop (j+1):=by
    rw[cC (by rw[HOT.out];exact hjm),List.getElem_take]
   have hoc:(nvs be)[j]? =some (.int .i64 (be[j]:Nat)):=by rw[nvs,au,hx];rfl
   have hol:=ES be[j] (bo _);rw[hdrop,eO] at hmeta;generalize be[j]=oi at*
   clear hx hdrop hjo;have HOC:=ac hoc;clear hoc;have C:=HNUM.out wr _ hst q hq 3 (by omega);have HLL:=ac hll;have HL7:=ac hl7;clear hll hl7
   by_cases hcut:t.length<q+3
   ·rw[if_pos hcut,if_pos hcut,if_pos hcut] at C;rw[if_pos hcut] at hmeta;have HMX:=ac hmeta;clear hmeta;have HC:=ac C;clear C hst;go_wp2_with fail;refine HC.out.mono ?_;rintro e w7 ⟨rfl,h7⟩;have hA:=h7.alloc (.cells #[.string sb,.int .i64 (q:Int),.slice ao out.length co,.int .i64 (most:Int)] 153);clear h7 c0 c1 c2 c3 HC;go_upto_region 14 with (fail)
    generalize w7.heap.size=bt at*
    generalize w7.alloc (.cells #[.string sb,.int .i64 (q:Int),.slice ao out.length co,.int .i64 (most:Int)] 153)=W7 at*
    have hB9:=hA.perm (show _=blk b1 (.cells #[.string ⟨#[]⟩,.int .i64 0,.slice none 0 0,.int .i64 0] 153)*(blk bt (.cells #[.string sb,.int .i64 (q:Int),.slice ao out.length co,.int .i64 (most:Int)] 153)*(blk b0 (.cells #[.string sb,.int .i64 (q:Int),.slice ao out.length co,.int .i64 (most:Int)] 153)*(own 3 1 (.slice (some ⟨g6,0,none⟩) 19 c6) 19 (nvs lens)*(own 5 1 (.slice ao out.length co) (out.length) (out.map bv)*F)))) by ac_rfl);have hS9:=hB9.perm (af _ _ _);have s0:=hS9.cell 0 rfl;have s1:=hS9.cell 1 rfl;have s2:=hS9.cell 2 rfl;have s3:=hS9.cell 3 rfl;have r0:=hB9.cell 0 rfl;have r1:=hB9.cell 1 rfl;have r2:=hB9.cell 2 rfl;have r3:=hB9.cell 3 rfl;have rf0:=hB9.free 0;have rf1:=hB9.free 1;have rf2:=hB9.free 2;have rf3:=hB9.free 3;have HF:=ac (aP hB9 rfl (.string sb) (.int .i64 (q:Int)) (.slice ao out.length co) (.int .i64 (most:Int)));clear hB9 hS9 hA;go_wp2_with fail;refine cH rfl rfl HF.out.at_ Tryz.underlying153 rfl (by show _=some 4;kernel_rfl) rfl ?_;exact⟨2,q,out,ao,co,rfl,by rw[HR.out,← HMX.out];exact⟨rfl,by decide⟩,(fun h=>by cases h),hom,HF.out.right.right.right.right⟩
   ·rw[if_neg hcut,if_neg hcut,if_neg hcut] at C;rw[if_neg hcut] at hmeta;obtain⟨q4,hq4⟩:∃ q4,q4=q+3:=⟨_,rfl⟩;rw[← hq4] at C hmeta;have HQ4:=ac (show q4≤t.length by omega);clear hq4 hcut;have hn7:=FU ht q;generalize vl t q 3=n3 at*
    have HMX:=ac hmeta;clear hmeta;have HC:=ac C;clear C hst;go_wp2_with fail;refine HC.out.mono ?_;rintro e w7 ⟨rfl,h7⟩;have hA:=h7.alloc (.cells #[.string sb,.int .i64 (q4:Int),.slice ao out.length co,.int .i64 (most:Int)] 153);clear h7 c0 c1 c2 c3 HC;go_upto_region 16 with (fail)
    generalize w7.heap.size=bt at*
    generalize w7.alloc (.cells #[.string sb,.int .i64 (q4:Int),.slice ao out.length co,.int .i64 (most:Int)] 153)=W7 at*
    have HA:=ac hA;clear hA;go_wp2_with fail;refine(FN HA.out).mono ?_;rintro e w8 ⟨v8,rfl,h8⟩;obtain⟨a8,c8,rfl⟩:=h8.reads.sub;obtain⟨g8,rfl⟩:=bR h8 (by omega);have o8:=h8.own_cell HOC.out;have h9:=h8.right.perm (show _=own 3 1 (.slice (some ⟨g6,0,none⟩) 19 c6) 19 (nvs lens)*(blk bt (.cells #[.string sb,.int .i64 (q4:Int),.slice ao out.length co,.int .i64 (most:Int)] 153)*(blk b0 (.cells #[.string sb,.int .i64 (q:Int),.slice ao out.length co,.int .i64 (most:Int)] 153)*(own 5 1 (.slice ao out.length co) (out.length) (out.map bv)*(blk b1 (.cells #[.string ⟨#[]⟩,.int .i64 0,.slice none 0 0,.int .i64 0] 153)*F)))) by ac_rfl);obtain⟨u,hu⟩:∃ u,(nvs lens)[oi]? =some u:=⟨(nvs lens)[oi]'(by rw[Ey,HLL.out];exact hol),ai _⟩;have x8:=h9.own_cell hu;have f8:=h9.own_free oi;have h10:=h9.own_set oi (.int .i64 (n3:Int));have e8:(nvs lens).set oi (.int .i64 (n3:Int))=nvs (lens.set oi n3):=by rw[nvs,nvs,ez];rfl
    rw[e8] at h10;have hol2:(oi:Int)<19:=by omega
    have H10:=ac h10;clear h8 h9 h10 hu e8 HA;have HML:=ac hmt;clear hmt hbad hlit hdis hb2' hb3' hw1 hw2 hw3;go_upto_region 17 with (fail)
    clear o8 x8 f8;generalize w8.setCell ⟨g6,oi,none⟩ (.int .i64 (n3:Int))=W8 at*
    have h11:St w0 W8 (own 3 1 (.slice (some ⟨g6,0,none⟩) 19 c6) 19 (nvs (lens.set oi n3))*(blk bt (.cells #[.string sb,.int .i64 (q4:Int),.slice ao out.length co,.int .i64 (most:Int)] 153)*(blk b0 (.cells #[.string sb,.int .i64 (q:Int),.slice ao out.length co,.int .i64 (most:Int)] 153)*(own 5 1 (.slice ao out.length co) (out.length) (out.map bv)*(blk b1 (.cells #[.string ⟨#[]⟩,.int .i64 0,.slice none 0 0,.int .i64 0] 153)*F))))):=H10.out;clear H10;have h12:=h11.perm (show _=blk bt (.cells #[.string sb,.int .i64 (q4:Int),.slice ao out.length co,.int .i64 (most:Int)] 153)*(blk b0 (.cells #[.string sb,.int .i64 (q:Int),.slice ao out.length co,.int .i64 (most:Int)] 153)*(own 3 1 (.slice (some ⟨g6,0,none⟩) 19 c6) 19 (nvs (lens.set oi n3))*(own 5 1 (.slice ao out.length co) (out.length) (out.map bv)*(blk b1 (.cells #[.string ⟨#[]⟩,.int .i64 0,.slice none 0 0,.int .i64 0] 153)*F)))) by ac_rfl);have h13:=h12.perm (af _ _ _);have t0:=h12.cell 0 rfl;have t1:=h12.cell 1 rfl;have t2:=h12.cell 2 rfl;have t3:=h12.cell 3 rfl;have r0:=h13.cell 0 rfl;have r1:=h13.cell 1 rfl;have r2:=h13.cell 2 rfl;have r3:=h13.cell 3 rfl;have rf0:=h13.free 0;have rf1:=h13.free 1;have rf2:=h13.free 2;have rf3:=h13.free 3;have h14:=aP h13 rfl (.string sb) (.int .i64 (q4:Int)) (.slice ao out.length co) (.int .i64 (most:Int));have H14:=ac ((h14.perm (af _ _ _)).right);clear h11 h12 h13 h14;have HLS:(lens.set oi n3).length=19:=by rw[eE];exact HLL.out
    have HL8:∀ x∈lens.set oi n3,x≤7:=fun x hx=>by
     rcases l9 hx with h | h
     ·exact HL7.out x h
     ·rw[h];exact hn7
    have HLS':=ac HLS;have HL8':=ac HL8;clear HLS HL8;go_wp2_with fail;exact⟨⟨j+1,q4,lens.set oi n3,hjm,by go_num,HLS'.out,HL8'.out,HMX.out,HQ4.out,H14.out⟩,by simp [intOf];omega⟩
  ·obtain rfl:j=mt:=by omega
   rw[qe (by rw[HOT.out];exact Nat.le_refl _),eO] at hmeta;have hR:=HR.out;rw[← hmeta] at hR;simp only at hR;have HRY:=ac hR;clear hR hmeta HR HOT HNUM;have C:=m6 hst lens true false (by omega) (fun n hn=>by have:=hl7 n hn;omega) (v:= .slice (some ⟨g6,0,none⟩) 19 c6) (by rw[hll];exact fun w h=>h.right.reads);have hrh:dt true false=0:=rfl;rw[hrh] at C;have HWL:=ac (fun W (h:bM lens 0= .inr W)=>mU h);have HWB:=ac (fun W (h:bM lens 0= .inr W)=>na h);generalize bM lens 0=ra at*
   have HC:=ac C;clear C hst hrh;have HBD:=ac hbad;clear hl7 hmt hjm hj hbad hw1 hw2 hw3;go_wp2_with fail;refine HC.out.mono ?_;rintro e w7 hw;clear HC c0 c1 c2 c3;cases ra with
   | inl er=>
    obtain⟨hne0,rfl,h7⟩:=hw;simp only at HRY;have hne2:¬ (er:Int)=0:=by omega
    have hB9:=h7.perm (show _=blk b1 (.cells #[.string ⟨#[]⟩,.int .i64 0,.slice none 0 0,.int .i64 0] 153)*(blk b0 (.cells #[.string sb,.int .i64 (q:Int),.slice ao out.length co,.int .i64 (most:Int)] 153)*(own 3 1 (.slice (some ⟨g6,0,none⟩) 19 c6) 19 (nvs lens)*(own 5 1 (.slice ao out.length co) (out.length) (out.map bv)*F))) by ac_rfl);have hS9:=hB9.perm (af _ _ _);have s0:=hS9.cell 0 rfl;have s1:=hS9.cell 1 rfl;have s2:=hS9.cell 2 rfl;have s3:=hS9.cell 3 rfl;have r0:=hB9.cell 0 rfl;have r1:=hB9.cell 1 rfl;have r2:=hB9.cell 2 rfl;have r3:=hB9.cell 3 rfl;have rf0:=hB9.free 0;have rf1:=hB9.free 1;have rf2:=hB9.free 2;have rf3:=hB9.free 3;have HF:=ac (aP hB9 rfl (.string sb) (.int .i64 (q:Int)) (.slice ao out.length co) (.int .i64 (most:Int)));clear hB9 hS9 h7;go_wp2_with fail;refine cH rfl rfl HF.out.at_ Tryz.underlying153 rfl (by show _=some 4;kernel_rfl) rfl ?_;exact⟨er,q,out,ao,co,rfl,by rw[HRY.out];exact⟨rfl,hne0⟩,(fun h=>by omega),hom,HF.out.right.right.right⟩
   | inr W=>
    obtain⟨v7,rfl,h7⟩:=hw;simp only at HRY;have hWl:=HWL.out W rfl;have hWb:=HWB.out W rfl;have hW19:W.length≤19:=by omega
    clear HWL HWB;obtain⟨a7,c7,rfl⟩:=h7.reads.sub;have h8:=(h7.perm (show _=own 3 1 (.slice (some ⟨g6,0,none⟩) 19 c6) 19 (nvs lens)*(blk b0 (.cells #[.string sb,.int .i64 (q:Int),.slice ao out.length co,.int .i64 (most:Int)] 153)*(own 9 1 (.slice a7 W.length c7) W.length (W.map aD)*(own 5 1 (.slice ao out.length co) (out.length) (out.map bv)*(blk b1 (.cells #[.string ⟨#[]⟩,.int .i64 0,.slice none 0 0,.int .i64 0] 153)*F)))) by ac_rfl)).right;have c0:=h8.cell 0 rfl;have c1:=h8.cell 1 rfl;have c2:=h8.cell 2 rfl;have c3:=h8.cell 3 rfl;obtain⟨nn,hnn⟩:∃ nn,nn=lits+dists:=⟨_,rfl⟩;have C:=HLNG.out w7 _ h8 q hq W hWb hW19 (.slice a7 W.length c7) (fun w h=>h.right.reads) nn (by omega);rw[← hnn] at HRY;have HLF:=ac (fun q' all (h:cP t W nn (nn+1) [] q= .inr (q',all))=>ER (nn+1) [] q q' all h (by simp));generalize cP t W nn (nn+1) [] q=rl at*
    have HC:=ac C;clear C h7 h8 hWl hll;have hsum:(lits:Int)+dists=(nn:Int):=by omega
    have HNN:=ac hnn;clear hnn;go_wp2_with fail;refine HC.out.mono ?_;rintro e w8 ⟨v8,x,q5,rfl,hlr,hq5⟩;clear HC c0 c1 c2 c3 hsum;cases rl with
    | inl er=>
     obtain⟨hx,hne0,h9⟩:=hlr;subst hx;simp only at HRY;have hne2:¬ (x:Int)=0:=by omega
     have d0:=h9.cell 0 rfl;have d1:=h9.cell 1 rfl;have d2:=h9.cell 2 rfl;have d3:=h9.cell 3 rfl;have df0:=h9.free 0;have df1:=h9.free 1;have df2:=h9.free 2;have df3:=h9.free 3;have h10:=aP h9 rfl (.string sb) (.int .i64 (q5:Int)) (.slice ao out.length co) (.int .i64 (most:Int));clear h9;go_upto_region 22 with (fail)
     generalize (((w8.setCell ⟨b0,0,none⟩ (.string sb)).setCell ⟨b0,1,none⟩ (.int .i64 (q5:Int))).setCell ⟨b0,2,none⟩ (.slice ao out.length co)).setCell ⟨b0,3,none⟩ (.int .i64 (most:Int))=W8 at*
     clear d0 d1 d2 d3 df0 df1 df2 df3;have h10:St w0 W8 (blk b0 (.cells #[.string sb,.int .i64 (q5:Int),.slice ao out.length co,.int .i64 (most:Int)] 153)*(own 9 1 (.slice a7 W.length c7) W.length (W.map aD)*(own 5 1 (.slice ao out.length co) (out.length) (out.map bv)*(blk b1 (.cells #[.string ⟨#[]⟩,.int .i64 0,.slice none 0 0,.int .i64 0] 153)*F)))):=h10;have hB9:=h10.perm (show _=blk b1 (.cells #[.string ⟨#[]⟩,.int .i64 0,.slice none 0 0,.int .i64 0] 153)*(blk b0 (.cells #[.string sb,.int .i64 (q5:Int),.slice ao out.length co,.int .i64 (most:Int)] 153)*(own 9 1 (.slice a7 W.length c7) W.length (W.map aD)*(own 5 1 (.slice ao out.length co) (out.length) (out.map bv)*F))) by ac_rfl);have hS9:=hB9.perm (af _ _ _);have s0:=hS9.cell 0 rfl;have s1:=hS9.cell 1 rfl;have s2:=hS9.cell 2 rfl;have s3:=hS9.cell 3 rfl;have r0:=hB9.cell 0 rfl;have r1:=hB9.cell 1 rfl;have r2:=hB9.cell 2 rfl;have r3:=hB9.cell 3 rfl;have rf0:=hB9.free 0;have rf1:=hB9.free 1;have rf2:=hB9.free 2;have rf3:=hB9.free 3;have HF:=ac (aP hB9 rfl (.string sb) (.int .i64 (q5:Int)) (.slice ao out.length co) (.int .i64 (most:Int)));clear hB9 hS9 h10;go_wp2_with fail;refine cH rfl rfl HF.out.at_ Tryz.underlying153 rfl (by show _=some 4;kernel_rfl) rfl ?_;exact⟨x,q5,out,ao,co,rfl,by rw[HRY.out];exact⟨rfl,hne0⟩,(fun h=>by omega),hom,HF.out.right.right.right⟩
    | inr qa=>
     obtain⟨q6,all⟩:=qa;obtain⟨hx,hq6,h9⟩:=hlr;subst hx hq6;simp only at HRY;obtain⟨hal,hal15⟩:=HLF.out q5 all rfl;rw[HNN.out] at hal;have h9:St w0 w8 (own 3 1 v8 all.length (nvs all)*(blk b0 (.cells #[.string sb,.int .i64 (q:Int),.slice ao out.length co,.int .i64 (most:Int)] 153)*(own 9 1 (.slice a7 W.length c7) W.length (W.map aD)*(own 5 1 (.slice ao out.length co) (out.length) (out.map bv)*(blk b1 (.cells #[.string ⟨#[]⟩,.int .i64 0,.slice none 0 0,.int .i64 0] 153)*F))))):=h9;clear HLF;obtain⟨a8,c8,rfl⟩:=h9.reads.sub;have hown:∃ g8,a8=some ⟨g8,0,none⟩∧all.length≤c8:=by
      obtain⟨_,⟨_,h0,_⟩ | ⟨g',cap',cur,e1,e2,_⟩⟩:=h9.own_split
      ·omega
      ·cases e1;exact⟨g',rfl,e2⟩
     obtain⟨g8,rfl,hc8⟩:=hown;have hl256:(256:Int)<all.length:=by omega
     have hl256':256<all.length:=by omega
     have htk:(all.take lits).length=lits:=by rw[aJ];omega
     have hdk:(all.drop lits).length=all.length-lits:=by rw[bH]
     have hls:(lits:Int)≤all.length:=by omega
     have hls2:lits≤all.length:=by omega
     have hls3:lits≤c8:=by omega
     have hls4:(lits:Int)≤c8:=by omega
     have hac:(all.length:Int)≤c8:=by omega
     have hcne:¬ c8=lits:=by omega
     have HTK:=ac htk;have HDK:=ac hdk;have HAL:=ac hal;have HA15:=ac hal15;have HLIT:=ac hlit;have HDIS:=ac hdis;clear htk hdk hal hal15 hlit hdis;have h9:=(h9.perm (show _=own 9 1 (.slice a7 W.length c7) W.length (W.map aD)*(blk b0 (.cells #[.string sb,.int .i64 (q:Int),.slice ao out.length co,.int .i64 (most:Int)] 153)*(own 3 1 (.slice (some ⟨g8,0,none⟩) all.length c8) all.length (nvs all)*(own 5 1 (.slice ao out.length co) (out.length) (out.map bv)*(blk b1 (.cells #[.string ⟨#[]⟩,.int .i64 0,.slice none 0 0,.int .i64 0] 153)*F)))) by ac_rfl)).right;have d0:=h9.cell 0 rfl;have d1:=h9.cell 1 rfl;have d2:=h9.cell 2 rfl;have d3:=h9.cell 3 rfl;have df0:=h9.free 0;have df1:=h9.free 1;have df2:=h9.free 2;have df3:=h9.free 3;have h10:=aP h9 rfl (.string sb) (.int .i64 (q5:Int)) (.slice ao out.length co) (.int .i64 (most:Int));clear h9;go_upto_region 22 with (fail)
     generalize (((w8.setCell ⟨b0,0,none⟩ (.string sb)).setCell ⟨b0,1,none⟩ (.int .i64 (q5:Int))).setCell ⟨b0,2,none⟩ (.slice ao out.length co)).setCell ⟨b0,3,none⟩ (.int .i64 (most:Int))=W8 at*
     clear d0 d1 d2 d3 df0 df1 df2 df3;have h10:St w0 W8 (blk b0 (.cells #[.string sb,.int .i64 (q5:Int),.slice ao out.length co,.int .i64 (most:Int)] 153)*(own 3 1 (.slice (some ⟨g8,0,none⟩) all.length c8) all.length (nvs all)*(own 5 1 (.slice ao out.length co) (out.length) (out.map bv)*(blk b1 (.cells #[.string ⟨#[]⟩,.int .i64 0,.slice none 0 0,.int .i64 0] 153)*F)))):=h10;have h256:W8.cell? ⟨g8,256,none⟩=some (.int .i64 (all.getD 256 0:Nat)):=h10.right.own_cell (i:=256) (by
      rw[nvs,au,List.getD_eq_getElem?_getD,ai hl256'];rfl)
     by_cases hz:all.getD 256 0=0
     ·rw[if_pos hz] at HRY;rw[hz] at h256;have hB9:=h10.perm (show _=blk b1 (.cells #[.string ⟨#[]⟩,.int .i64 0,.slice none 0 0,.int .i64 0] 153)*(blk b0 (.cells #[.string sb,.int .i64 (q5:Int),.slice ao out.length co,.int .i64 (most:Int)] 153)*(own 3 1 (.slice (some ⟨g8,0,none⟩) all.length c8) all.length (nvs all)*(own 5 1 (.slice ao out.length co) (out.length) (out.map bv)*F))) by ac_rfl);have hS9:=hB9.perm (af _ _ _);have s0:=hS9.cell 0 rfl;have s1:=hS9.cell 1 rfl;have s2:=hS9.cell 2 rfl;have s3:=hS9.cell 3 rfl;have r0:=hB9.cell 0 rfl;have r1:=hB9.cell 1 rfl;have r2:=hB9.cell 2 rfl;have r3:=hB9.cell 3 rfl;have rf0:=hB9.free 0;have rf1:=hB9.free 1;have rf2:=hB9.free 2;have rf3:=hB9.free 3;have HF:=ac (aP hB9 rfl (.string sb) (.int .i64 (q5:Int)) (.slice ao out.length co) (.int .i64 (most:Int)));clear hB9 hS9 h10;go_wp2_with fail;refine cH rfl rfl HF.out.at_ Tryz.underlying153 rfl (by show _=some 4;kernel_rfl) rfl ?_;exact⟨3,q5,out,ao,co,rfl,by rw[HRY.out];exact⟨rfl,by decide⟩,(fun h=>by cases h),hom,HF.out.right.right.right⟩
     rw[if_neg hz,fR] at HRY;generalize all.getD 256 0=z256 at*
     have hz2:¬ (z256:Int)=0:=by omega
     have C:=m6 h10 (all.take lits) true false (by rw[HTK.out];have:=HLIT.out;omega) (fun n hn=>by have:=HA15.out n (jo hn);omega) (v:= .slice (some ⟨g8,0,none⟩) lits c8) (by
       rw[HTK.out];intro w h;have:=Reads.take h.right.reads (k:=lits) (by omega);rw[nvs,← kn] at this;exact this)
     have hrh:dt true false=0:=rfl;rw[hrh] at C;have HWL:=ac (fun W (h:bM (all.take lits) 0= .inr W)=>mU h);have HWB:=ac (fun W (h:bM (all.take lits) 0= .inr W)=>na h);generalize bM (all.take lits) 0=ra at*
     have HC:=ac C;clear C hrh;have HZ:=ac hz;clear hz;go_wp2_with fail;refine HC.out.mono ?_;rintro e w9 hw;clear HC h256;cases ra with
     | inl er=>
      obtain⟨hne0,rfl,h11⟩:=hw;simp only at HRY;have hne2:¬ (er:Int)=0:=by omega
      clear h10;have hB9:=h11.perm (show _=blk b1 (.cells #[.string ⟨#[]⟩,.int .i64 0,.slice none 0 0,.int .i64 0] 153)*(blk b0 (.cells #[.string sb,.int .i64 (q5:Int),.slice ao out.length co,.int .i64 (most:Int)] 153)*(own 3 1 (.slice (some ⟨g8,0,none⟩) all.length c8) all.length (nvs all)*(own 5 1 (.slice ao out.length co) (out.length) (out.map bv)*F))) by ac_rfl);have hS9:=hB9.perm (af _ _ _);have s0:=hS9.cell 0 rfl;have s1:=hS9.cell 1 rfl;have s2:=hS9.cell 2 rfl;have s3:=hS9.cell 3 rfl;have r0:=hB9.cell 0 rfl;have r1:=hB9.cell 1 rfl;have r2:=hB9.cell 2 rfl;have r3:=hB9.cell 3 rfl;have rf0:=hB9.free 0;have rf1:=hB9.free 1;have rf2:=hB9.free 2;have rf3:=hB9.free 3;have HF:=ac (aP hB9 rfl (.string sb) (.int .i64 (q5:Int)) (.slice ao out.length co) (.int .i64 (most:Int)));clear hB9 hS9 h11;go_wp2_with fail;refine cH rfl rfl HF.out.at_ Tryz.underlying153 rfl (by show _=some 4;kernel_rfl) rfl ?_;exact⟨er,q5,out,ao,co,rfl,by rw[HRY.out];exact⟨rfl,hne0⟩,(fun h=>by omega),hom,HF.out.right.right.right⟩
     | inr A=>
      obtain⟨v9,rfl,h11⟩:=hw;simp only at HRY;have hAl:=HWL.out A rfl;have hAb:=HWB.out A rfl;have hA9:A.length≤900:=by rw[hAl,HTK.out];have:=HLIT.out;omega
      clear HWL HWB h10 hAl;obtain⟨a9,c9,rfl⟩:=h11.reads.sub;have h12:=h11.perm (show _=blk b0 (.cells #[.string sb,.int .i64 (q5:Int),.slice ao out.length co,.int .i64 (most:Int)] 153)*(own 3 1 (.slice (some ⟨g8,0,none⟩) all.length c8) all.length (nvs all)*(own 9 1 (.slice a9 A.length c9) A.length (A.map aD)*(own 5 1 (.slice ao out.length co) (out.length) (out.map bv)*(blk b1 (.cells #[.string ⟨#[]⟩,.int .i64 0,.slice none 0 0,.int .i64 0] 153)*F)))) by ac_rfl);have C:=m6 h12 (all.drop lits) true true (by rw[HDK.out];have:=HAL.out;have:=HDIS.out;omega) (fun n hn=>by have:=HA15.out n (sX hn);omega) (v:= .slice (some ⟨g8,lits,none⟩) (all.length-lits) (c8-lits)) (by
        rw[HDK.out];intro w h;have:=Reads.drop h.right.reads (k:=lits) (by omega);rw[nvs,← nw] at this;exact this)
      have hrh:dt true true=1:=rfl;rw[hrh] at C;have HWL:=ac (fun W (h:bM (all.drop lits) 1= .inr W)=>mU h);have HWB:=ac (fun W (h:bM (all.drop lits) 1= .inr W)=>na h);generalize bM (all.drop lits) 1=rb at*
      have HC:=ac C;clear C hrh h11 h12;go_wp2_with fail;refine HC.out.mono ?_;rintro e w10 hw;clear HC;cases rb with
      | inl er=>
       obtain⟨hne0,rfl,h13⟩:=hw;simp only at HRY;have hne2:¬ (er:Int)=0:=by omega
       have hB9:=h13.perm (show _=blk b1 (.cells #[.string ⟨#[]⟩,.int .i64 0,.slice none 0 0,.int .i64 0] 153)*(blk b0 (.cells #[.string sb,.int .i64 (q5:Int),.slice ao out.length co,.int .i64 (most:Int)] 153)*(own 3 1 (.slice (some ⟨g8,0,none⟩) all.length c8) all.length (nvs all)*(own 9 1 (.slice a9 A.length c9) A.length (A.map aD)*(own 5 1 (.slice ao out.length co) (out.length) (out.map bv)*F)))) by ac_rfl);have hS9:=hB9.perm (af _ _ _);have s0:=hS9.cell 0 rfl;have s1:=hS9.cell 1 rfl;have s2:=hS9.cell 2 rfl;have s3:=hS9.cell 3 rfl;have r0:=hB9.cell 0 rfl;have r1:=hB9.cell 1 rfl;have r2:=hB9.cell 2 rfl;have r3:=hB9.cell 3 rfl;have rf0:=hB9.free 0;have rf1:=hB9.free 1;have rf2:=hB9.free 2;have rf3:=hB9.free 3;have HF:=ac (aP hB9 rfl (.string sb) (.int .i64 (q5:Int)) (.slice ao out.length co) (.int .i64 (most:Int)));clear hB9 hS9 h13;go_wp2_with fail;refine cH rfl rfl HF.out.at_ Tryz.underlying153 rfl (by show _=some 4;kernel_rfl) rfl ?_;exact⟨er,q5,out,ao,co,rfl,by rw[HRY.out];exact⟨rfl,hne0⟩,(fun h=>by omega),hom,HF.out.right.right.right.right⟩
      | inr B=>
       obtain⟨v10,rfl,h13⟩:=hw;simp only at HRY;have hBl:=HWL.out B rfl;have hBb:=HWB.out B rfl;have hB9:B.length≤900:=by rw[hBl,HDK.out];have:=HAL.out;have:=HDIS.out;omega
       clear HWL HWB hBl;obtain⟨a10,c10,rfl⟩:=h13.reads.sub;have h14:=(h13.perm (show _=own 3 1 (.slice (some ⟨g8,0,none⟩) all.length c8) all.length (nvs all)*(own 5 1 (.slice ao out.length co) (out.length) (out.map bv)*(blk b0 (.cells #[.string sb,.int .i64 (q5:Int),.slice ao out.length co,.int .i64 (most:Int)] 153)*(blk b1 (.cells #[.string ⟨#[]⟩,.int .i64 0,.slice none 0 0,.int .i64 0] 153)*(own 9 1 (.slice a9 A.length c9) A.length (A.map aD)*(own 9 1 (.slice a10 B.length c10) B.length (B.map aD)*F))))) by ac_rfl)).right;have c0:=h14.right.cell 0 rfl;have c1:=h14.right.cell 1 rfl;have c2:=h14.right.cell 2 rfl;have c3:=h14.right.cell 3 rfl;have C:=HBLK.out w10 _ q5 hq5 A B hAb hBb hA9 hB9 h14 (.slice a9 A.length c9) (.slice a10 B.length c10) (fun w h=>h.right.right.reads) (fun w h=>h.right.right.right.reads);have HC:=ac C;clear C h13 h14 HBLK HLNG;clear hls hls2 hls3 hls4 hac hcne hb2' hb3';go_wp2_with fail;refine HC.out.mono ?_;rintro e w11 ⟨x,p8,o8,a11,c11,rfl,hres,hp8,ho8,h15⟩;clear HC c0 c1 c2 c3;have hB9':=h15.perm (show _=blk b1 (.cells #[.string ⟨#[]⟩,.int .i64 0,.slice none 0 0,.int .i64 0] 153)*(own 5 1 (.slice a11 o8.length c11) o8.length (o8.map bv)*(blk b0 (.cells #[.string sb,.int .i64 (q5:Int),.slice ao out.length co,.int .i64 (most:Int)] 153)*(own 9 1 (.slice a9 A.length c9) A.length (A.map aD)*(own 9 1 (.slice a10 B.length c10) B.length (B.map aD)*F)))) by ac_rfl);have r0:=hB9'.cell 0 rfl;have r1:=hB9'.cell 1 rfl;have r2:=hB9'.cell 2 rfl;have r3:=hB9'.cell 3 rfl;have rf0:=hB9'.free 0;have rf1:=hB9'.free 1;have rf2:=hB9'.free 2;have rf3:=hB9'.free 3;have HF:=ac (aP hB9' rfl (.string sb) (.int .i64 (p8:Int)) (.slice a11 o8.length c11) (.int .i64 (most:Int)));clear h15 hB9';have HRES:=ac hres;have HP8:=ac hp8;clear hres hp8;go_wp2_with fail;refine cH rfl rfl HF.out.at_ Tryz.underlying153 rfl (by show _=some 4;kernel_rfl) rfl ?_;exact⟨x,p8,o8,a11,c11,rfl,by rw[HRY.out];exact HRES.out,HP8.out,ho8,(HF.out.right.perm (show _=blk b0 (.cells #[.string sb,.int .i64 (q5:Int),.slice ao out.length co,.int .i64 (most:Int)] 153)*(own 9 1 (.slice a9 A.length c9) A.length (A.map aD)*(own 9 1 (.slice a10 B.length c10) B.length (B.map aD)*(own 5 1 (.slice a11 o8.length c11) o8.length (o8.map bv)*F))) by ac_rfl)).right.right.right⟩
theorem FX {w0 w:World} {F:SProp} {t:List Nat} (ht:Bit t) (hl:t.length≤1000000000) {p:Nat} (hp:p≤t.length) {out:List UInt8} {most:Nat} (hom:out.length≤most) (hm:most≤10000000000000) {ao:Option Addr} {co:Nat} (h:St w0 w (own 5 1 (.slice ao out.length co) out.length (out.map bv)*F)) {sb:ByteArray} (hsb:sb=⟨(tx t).toArray⟩):
  Calls Tryz.prog 112 #[.agg (bB sb p (.slice ao out.length co) most)] w fun e w'=>∃ (x p':Nat) (out':List UInt8) (ao':Option Addr) (co':Nat),
   e= .returned (.tuple #[.agg (bB sb p' (.slice ao' out'.length co') most),.int .i64 (x:Nat)])∧rX (gU t most p out) x p' out'∧(x=0→p'≤t.length)∧out'.length≤most∧St w0 w' (own 5 1 (.slice ao' out'.length co') out'.length (out'.map bv)*F):=by
 have h1:=(h.alloc (.cells (bB sb p (.slice ao out.length co) most) 153)).alloc (.cells gI 153);have hsz:(w.alloc (.cells (bB sb p (.slice ao out.length co) most) 153)).heap.size=w.heap.size+1:=by
  show(w.heap.push _).size=_;exact gr _
 rw[hsz] at h1;have HNUM:=ac (fun(w:World) (G:SProp) (h:St w0 w G) (q:Nat) (hq:q≤t.length) (ao:Option Addr) (no co:Nat) (n:Nat) (hn:n≤31)=>m9 h ht hl hq n hn (ao:=ao) (no:=no) (co:=co) (most:=(most:Int)) hsb (j:=(n:Int)) rfl);have hsbl:sb.size=t.length:=by rw[hsb,Lib.size_eq];simp
 have HR:=ac (show gU t most p out=(if t.length<(p+7)/8*8+32 then .inl 2 else if vl t ((p+7)/8*8) 16+vl t ((p+7)/8*8+16) 16≠65535 then .inl 3 else ev t most (vl t ((p+7)/8*8) 16) ((p+7)/8*8+32) out) from rfl);have hq:((p:Int)+7)/8*8=(((p+7)/8*8:Nat):Int):=by omega
 have hq2:(p+7)/8*8≤t.length+8:=by omega
 generalize (p+7)/8*8=q at*
 unfold bB gI at h1;clear h hsz hsb;have H1:=ac h1;clear h1;unfold bB at HNUM ⊢;go_enter Tryz.func112,Tryz.ntmps112;go_upto_region 1 with (fail)
 have h1:=H1.out;clear H1;generalize hb0:w.heap.size=b0 at*
 generalize hb1:b0+1=b1 at*
 generalize hW:(w.alloc (.cells #[.string sb,.int .i64 (p:Int),.slice ao out.length co,.int .i64 (most:Int)] 153)).alloc (.cells #[.string ⟨#[]⟩,.int .i64 0,.slice none 0 0,.int .i64 0] 153)=W at*
 have hne:¬ b0=b1:=by omega
 have hne':¬ b1=b0:=by omega
 clear hb0 hb1 hW;have h2:=h1.perm (show _=blk b0 (.cells #[.string sb,.int .i64 (p:Int),.slice ao out.length co,.int .i64 (most:Int)] 153)*(blk b1 (.cells #[.string ⟨#[]⟩,.int .i64 0,.slice none 0 0,.int .i64 0] 153)*(own 5 1 (.slice ao out.length co) out.length (out.map bv)*F)) by ac_rfl);have c1:=h2.cell 1 rfl;have g1:=h2.free 1;have HQ:=ac (h2.set 1 (.int .i64 (q:Int)));clear h1 h2;go_upto_region 2 with (fail)
 generalize W.setCell ⟨b0,1,none⟩ (.int .i64 (q:Int))=W2 at*
 have h2:St w0 W2 (blk b0 (.cells #[.string sb,.int .i64 (q:Int),.slice ao out.length co,.int .i64 (most:Int)] 153)*(blk b1 (.cells #[.string ⟨#[]⟩,.int .i64 0,.slice none 0 0,.int .i64 0] 153)*(own 5 1 (.slice ao out.length co) out.length (out.map bv)*F))):=HQ.out;clear HQ c1 g1 hq;have c0:=h2.cell 0 rfl;have c1:=h2.cell 1 rfl;have c2:=h2.cell 2 rfl;have c3:=h2.cell 3 rfl;have h3:=h2.perm (af _ _ _);have r0:=h3.cell 0 rfl;have r1:=h3.cell 1 rfl;have r2:=h3.cell 2 rfl;have r3:=h3.cell 3 rfl;have rf0:=h3.free 0;have rf1:=h3.free 1;have rf2:=h3.free 2;have rf3:=h3.free 3;have HF:=ac (aP h3 rfl (.string sb) (.int .i64 (q:Int)) (.slice ao out.length co) (.int .i64 (most:Int)));have H2:=ac h2;clear h2 h3
 by_cases hcut:t.length<q+32
 ·have hc2:(t.length:Int)<(q:Int)+32:=by omega
  rw[if_pos hcut] at HR;go_wp2_with fail;refine cH rfl rfl HF.out.at_ Tryz.underlying153 rfl (by show _=some 4;kernel_rfl) rfl ?_;exact⟨2,q,out,ao,co,rfl,by rw[HR.out];exact⟨rfl,by decide⟩,(fun h=>by cases h),hom,HF.out.right.right⟩
 ·have hc2:¬ (t.length:Int)<(q:Int)+32:=by omega
  rw[if_neg hcut] at HR;have C1:=HNUM.out W2 _ H2.out q (by omega) ao out.length co 16 (by omega);rw[if_neg (by omega),if_neg (by omega),if_neg (by omega)] at C1;obtain⟨q1,hq1⟩:∃ q1,q1=q+16:=⟨_,rfl⟩;obtain⟨q3,hq3⟩:∃ q3,q3=q1+16:=⟨_,rfl⟩;rw[← hq1] at C1;have hq1l:q1+16≤t.length:=by omega
  have HQ1:=ac hq1;have HQ3:=ac hq3;clear hq1 hq3;have HC1:=ac C1;clear C1 HF r0 r1 r2 r3 rf0 rf1 rf2 rf3;go_wp2_with fail;refine HC1.out.mono ?_;rintro e w3 ⟨rfl,h5⟩;have d0:=h5.cell 0 rfl;have d1:=h5.cell 1 rfl;have d2:=h5.cell 2 rfl;have d3:=h5.cell 3 rfl;have df0:=h5.free 0;have df1:=h5.free 1;have df2:=h5.free 2;have df3:=h5.free 3;have HF3:=ac (aP h5 rfl (.string sb) (.int .i64 (q1:Int)) (.slice ao out.length co) (.int .i64 (most:Int)));clear h5 HC1;go_upto_region 5 with (fail)
  generalize (((w3.setCell ⟨b0,0,none⟩ (.string sb)).setCell ⟨b0,1,none⟩ (.int .i64 (q1:Int))).setCell ⟨b0,2,none⟩ (.slice ao out.length co)).setCell ⟨b0,3,none⟩ (.int .i64 (most:Int))=W5 at*
  clear c0 c1 c2 c3 d0 d1 d2 d3 df0 df1 df2 df3;have h6:=HF3.out;have c0:=h6.cell 0 rfl;have c1:=h6.cell 1 rfl;have c2:=h6.cell 2 rfl;have c3:=h6.cell 3 rfl;have C2:=HNUM.out W5 _ h6 q1 (by omega) ao out.length co 16 (by omega);rw[if_neg (by omega),if_neg (by omega),if_neg (by omega)] at C2;rw[← HQ3.out] at C2;have HC2:=ac C2;clear C2 HF3 h6;go_wp2_with fail;refine HC2.out.mono ?_;rintro e w6 ⟨rfl,h7⟩;have d0:=h7.cell 0 rfl;have d1:=h7.cell 1 rfl;have d2:=h7.cell 2 rfl;have d3:=h7.cell 3 rfl;have df0:=h7.free 0;have df1:=h7.free 1;have df2:=h7.free 2;have df3:=h7.free 3;have HF7:=ac (aP h7 rfl (.string sb) (.int .i64 (q3:Int)) (.slice ao out.length co) (.int .i64 (most:Int)));clear h7 HC2;go_upto_region 6 with (fail)
  generalize (((w6.setCell ⟨b0,0,none⟩ (.string sb)).setCell ⟨b0,1,none⟩ (.int .i64 (q3:Int))).setCell ⟨b0,2,none⟩ (.slice ao out.length co)).setCell ⟨b0,3,none⟩ (.int .i64 (most:Int))=W7 at*
  clear c0 c1 c2 c3 d0 d1 d2 d3 df0 df1 df2 df3;have hn16:vl t q 16<2^16:=eH true (fun i=>t.getD (q+i) 0) (fun i=>ht.getD _) 16;have hm16:vl t q1 16<2^16:=eH true (fun i=>t.getD (q1+i) 0) (fun i=>ht.getD _) 16;rw[← HQ1.out,show q+32=q3 by have:=HQ1.out;have:=HQ3.out;omega] at HR;generalize vl t q 16=n at*
  generalize vl t q1 16=m at*
  have h8:=HF7.out;clear HF7
  by_cases hnm:n+m=65535
  ·rw[if_neg (by omega)] at HR;have hnm2:((n:Int)+m != 65535)=false:=by rw[bne_eq_false_iff_eq];omega
   generalize hRES:ev t most n q3 out=RES at*
   have HRES:=ac hRES;clear hRES;have HQ3L:=ac (show q3≤t.length by rw[HQ3.out];exact hq1l);have T:=eh;go_wp2_with fail
   go_loopw [8] (fun vi wr=>∃ (j q5:Nat) (o:List UInt8) (aj:Option Addr) (cj:Nat),j≤n∧vi= .int .i64 j∧ev t most (n-j) q5 o=RES∧q5≤t.length∧o.length≤most∧
    St w0 wr (blk b0 (.cells #[.string sb,.int .i64 (q5:Int),.slice aj o.length cj,.int .i64 (most:Int)] 153)*(blk b1 (.cells #[.string ⟨#[]⟩,.int .i64 0,.slice none 0 0,.int .i64 0] 153)*(own 5 1 (.slice aj o.length cj) o.length (o.map bv)*F)))) (fun vi _=>n-(intOf vi).toNat)
   case atStart=>exact⟨0,q3,out,ao,co,by omega,rfl,HRES.out,HQ3L.out,hom,h8⟩
   case round=>
    clear h8 HRES HQ3L;obtain⟨j,q5,o,aj,cj,hj,rfl,hres,hq5,hol,hst⟩:=hrel
    by_cases hjn:j<n
    ·have hjj:(j:Int)<n:=by omega
     rw[show n-j=(n-(j+1))+1 by omega,ev] at hres;have c0:=hst.cell 0 rfl;have c1:=hst.cell 1 rfl;have c2:=hst.cell 2 rfl;have c3:=hst.cell 3 rfl;have C:=HNUM.out wr _ hst q5 hq5 aj o.length cj 8 (by omega);have HRS:=ac hres;clear hres hst
     by_cases hcut5:t.length<q5+8
     ·rw[if_pos hcut5,if_pos hcut5,if_pos hcut5] at C;have hres:=HRS.out;rw[if_pos hcut5] at hres;have HRX:=ac hres;clear hres HRS;have HC:=ac C;clear C;go_wp2_with fail;refine HC.out.mono ?_;rintro e w9 ⟨rfl,h9⟩;have hA:=h9.alloc (.cells #[.string sb,.int .i64 (q5:Int),.slice aj o.length cj,.int .i64 (most:Int)] 153);clear h9 c0 c1 c2 c3 HC;go_upto_region 12 with (fail)
      generalize w9.heap.size=bt at*
      generalize w9.alloc (.cells #[.string sb,.int .i64 (q5:Int),.slice aj o.length cj,.int .i64 (most:Int)] 153)=W10 at*
      have c0:=hA.right.cell 0 rfl;have c1:=hA.right.cell 1 rfl;have c2:=hA.right.cell 2 rfl;have c3:=hA.right.cell 3 rfl;have hB:=hA.perm (show _=blk b1 (.cells #[.string ⟨#[]⟩,.int .i64 0,.slice none 0 0,.int .i64 0] 153)*(blk bt (.cells #[.string sb,.int .i64 (q5:Int),.slice aj o.length cj,.int .i64 (most:Int)] 153)*(blk b0 (.cells #[.string sb,.int .i64 (q5:Int),.slice aj o.length cj,.int .i64 (most:Int)] 153)*(own 5 1 (.slice aj o.length cj) o.length (o.map bv)*F))) by ac_rfl);have r0:=hB.cell 0 rfl;have r1:=hB.cell 1 rfl;have r2:=hB.cell 2 rfl;have r3:=hB.cell 3 rfl;have rf0:=hB.free 0;have rf1:=hB.free 1;have rf2:=hB.free 2;have rf3:=hB.free 3;have HF:=ac (aP hB rfl (.string sb) (.int .i64 (q5:Int)) (.slice aj o.length cj) (.int .i64 (most:Int)));clear hA hB;go_wp2_with fail;refine cH rfl rfl HF.out.at_ Tryz.underlying153 rfl (by show _=some 4;kernel_rfl) rfl ?_;exact⟨2,q5,o,aj,cj,rfl,by rw[HR.out,← HRX.out];exact⟨rfl,by decide⟩,(fun h=>by cases h),hol,HF.out.right.right.right⟩
     ·rw[if_neg hcut5,if_neg hcut5,if_neg hcut5] at C;have hres:=HRS.out;rw[if_neg hcut5] at hres;obtain⟨q8,hq8⟩:∃ q8,q8=q5+8:=⟨_,rfl⟩;rw[← hq8] at C hres;have HQ8:=ac (show q8≤t.length by omega);clear hq8;have hc8:vl t q5 8<2^8:=eH true (fun i=>t.getD (q5+i) 0) (fun i=>ht.getD _) 8;generalize vl t q5 8=c at*
      have hc256:c<256:=hc8;have hw8:=wR (c:=c);generalize UInt8.ofNat c=ch at*
      have HRS2:=ac hres;clear hres HRS hc8;have HC:=ac C;clear C;go_wp2_with fail;refine HC.out.mono ?_;rintro e w9 ⟨rfl,h9⟩;have hA:=h9.alloc (.cells #[.string sb,.int .i64 (q8:Int),.slice aj o.length cj,.int .i64 (most:Int)] 153);clear h9 c0 c1 c2 c3 HC;go_upto_region 12 with (fail)
      generalize w9.heap.size=bt at*
      generalize w9.alloc (.cells #[.string sb,.int .i64 (q8:Int),.slice aj o.length cj,.int .i64 (most:Int)] 153)=W10 at*
      have t2:=hA.cell 2 rfl;have t3:=hA.cell 3 rfl
      by_cases hlim:most≤o.length
      ·have hl2:(most:Int)≤o.length:=by omega
       have hres:=HRS2.out;rw[if_pos hlim] at hres;have HRX:=ac hres;clear hres HRS2;have c0:=hA.right.cell 0 rfl;have c1:=hA.right.cell 1 rfl;have c2:=hA.right.cell 2 rfl;have c3:=hA.right.cell 3 rfl;have hB:=hA.perm (show _=blk b1 (.cells #[.string ⟨#[]⟩,.int .i64 0,.slice none 0 0,.int .i64 0] 153)*(blk bt (.cells #[.string sb,.int .i64 (q8:Int),.slice aj o.length cj,.int .i64 (most:Int)] 153)*(blk b0 (.cells #[.string sb,.int .i64 (q5:Int),.slice aj o.length cj,.int .i64 (most:Int)] 153)*(own 5 1 (.slice aj o.length cj) o.length (o.map bv)*F))) by ac_rfl);have r0:=hB.cell 0 rfl;have r1:=hB.cell 1 rfl;have r2:=hB.cell 2 rfl;have r3:=hB.cell 3 rfl;have rf0:=hB.free 0;have rf1:=hB.free 1;have rf2:=hB.free 2;have rf3:=hB.free 3;have HF:=ac (aP hB rfl (.string sb) (.int .i64 (q5:Int)) (.slice aj o.length cj) (.int .i64 (most:Int)));clear hA hB;go_wp2_with fail;refine cH rfl rfl HF.out.at_ Tryz.underlying153 rfl (by show _=some 4;kernel_rfl) rfl ?_;exact⟨8,q5,o,aj,cj,rfl,by rw[HR.out,← HRX.out];exact⟨rfl,by decide⟩,(fun h=>by cases h),hol,HF.out.right.right.right⟩
      ·have hl2:¬ (most:Int)≤o.length:=by omega
       have hres:=HRS2.out;rw[if_neg hlim] at hres;have HRX:=ac hres;clear hres HRS2;have HA:=ac hA;clear hA;go_wp2_with (at_builtin;apply ag);refine on (aC T rfl _ _ rfl rfl ((HA.out.drop_alloc (.cells #[.int .u8 (ch.toNat:Int)] 5)).perm (show _=own 5 1 (.slice aj o.length cj) o.length (o.map bv)*(blk bt (.cells #[.string sb,.int .i64 (q8:Int),.slice aj o.length cj,.int .i64 (most:Int)] 153)*(blk b0 (.cells #[.string sb,.int .i64 (q5:Int),.slice aj o.length cj,.int .i64 (most:Int)] 153)*(blk b1 (.cells #[.string ⟨#[]⟩,.int .i64 0,.slice none 0 0,.int .i64 0] 153)*F))) by ac_rfl)) rfl (wP W10 ch) (gx [ch]) ?_ ?_ ?_)
       ·unfold maxLen;omega
       ·omega
       intro v' w11 h11 _;obtain⟨a7,c7,rfl⟩:=h11.reads.sub;have u2:=h11.right.cell 2 rfl;have uf2:=h11.right.free 2;have h12:=(h11.perm (af _ _ _)).set 2 (.slice a7 (o.length+1:Nat) c7);clear t2 t3;have H12:=ac h12;clear h12 h11 HA;go_upto_region 17 with (fail)
       generalize w11.setCell ⟨bt,2,none⟩ (.slice a7 (o.length+1:Nat) c7)=W12 at*
       clear u2 uf2;have h13:St w0 W12 (blk bt (.cells #[.string sb,.int .i64 (q8:Int),.slice a7 (o.length+1) c7,.int .i64 (most:Int)] 153)*(own 5 1 (.slice a7 (o.length+1) c7) (o.length+1) (o.map bv++[ch].map bv)*(blk b0 (.cells #[.string sb,.int .i64 (q5:Int),.slice aj o.length cj,.int .i64 (most:Int)] 153)*(blk b1 (.cells #[.string ⟨#[]⟩,.int .i64 0,.slice none 0 0,.int .i64 0] 153)*F)))):=H12.out;have c0:=h13.cell 0 rfl;have c1:=h13.cell 1 rfl;have c2:=h13.cell 2 rfl;have c3:=h13.cell 3 rfl;have h14:=h13.perm (show _=blk b0 (.cells #[.string sb,.int .i64 (q5:Int),.slice aj o.length cj,.int .i64 (most:Int)] 153)*(blk bt (.cells #[.string sb,.int .i64 (q8:Int),.slice a7 (o.length+1) c7,.int .i64 (most:Int)] 153)*(blk b1 (.cells #[.string ⟨#[]⟩,.int .i64 0,.slice none 0 0,.int .i64 0] 153)*(own 5 1 (.slice a7 (o.length+1) c7) (o.length+1) (o.map bv++[ch].map bv)*F))) by ac_rfl);have r0:=h14.cell 0 rfl;have r1:=h14.cell 1 rfl;have r2:=h14.cell 2 rfl;have r3:=h14.cell 3 rfl;have rf0:=h14.free 0;have rf1:=h14.free 1;have rf2:=h14.free 2;have rf3:=h14.free 3;have h15:=aP h14 rfl (.string sb) (.int .i64 (q8:Int)) (.slice a7 (o.length+1) c7) (.int .i64 (most:Int));have h16:=(h15.perm (af _ _ _)).right;have e1:(o++[ch]).length=o.length+1:=by simp
       have e2:(o++[ch]).map bv=o.map bv++[ch].map bv:=by simp
       have h17:St w0 ((((W12.setCell ⟨b0,0,none⟩ (.string sb)).setCell ⟨b0,1,none⟩ (.int .i64 (q8:Int))).setCell ⟨b0,2,none⟩ (.slice a7 (o.length+1) c7)).setCell ⟨b0,3,none⟩ (.int .i64 (most:Int))) (blk b0 (.cells #[.string sb,.int .i64 (q8:Int),.slice a7 (o++[ch]).length c7,.int .i64 (most:Int)] 153)*(blk b1 (.cells #[.string ⟨#[]⟩,.int .i64 0,.slice none 0 0,.int .i64 0] 153)*(own 5 1 (.slice a7 (o++[ch]).length c7) (o++[ch]).length ((o++[ch]).map bv)*F))):=by
        rw[e1,e2];exact h16
       have H16:=ac h17;have HE1:=ac e1;clear h13 h14 h15 h16 h17 e1 e2 H12;go_wp2_with fail
       go_roundw
       case rel=>exact⟨j+1,q8,o++[ch],a7,c7,by omega,by go_num,HRX.out,HQ8.out,by rw[HE1.out];omega,H16.out⟩
       case measure=>simp [intOf];omega
    ·obtain rfl:j=n:=by omega
     rw[du,ev] at hres;have HRX:=ac hres;clear hres;have c0:=hst.cell 0 rfl;have c1:=hst.cell 1 rfl;have c2:=hst.cell 2 rfl;have c3:=hst.cell 3 rfl;have hB:=hst.perm (af _ _ _);have r0:=hB.cell 0 rfl;have r1:=hB.cell 1 rfl;have r2:=hB.cell 2 rfl;have r3:=hB.cell 3 rfl;have rf0:=hB.free 0;have rf1:=hB.free 1;have rf2:=hB.free 2;have rf3:=hB.free 3;have HF:=ac (aP hB rfl (.string sb) (.int .i64 (q5:Int)) (.slice aj o.length cj) (.int .i64 (most:Int)));clear hst hB;go_wp2_with fail;refine cH rfl rfl HF.out.at_ Tryz.underlying153 rfl (by show _=some 4;kernel_rfl) rfl ?_;exact⟨0,q5,o,aj,cj,rfl,by rw[HR.out,← HRX.out];exact⟨rfl,rfl,rfl⟩,(fun _=>hq5),hol,HF.out.right.right⟩
  ·rw[if_pos (by omega)] at HR;have hnm2:((n:Int)+m != 65535)=true:=by rw[bne_iff_ne];omega
   have c0:=h8.cell 0 rfl;have c1:=h8.cell 1 rfl;have c2:=h8.cell 2 rfl;have c3:=h8.cell 3 rfl;have h9:=h8.perm (af _ _ _);have r0:=h9.cell 0 rfl;have r1:=h9.cell 1 rfl;have r2:=h9.cell 2 rfl;have r3:=h9.cell 3 rfl;have rf0:=h9.free 0;have rf1:=h9.free 1;have rf2:=h9.free 2;have rf3:=h9.free 3;have HF8:=ac (aP h9 rfl (.string sb) (.int .i64 (q3:Int)) (.slice ao out.length co) (.int .i64 (most:Int)));clear h8 h9;go_wp2_with fail;refine cH rfl rfl HF8.out.at_ Tryz.underlying153 rfl (by show _=some 4;kernel_rfl) rfl ?_;exact⟨3,q3,out,ao,co,rfl,by rw[HR.out];exact⟨rfl,by decide⟩,(fun h=>by cases h),hom,HF8.out.right.right⟩
theorem xA:(bL (dr.map fun(n:Nat)=>(n:Int))).2=(true,0):=by decide +kernel
theorem FY:∃ W,bM dr 0= .inr W∧bM dr 2= .inr W:=by
 refine⟨(bL (dr.map fun(n:Nat)=>(n:Int))).1,?_,?_⟩
 ·rw[bM,xA,if_neg (by simp),if_neg (by simp)]
 ·rw[bM,xA,if_neg (by simp),if_neg (by simp)]
theorem FZ:(bL (dG.map fun(n:Nat)=>(n:Int))).2.2=0:=by decide +kernel
theorem F1:∃ W,bM dG 2= .inr W:=by
 refine⟨(bL (dG.map fun(n:Nat)=>(n:Int))).1,?_⟩;rw[bM,FZ,if_neg (by simp),if_neg (by simp)]
def sq (r:Nat ⊕ (List UInt8 × Nat)) (s:List UInt8) (n x:Nat):Prop:=
 match r with
 | .inl e=>s=[]∧n=0∧x=e
 | .inr (o,k)=>s=o∧n=k∧x=0
theorem F2 {t:List Nat} (ht:Bit t) (p:Nat):vl t p 3<8:=by
 have:vl t p 3<2^3:=eH true (fun i=>t.getD (p+i) 0) (fun i=>ht.getD _) 3;exact this
theorem F3 {w0 w:World} {F:SProp} (h:St w0 w F) (bs:List UInt8) (most:Int) (hl:bs.length≤100000000) (hm:most≤10000000000000):
  Calls Tryz.prog 66 #[.string ⟨bs.toArray⟩,.int .i64 most] w fun e w'=>∃ (s:List UInt8) (n x:Nat),e= .returned (.tuple #[.string ⟨s.toArray⟩,.int .i64 (n:Nat),.int .i64 (x:Nat)])∧sq (fH bs most) s n x∧St w0 w' F:=by
 by_cases hneg:most<0
 ·have HR:=ac (show fH bs most= .inl 1 by rw[fH,if_pos hneg]);have H:=ac h;clear h;go_enter Tryz.func66,Tryz.ntmps66;go_wp2_with fail
  go_ret3
  exact⟨[],0,1,rfl,by rw[HR.out];exact⟨rfl,rfl,rfl⟩,H.out⟩
 obtain⟨M,rfl⟩:∃ M:Nat,most=M:=⟨most.toNat,by omega⟩;obtain⟨t,htt⟩:∃ t,t=aF true bs:=⟨_,rfl⟩;have HR:=ac (show fH bs M=(match inflF t M (8*bs.length+1) 0 [] with | .inl e=> .inl e | .inr (q,o)=> .inr (o,(q+7)/8)) by rw[fH,if_neg hneg,gq,htt];rfl);have ht:Bit t:=by rw[htt];exact kv true bs
 have htl:t.length=8*bs.length:=by rw[htt,eg]
 have hl9:t.length≤1000000000:=by omega
 obtain⟨sb,hsb⟩:∃ sb:ByteArray,sb=⟨(tx t).toArray⟩:=⟨_,rfl⟩;have HOF:=ac (by have C:=nM bs true h hl;rw[← htt,← hsb] at C;exact C:Calls Tryz.prog 56 #[.string ⟨bs.toArray⟩,.bool true] w fun e w'=>e= .returned (.string sb)∧St w0 w' F);have hM:M≤10000000000000:=by omega
 obtain⟨WA,hWA0,hWA2⟩:=FY;obtain⟨WB,hWB⟩:=F1;have HWAl:=ac (by have:=mU hWA0;rw[ji] at this;omega:WA.length≤900);have HWBl:=ac (by have:=mU hWB;rw[jj] at this;omega:WB.length≤900);have HWAb:=ac (na hWA0);have HWBb:=ac (na hWB);have HBL:=ac (fun(p:Nat) (o:List UInt8)=>(by rw[fR,hWA0,hWB]:fR t dr dG 2 M p o=dH t WA WB M (t.length+1-p) p o));have hNF:dt false false=2:=rfl;have HWRA:=ac (fun(w:World) (G:SProp) (h:St w0 w G) (v:Value) (hv:Stb w0 G (fun w=>Reads w 1 v 288 (nvs dr)))=>(by
  have C:=m6 h dr false false (by rw[ji];omega) E0 (v:=v) (by rw[ji];exact hv);rw[hNF,hWA2] at C;exact C:Calls Tryz.prog 114 #[v,.bool false,.bool false] w fun e w'=>m5 (.inr WA) w0 w' G e))
 have HWRB:=ac (fun(w:World) (G:SProp) (h:St w0 w G) (v:Value) (hv:Stb w0 G (fun w=>Reads w 1 v 30 (nvs dG)))=>(by
  have C:=m6 h dG false false (by rw[jj];omega) E5 (v:=v) (by rw[jj];exact hv);rw[hNF,hWB] at C;exact C:Calls Tryz.prog 114 #[v,.bool false,.bool false] w fun e w'=>m5 (.inr WB) w0 w' G e))
 have HNUM:=ac (fun(w:World) (G:SProp) (h:St w0 w G) (q:Nat) (hq:q≤t.length) (ao:Option Addr) (no co:Nat)=>m9 h ht hl9 hq 3 (by omega) (ao:=ao) (no:=no) (co:=co) (most:=(M:Int)) hsb (j:=(3:Int)) rfl);have HSTO:=ac (fun(w:World) (G:SProp) (q:Nat) (hq:q≤t.length) (o:List UInt8) (ho:o.length≤M) (aj:Option Addr) (cj:Nat) (h:St w0 w (own 5 1 (.slice aj o.length cj) (o.length) (o.map bv)*G))=>FX ht hl9 hq ho hM h hsb);have HDYN:=ac (fun(w:World) (G:SProp) (q:Nat) (hq:q≤t.length) (o:List UInt8) (ho:o.length≤M) (aj:Option Addr) (cj:Nat) (h:St w0 w (own 5 1 (.slice aj o.length cj) (o.length) (o.map bv)*G))=>FV ht hl9 hq ho hM h hsb);have HBLK:=ac (fun(w:World) (G:SProp) (q:Nat) (hq:q≤t.length) (o:List UInt8) (ho:o.length≤M) (aj:Option Addr) (cj:Nat) (h:St w0 w (own 5 1 (.slice aj o.length cj) (o.length) (o.map bv)*G)) (va vb:Value) (hva:Stb w0 G (fun w=>Reads w 1 va WA.length (WA.map aD))) (hvb:Stb w0 G (fun w=>Reads w 1 vb WB.length (WB.map aD)))=>xz ht hl9 hq HWAb.out HWBb.out HWAl.out HWBl.out ho hM h hva hvb hsb);generalize hRES:inflF t M (8*bs.length+1) 0 []=RES at*
 have HRES:=ac hRES;clear hRES;rw[← htl] at HRES;have HTL:=ac htl;clear h htt hsb hWA0 hWA2 hWB hNF htl;unfold bB at HNUM HSTO HDYN HBLK;go_enter Tryz.func66,Tryz.ntmps66;go_wp2_with fail;refine HOF.out.mono ?_;rintro e w2 ⟨rfl,h2⟩;have h3:=(St.own_nil 5 1 h2).alloc (.cells #[.string sb,.int .i64 0,.slice none 0 0,.int .i64 (M:Int)] 153);have H3:=ac h3;clear h2 h3 HOF;go_wp2_with fail;generalize w2.heap.size=b0 at*
 generalize w2.alloc (.cells #[.string sb,.int .i64 0,.slice none 0 0,.int .i64 (M:Int)] 153)=W2 at*
 go_loopg [10] (t.length+1) (fun g u wr=>∃ (q:Nat) (o:List UInt8) (aj:Option Addr) (cj:Nat),t.length+1≤g+q∧o.length≤M∧inflF t M g q o=RES∧q≤t.length∧St w0 wr (blk b0 (.cells #[.string sb,.int .i64 (q:Int),.slice aj o.length cj,.int .i64 (M:Int)] 153)*(own 5 1 (.slice aj o.length cj) (o.length) (o.map bv)*F)))
 case atStart=>exact⟨0,[],none,0,by omega,by simp,HRES.out,by omega,H3.out⟩
 case round=>
  clear H3 HRES;obtain⟨q,o,aj,cj,hg,hol,hres,hq,hst⟩:=hrel;obtain⟨g,rfl⟩:∃ g,gk=g+1:=⟨gk-1,by omega⟩;rw[inflF] at hres;have HG:=ac hg;clear hg;have c0:=hst.cell 0 rfl;have c1:=hst.cell 1 rfl;have c2:=hst.cell 2 rfl;have c3:=hst.cell 3 rfl;have C:=HNUM.out wr _ hst q hq aj o.length cj
  by_cases hcut:t.length<q+3
  ·rw[if_pos hcut,if_pos hcut,if_pos hcut] at C;rw[if_pos hcut] at hres;have HRX:=ac hres;clear hres;have HC:=ac C;clear C hst;go_wp2_with fail;refine HC.out.mono ?_;rintro e w4 ⟨rfl,h4⟩;have H4:=ac ((h4.alloc (.cells #[.string sb,.int .i64 (q:Int),.slice aj o.length cj,.int .i64 (M:Int)] 153)).right.right.right);clear h4;go_wp2_with fail
   go_ret3
   first | exact⟨[],0,2,rfl,by rw[HR.out,← HRX.out];exact⟨rfl,rfl,rfl⟩,H4.out⟩ | exact⟨[],rfl,0,2,rfl,by rw[HR.out,← HRX.out];exact⟨rfl,rfl,rfl⟩,H4.out⟩
  ·rw[if_neg hcut,if_neg hcut,if_neg hcut] at C;rw[if_neg hcut] at hres;obtain⟨q1,hq1⟩:∃ q1,q1=q+3:=⟨_,rfl⟩;rw[← hq1] at C hres;have HQ1:=ac hq1;have hq1l:q1≤t.length:=by omega
   clear hcut hq1;have hd8:=F2 ht q;generalize vl t q 3=hd at*
   have hb1:hd%2=0∨hd%2=1:=by omega
   have hcs:hd/2=0∨hd/2=1∨hd/2=2∨hd/2=3:=by omega
   have HRS:=ac hres;clear hres;have HC:=ac C;clear C hst;go_wp2_with fail;refine HC.out.mono ?_;rintro e w4 ⟨rfl,h4⟩;have hA:=h4.alloc (.cells #[.string sb,.int .i64 (q1:Int),.slice aj o.length cj,.int .i64 (M:Int)] 153);clear h4 c0 c1 c2 c3 HC;go_upto_region 7 with (fail)
   generalize w4.heap.size=bt at*
   generalize w4.alloc (.cells #[.string sb,.int .i64 (q1:Int),.slice aj o.length cj,.int .i64 (M:Int)] 153)=W3 at*
   have t0:=hA.cell 0 rfl;have t1:=hA.cell 1 rfl;have t2:=hA.cell 2 rfl;have t3:=hA.cell 3 rfl;have hB:=hA.perm (af _ _ _);have r0:=hB.cell 0 rfl;have r1:=hB.cell 1 rfl;have r2:=hB.cell 2 rfl;have r3:=hB.cell 3 rfl;have rf0:=hB.free 0;have rf1:=hB.free 1;have rf2:=hB.free 2;have rf3:=hB.free 3;have h6:=aP hB rfl (.string sb) (.int .i64 (q1:Int)) (.slice aj o.length cj) (.int .i64 (M:Int));have h6:=(h6.perm (show _=blk bt (.cells #[.string sb,.int .i64 (q1:Int),.slice aj o.length cj,.int .i64 (M:Int)] 153)*(blk b0 (.cells #[.string sb,.int .i64 (q1:Int),.slice aj o.length cj,.int .i64 (M:Int)] 153)*(own 5 1 (.slice aj o.length cj) (o.length) (o.map bv)*F)) by ac_rfl)).right;clear hA hB;go_upto_region 8 with (fail)
   generalize (((W3.setCell ⟨b0,0,none⟩ (.string sb)).setCell ⟨b0,1,none⟩ (.int .i64 (q1:Int))).setCell ⟨b0,2,none⟩ (.slice aj o.length cj)).setCell ⟨b0,3,none⟩ (.int .i64 (M:Int))=W4 at*
   clear t0 t1 t2 t3 r0 r1 r2 r3 rf0 rf1 rf2 rf3;have h6:St w0 W4 (blk b0 (.cells #[.string sb,.int .i64 (q1:Int),.slice aj o.length cj,.int .i64 (M:Int)] 153)*(own 5 1 (.slice aj o.length cj) (o.length) (o.map bv)*F)):=h6;have c0:=h6.cell 0 rfl;have c1:=h6.cell 1 rfl;have c2:=h6.cell 2 rfl;have c3:=h6.cell 3 rfl
   rcases hcs with h0 | h0 | h0 | h0
   ·have hdv:(hd:Int)/2=0:=by omega
    have hres:=HRS.out;rw[eS,if_pos h0] at hres;have C:=HSTO.out W4 _ q1 hq1l o hol aj cj (h6.perm (af _ _ _));have HGE:=ac (fun q' o' (h:gU t M q1 o= .inr (q',o'))=>EU h);generalize gU t M q1 o=r at*
    have HRT:=ac hres;clear hres HRS h6;have HC:=ac C;clear C;clear h0 HSTO HDYN HBLK;go_wp2_with fail;refine HC.out.mono ?_;rintro e w5 ⟨x,q5,o5,a5,c5,rfl,hr,hq5,ho5,h7⟩;clear HC c0 c1 c2 c3;have h7:=h7.perm (show _=blk b0 (.cells #[.string sb,.int .i64 (q1:Int),.slice aj o.length cj,.int .i64 (M:Int)] 153)*(own 5 1 (.slice a5 o5.length c5) (o5.length) (o5.map bv)*(F)) by ac_rfl);have d0:=h7.cell 0 rfl;have d1:=h7.cell 1 rfl;have d2:=h7.cell 2 rfl;have d3:=h7.cell 3 rfl;have df0:=h7.free 0;have df1:=h7.free 1;have df2:=h7.free 2;have df3:=h7.free 3;have h8:=aP h7 rfl (.string sb) (.int .i64 (q5:Int)) (.slice a5 o5.length c5) (.int .i64 (M:Int));clear h7;go_upto_region 19 with (fail)
    generalize (((w5.setCell ⟨b0,0,none⟩ (.string sb)).setCell ⟨b0,1,none⟩ (.int .i64 (q5:Int))).setCell ⟨b0,2,none⟩ (.slice a5 o5.length c5)).setCell ⟨b0,3,none⟩ (.int .i64 (M:Int))=W5 at*
    clear d0 d1 d2 d3 df0 df1 df2 df3;have h8:St w0 W5 (blk b0 (.cells #[.string sb,.int .i64 (q5:Int),.slice a5 o5.length c5,.int .i64 (M:Int)] 153)*(own 5 1 (.slice a5 o5.length c5) (o5.length) (o5.map bv)*(F))):=h8;cases r with
    | inl er=>
     obtain⟨hx,hne0⟩:=hr;subst hx;simp only at HRT;have hne2:¬ (x:Int)=0:=by omega
     have H8:=ac (h8.right.right);clear h8;go_wp2_with fail
     go_ret3
     first | exact⟨[],0,x,rfl,by rw[HR.out,← HRT.out];exact⟨rfl,rfl,rfl⟩,H8.out⟩ | exact⟨[],rfl,0,x,rfl,by rw[HR.out,← HRT.out];exact⟨rfl,rfl,rfl⟩,H8.out⟩ | exact⟨[],0,rfl,x,rfl,by rw[HR.out,← HRT.out];exact⟨rfl,rfl,rfl⟩,H8.out⟩
    | inr qo=>
     obtain⟨q6,o6⟩:=qo;obtain⟨hx,hq6,ho6⟩:=hr;subst hx hq6 ho6;simp only at HRT;have hge:=HGE.out q5 o5 rfl;have hq55:=hq5 rfl;clear hq5;have h9:=h8.perm (show _=blk b0 (.cells #[.string sb,.int .i64 (q5:Int),.slice a5 o5.length c5,.int .i64 (M:Int)] 153)*(own 5 1 (.slice a5 o5.length c5) (o5.length) (o5.map bv)*(F)) by ac_rfl);have h9:=h9;clear h8
     rcases hb1 with hb1 | hb1
     ·have hres:=HRT.out;rw[if_neg (by omega)] at hres;have HRX:=ac hres;clear hres HRT;have hne:¬ (hd:Int)%2=1:=by omega
      have H9:=ac h9;clear h9;go_wp2_with fail
      go_roundg g
      case measure=>omega
      case rel=>exact⟨q5,o5,a5,c5,by have:=HG.out;have:=HQ1.out;omega,ho5,HRX.out,hq55,H9.out⟩
     ·have hres:=HRT.out;rw[if_pos hb1] at hres;have HRX:=ac hres;clear hres HRT;have hne:(hd:Int)%2=1:=by omega
      have d1:=h9.cell 1 rfl;have d2:=h9.cell 2 rfl;have hq7:((q5:Int)+7)/8=(((q5+7)/8:Nat):Int):=by omega
      have hconv:∀ m,(convert 32 9 (.slice a5 o5.length c5)).run Tryz.prog (W5.drewN m)= .ok (.string ⟨o5.toArray⟩) (W5.drewN m):=fun m=>lj Tryz.underlying32 Tryz.underlying5 Tryz.underlying9 (h9.drewN m).right.reads
      have H9:=ac h9;clear h9;go_wp2_with fail;go_quiet (fail);have h10:=(H9.out.drewN nq).right.right;clear d1 d2;generalize W5.drewN nq=w9 at*
      have H10:=ac h10;clear h10 H9 hconv;go_wp2_with fail
      go_ret3
      refine⟨o5,(q5+7)/8,0,?_,by rw[HR.out,← HRX.out];exact⟨rfl,rfl,rfl⟩,H10.out⟩
      first | rfl | (rw[hq7];rfl)
   ·have hdv:(hd:Int)/2=1:=by omega
    have hres:=HRS.out;rw[eS,if_neg (by omega),if_pos h0,HBL.out] at hres;have HGE:=ac (fun q' o' (h:dH t WA WB M (t.length+1-q1) q1 o= .inr (q',o'))=>wS _ _ _ _ _ h);generalize hRR:dH t WA WB M (t.length+1-q1) q1 o=r at*
    have HRR:=ac hRR;clear hRR;have HRT:=ac hres;clear hres HRS;clear h0;have H6:=ac h6;clear h6 c0 c1 c2 c3;go_wp2_with fail;refine(FP H6.out).mono ?_;rintro e w41 ⟨va,vb,rfl,h61⟩;obtain⟨aa,ca,rfl⟩:=h61.reads.sub;obtain⟨ab,cb,rfl⟩:=h61.right.reads.sub;have HCA:=ac (HWRA.out w41 _ h61 (.slice aa 288 ca) (fun w h=>h.reads));clear h61 H6;go_wp2_with fail;refine HCA.out.mono ?_;rintro e w42 ⟨va2,rfl,h62⟩;obtain⟨a2,c2',rfl⟩:=h62.reads.sub;have HCB:=ac (HWRB.out w42 _ h62 (.slice ab 30 cb) (fun w h=>h.right.right.reads));clear h62 HCA;go_wp2_with fail;refine HCB.out.mono ?_;rintro e w43 ⟨vb2,rfl,h63⟩;obtain⟨a3,c3',rfl⟩:=h63.reads.sub;have h64:=(h63.perm (show _=own 3 1 (.slice aa 288 ca) 288 (nvs dr)*(own 3 1 (.slice ab 30 cb) 30 (nvs dG)*(own 5 1 (.slice aj o.length cj) (o.length) (o.map bv)*(blk b0 (.cells #[.string sb,.int .i64 (q1:Int),.slice aj o.length cj,.int .i64 (M:Int)] 153)*(own 9 1 (.slice a2 WA.length c2') WA.length (WA.map aD)*(own 9 1 (.slice a3 WB.length c3') WB.length (WB.map aD)*F))))) by ac_rfl)).right.right;have c0:=h64.right.cell 0 rfl;have c1:=h64.right.cell 1 rfl;have c2:=h64.right.cell 2 rfl;have c3:=h64.right.cell 3 rfl;have C:=HBLK.out w43 _ q1 hq1l o hol aj cj h64 (.slice a2 WA.length c2') (.slice a3 WB.length c3') (fun w h=>h.right.reads) (fun w h=>h.right.right.reads);have HRRR:=HRR.out;rw[HRRR] at C;have HC:=ac C;clear C h63 h64 HCB HRRR HSTO HDYN HBLK;go_wp2_with fail;refine HC.out.mono ?_;rintro e w5 ⟨x,q5,o5,a5,c5,rfl,hr,hq5,ho5,h7⟩;clear HC c0 c1 c2 c3;have h7:=h7.perm (show _=blk b0 (.cells #[.string sb,.int .i64 (q1:Int),.slice aj o.length cj,.int .i64 (M:Int)] 153)*(own 5 1 (.slice a5 o5.length c5) (o5.length) (o5.map bv)*(own 9 1 (.slice a2 WA.length c2') WA.length (WA.map aD)*(own 9 1 (.slice a3 WB.length c3') WB.length (WB.map aD)*(F)))) by ac_rfl);have d0:=h7.cell 0 rfl;have d1:=h7.cell 1 rfl;have d2:=h7.cell 2 rfl;have d3:=h7.cell 3 rfl;have df0:=h7.free 0;have df1:=h7.free 1;have df2:=h7.free 2;have df3:=h7.free 3;have h8:=aP h7 rfl (.string sb) (.int .i64 (q5:Int)) (.slice a5 o5.length c5) (.int .i64 (M:Int));clear h7;go_upto_region 19 with (fail)
    generalize (((w5.setCell ⟨b0,0,none⟩ (.string sb)).setCell ⟨b0,1,none⟩ (.int .i64 (q5:Int))).setCell ⟨b0,2,none⟩ (.slice a5 o5.length c5)).setCell ⟨b0,3,none⟩ (.int .i64 (M:Int))=W5 at*
    clear d0 d1 d2 d3 df0 df1 df2 df3;have h8:St w0 W5 (blk b0 (.cells #[.string sb,.int .i64 (q5:Int),.slice a5 o5.length c5,.int .i64 (M:Int)] 153)*(own 5 1 (.slice a5 o5.length c5) (o5.length) (o5.map bv)*(own 9 1 (.slice a2 WA.length c2') WA.length (WA.map aD)*(own 9 1 (.slice a3 WB.length c3') WB.length (WB.map aD)*(F))))):=h8;cases r with
    | inl er=>
     obtain⟨hx,hne0⟩:=hr;subst hx;simp only at HRT;have hne2:¬ (x:Int)=0:=by omega
     have H8:=ac (h8.right.right.right.right);clear h8;go_wp2_with fail
     go_ret3
     first | exact⟨[],0,x,rfl,by rw[HR.out,← HRT.out];exact⟨rfl,rfl,rfl⟩,H8.out⟩ | exact⟨[],rfl,0,x,rfl,by rw[HR.out,← HRT.out];exact⟨rfl,rfl,rfl⟩,H8.out⟩ | exact⟨[],0,rfl,x,rfl,by rw[HR.out,← HRT.out];exact⟨rfl,rfl,rfl⟩,H8.out⟩
    | inr qo=>
     obtain⟨q6,o6⟩:=qo;obtain⟨hx,hq6,ho6⟩:=hr;subst hx hq6 ho6;simp only at HRT;have hge:=HGE.out q5 o5 rfl;have hq55:=hq5 rfl;clear hq5;have h9:=h8.perm (show _=own 9 1 (.slice a2 WA.length c2') WA.length (WA.map aD)*(own 9 1 (.slice a3 WB.length c3') WB.length (WB.map aD)*(blk b0 (.cells #[.string sb,.int .i64 (q5:Int),.slice a5 o5.length c5,.int .i64 (M:Int)] 153)*(own 5 1 (.slice a5 o5.length c5) (o5.length) (o5.map bv)*(F)))) by ac_rfl);have h9:=h9.right.right;clear h8
     rcases hb1 with hb1 | hb1
     ·have hres:=HRT.out;rw[if_neg (by omega)] at hres;have HRX:=ac hres;clear hres HRT;have hne:¬ (hd:Int)%2=1:=by omega
      have H9:=ac h9;clear h9;go_wp2_with fail
      go_roundg g
      case measure=>omega
      case rel=>exact⟨q5,o5,a5,c5,by have:=HG.out;have:=HQ1.out;omega,ho5,HRX.out,hq55,H9.out⟩
     ·have hres:=HRT.out;rw[if_pos hb1] at hres;have HRX:=ac hres;clear hres HRT;have hne:(hd:Int)%2=1:=by omega
      have d1:=h9.cell 1 rfl;have d2:=h9.cell 2 rfl;have hq7:((q5:Int)+7)/8=(((q5+7)/8:Nat):Int):=by omega
      have hconv:∀ m,(convert 32 9 (.slice a5 o5.length c5)).run Tryz.prog (W5.drewN m)= .ok (.string ⟨o5.toArray⟩) (W5.drewN m):=fun m=>lj Tryz.underlying32 Tryz.underlying5 Tryz.underlying9 (h9.drewN m).right.reads
      have H9:=ac h9;clear h9;go_wp2_with fail;go_quiet (fail);have h10:=(H9.out.drewN nq).right.right;clear d1 d2;generalize W5.drewN nq=w9 at*
      have H10:=ac h10;clear h10 H9 hconv;go_wp2_with fail
      go_ret3
      refine⟨o5,(q5+7)/8,0,?_,by rw[HR.out,← HRX.out];exact⟨rfl,rfl,rfl⟩,H10.out⟩
      first | rfl | (rw[hq7];rfl)
   ·have hdv:(hd:Int)/2=2:=by omega
    have hres:=HRS.out;rw[eS,if_neg (by omega),if_neg (by omega),if_pos h0] at hres;have C:=HDYN.out W4 _ q1 hq1l o hol aj cj (h6.perm (af _ _ _));have HGE:=ac (fun q' o' (h:gV t M q1 o= .inr (q',o'))=>EZ h);generalize gV t M q1 o=r at*
    have HRT:=ac hres;clear hres HRS h6;have HC:=ac C;clear C;clear h0 HSTO HDYN HBLK;go_wp2_with fail;refine HC.out.mono ?_;rintro e w5 ⟨x,q5,o5,a5,c5,rfl,hr,hq5,ho5,h7⟩;clear HC c0 c1 c2 c3;have h7:=h7.perm (show _=blk b0 (.cells #[.string sb,.int .i64 (q1:Int),.slice aj o.length cj,.int .i64 (M:Int)] 153)*(own 5 1 (.slice a5 o5.length c5) (o5.length) (o5.map bv)*(F)) by ac_rfl);have d0:=h7.cell 0 rfl;have d1:=h7.cell 1 rfl;have d2:=h7.cell 2 rfl;have d3:=h7.cell 3 rfl;have df0:=h7.free 0;have df1:=h7.free 1;have df2:=h7.free 2;have df3:=h7.free 3;have h8:=aP h7 rfl (.string sb) (.int .i64 (q5:Int)) (.slice a5 o5.length c5) (.int .i64 (M:Int));clear h7;go_upto_region 19 with (fail)
    generalize (((w5.setCell ⟨b0,0,none⟩ (.string sb)).setCell ⟨b0,1,none⟩ (.int .i64 (q5:Int))).setCell ⟨b0,2,none⟩ (.slice a5 o5.length c5)).setCell ⟨b0,3,none⟩ (.int .i64 (M:Int))=W5 at*
    clear d0 d1 d2 d3 df0 df1 df2 df3;have h8:St w0 W5 (blk b0 (.cells #[.string sb,.int .i64 (q5:Int),.slice a5 o5.length c5,.int .i64 (M:Int)] 153)*(own 5 1 (.slice a5 o5.length c5) (o5.length) (o5.map bv)*(F))):=h8;cases r with
    | inl er=>
     obtain⟨hx,hne0⟩:=hr;subst hx;simp only at HRT;have hne2:¬ (x:Int)=0:=by omega
     have H8:=ac (h8.right.right);clear h8;go_wp2_with fail
     go_ret3
     first | exact⟨[],0,x,rfl,by rw[HR.out,← HRT.out];exact⟨rfl,rfl,rfl⟩,H8.out⟩ | exact⟨[],rfl,0,x,rfl,by rw[HR.out,← HRT.out];exact⟨rfl,rfl,rfl⟩,H8.out⟩ | exact⟨[],0,rfl,x,rfl,by rw[HR.out,← HRT.out];exact⟨rfl,rfl,rfl⟩,H8.out⟩
    | inr qo=>
     obtain⟨q6,o6⟩:=qo;obtain⟨hx,hq6,ho6⟩:=hr;subst hx hq6 ho6;simp only at HRT;have hge:=HGE.out q5 o5 rfl;have hq55:=hq5 rfl;clear hq5;have h9:=h8.perm (show _=blk b0 (.cells #[.string sb,.int .i64 (q5:Int),.slice a5 o5.length c5,.int .i64 (M:Int)] 153)*(own 5 1 (.slice a5 o5.length c5) (o5.length) (o5.map bv)*(F)) by ac_rfl);have h9:=h9;clear h8
     rcases hb1 with hb1 | hb1
     ·have hres:=HRT.out;rw[if_neg (by omega)] at hres;have HRX:=ac hres;clear hres HRT;have hne:¬ (hd:Int)%2=1:=by omega
      have H9:=ac h9;clear h9;go_wp2_with fail
      go_roundg g
      case measure=>omega
      case rel=>exact⟨q5,o5,a5,c5,by have:=HG.out;have:=HQ1.out;omega,ho5,HRX.out,hq55,H9.out⟩
     ·have hres:=HRT.out;rw[if_pos hb1] at hres;have HRX:=ac hres;clear hres HRT;have hne:(hd:Int)%2=1:=by omega
      have d1:=h9.cell 1 rfl;have d2:=h9.cell 2 rfl;have hq7:((q5:Int)+7)/8=(((q5+7)/8:Nat):Int):=by omega
      have hconv:∀ m,(convert 32 9 (.slice a5 o5.length c5)).run Tryz.prog (W5.drewN m)= .ok (.string ⟨o5.toArray⟩) (W5.drewN m):=fun m=>lj Tryz.underlying32 Tryz.underlying5 Tryz.underlying9 (h9.drewN m).right.reads
      have H9:=ac h9;clear h9;go_wp2_with fail;go_quiet (fail);have h10:=(H9.out.drewN nq).right.right;clear d1 d2;generalize W5.drewN nq=w9 at*
      have H10:=ac h10;clear h10 H9 hconv;go_wp2_with fail
      go_ret3
      refine⟨o5,(q5+7)/8,0,?_,by rw[HR.out,← HRX.out];exact⟨rfl,rfl,rfl⟩,H10.out⟩
      first | rfl | (rw[hq7];rfl)
   ·have hdv:(hd:Int)/2=3:=by omega
    have hres:=HRS.out;rw[eS,if_neg (by omega),if_neg (by omega),if_neg (by omega)] at hres;have HRX:=ac hres;clear hres HRS h0;have H6:=ac h6;clear h6 c0 c1 c2 c3;go_wp2_with fail
    go_ret3
    first | exact⟨[],0,3,rfl,by rw[HR.out,← HRX.out];exact⟨rfl,rfl,rfl⟩,H6.out.right.right⟩ | exact⟨[],rfl,0,3,rfl,by rw[HR.out,← HRX.out];exact⟨rfl,rfl,rfl⟩,H6.out.right.right⟩
end Go.Proofs.YtboflbdniogcdaaGreatDoor
