/-
  Parts of a proof.
-/
import Derived.Laws.Rows
import Derived.Test.YtboflbdniogcdaaGreatDoorK09
import Derived.Test.YtboflbdniogcdaaGreatDoorK07
set_option linter.unusedVariables false
set_option linter.unusedSimpArgs false
set_option maxRecDepth 100000
set_option maxHeartbeats 100000000
namespace Go.Proofs.YtboflbdniogcdaaGreatDoor
open Go.RowKit Go.Mz
theorem jB {P:Program} {fn:Func} {R:Ending→World→Prop} {x u v s:Nat} {ty e:TypeId} {cs:Array Value} {fr:Nat × Nat} {b:Nat} {a:Act} {w:World} {d:TypeDesc} (h:fn.results=#[.cell x ty,.tmp u,.tmp v,.tmp s])
  (hx:a.tmps.getD x undef= .pointer (some ⟨b,0,none⟩)) (hg:w.heap[b]? =some (.cells cs e fr)) (hu:P.underlying ty=some d) (hd:(match d with | .struct _ | .array _ _=>true | _=>false)=true) (hi:(P.info? ty).map (·.size)=some cs.size)
  (hf:a.defers=[]) (hR:R (.returned (.tuple #[.agg cs,a.tmps.getD u undef,a.tmps.getD v undef,a.tmps.getD s undef])) w):bodyPost P fn R .ret a w:=by
 refine⟨hf,_,?_,hR⟩;have hx':a.tmps[x]?.getD undef= .pointer (some ⟨b,0,none⟩):=by simpa using hx
 simp [results,h,hx',asAddr,run_loadVar_row w b e ty cs fr d hg hu hd hi]
theorem A6 {w0 w:World} {F:SProp} {L:List Txt} {a:Txt} {p:Nat} {vL:Value} (h:St w0 w (own 9 1 vL L.length (L.map sv)*F)) {bits:List Nat} (hb:Bit bits) (hbl:bits.length≤1000000000) (hp:p≤bits.length) (old:Bool)
  (hL1:258≤L.length) (hL2:L.length≤4096) (hLt:∀ (i:Nat) (t:Txt),L[i]? =some t→t≠[]∧t.length≤5000) (ha:a.length≤5000)
  {L':List Txt} {a':Txt} {p':Nat} {t:Txt} {en:Bool} {er:Nat} (hR:codeS bits old ⟨L,a,p⟩=(⟨L',a',p'⟩,t,en,er)) {i:Int} (hi:i=p):
  Calls Tryz.prog 64 #[.agg #[vL,.string ⟨a.toArray⟩,.int .i64 i],.string ⟨(tx bits).toArray⟩,.bool old] w fun e w'=>∃ vL',
   e= .returned (.tuple #[.agg #[vL',.string ⟨a'.toArray⟩,.int .i64 p'],.string ⟨t.toArray⟩,.bool en,.int .i64 er])∧St w0 w' (own 9 1 vL' L'.length (L'.map sv)*F):=by
 subst hi;obtain⟨al,cl,rfl⟩:=h.reads.sub;have H:=ac h;clear h;have T:=tZ;have HR:=ac hR;clear hR;generalize hN:L.length=N at*
 have HN:=ac hN;clear hN;generalize hsb:(ByteArray.mk (tx bits).toArray)=sb at*
 have HSB:=ac hsb;clear hsb;generalize hsa:(ByteArray.mk a.toArray)=sa at*
 have HSA:=ac hsa;clear hsa;go_enter Tryz.func64,Tryz.ntmps64;go_upto_region 1 with (fail)
 have h1:=(H.out.alloc (.cells #[.slice al N cl,.string sa,.int .i64 (p:Int)] 101)).alloc (.cells #[.slice none 0 0,.string ⟨#[]⟩,.int .i64 0] 101);have hsz:(w.alloc (.cells #[.slice al N cl,.string sa,.int .i64 (p:Int)] 101)).heap.size=w.heap.size+1:=by simp
 rw[hsz] at h1;clear hsz;generalize hb0:w.heap.size=b0 at*
 generalize hb1:b0+1=b1 at*
 generalize hW:(w.alloc (.cells #[.slice al N cl,.string sa,.int .i64 (p:Int)] 101)).alloc (.cells #[.slice none 0 0,.string ⟨#[]⟩,.int .i64 0] 101)=W at*
 have hne:¬ b0=b1:=by omega
 have hne':¬ b1=b0:=by omega
 clear hb0 hb1 hW;have c0:W.cell? ⟨b0,0,none⟩=some (.slice al N cl):=h1.right.cell 0 rfl;have c1:W.cell? ⟨b0,1,none⟩=some (.string sa):=h1.right.cell 1 rfl;have c2:W.cell? ⟨b0,2,none⟩=some (.int .i64 p):=h1.right.cell 2 rfl;have H1:=ac h1;clear h1 H;obtain⟨x,y,z,hrd⟩:∃ x y z,gw bits old p (cg N old:Nat)=(x,y,z):=⟨_,_,_,rfl⟩;have HRD:=ac (fun w=>((tI hb p (cg N old:Nat) old w hp hbl rfl HSB.out.symm).mono fun e w' h=>(⟨by rw[hrd] at h;exact h.1,h.2.symm⟩:e= .returned (.tuple #[.int .u32 (x:Int),.int .i64 (y:Int),.int .i64 (z:Int)])∧w'=w)));have HRW:=ac (fun w=>((AK (w:=w) N rfl old (by omega)).mono fun e w' h=>(⟨h.1,h.2.symm⟩:e= .returned (.int .i64 (cg N old:Nat))∧w'=w)));have hbd:=tO N old;generalize hwl:cg N old=wl at*
 have HWL:=ac hwl;clear hwl;have HRI:=ac hrd;clear hrd;go_quiet (first | (go_at_call 110;exact Calls.quiet_of_same (HRW.out _)) | (go_at_call 109;exact Calls.quiet_of_same (HRD.out _)));have h2:=H1.out.drewN nq;generalize W.drewN nq=W1 at*
 clear H1 HRD HRW c0 c1 c2;have g2:=h2.right.free 2;have c2:=h2.right.cell 2 rfl;have h3:=(h2.perm (af _ _ _)).set 2 (.int .i64 (y:Int));have HQ:=ac (h3.perm (af _ _ _));clear h2 h3;go_upto_region 3 with (fail)
 generalize W1.setCell ⟨b0,2,none⟩ (.int .i64 (y:Int))=W2 at*
 clear c2 g2;have h4:St w0 W2 (blk b1 (.cells #[.slice none 0 0,.string ⟨#[]⟩,.int .i64 0] 101)*(blk b0 (.cells #[.slice al N cl,.string sa,.int .i64 y] 101)*(own 9 1 (.slice al N cl) N (L.map sv)*F))):=HQ.out;clear HQ;have c0:=h4.right.cell 0 rfl;have c1:=h4.right.cell 1 rfl;have c2:=h4.right.cell 2 rfl;have g0:=h4.right.free 0;have g1:=h4.right.free 1;have g2:=h4.right.free 2;have r0:=h4.cell 0 rfl;have r1:=h4.cell 1 rfl;have r2:=h4.cell 2 rfl;have s0:=h4.free 0;have s1:=h4.free 1;have s2:=h4.free 2;have hset:=fun(a b c:Value)=>((h4.set 0 a).set 1 b).set 2 c
 have H4:=ac h4;clear h4;have HSET:=ac hset;clear hset
 by_cases hcut:bits.length<p+wl
 ·have e1:(x,y,z)=(0,p,2):=by rw[← HRI.out];unfold gw;rw[if_neg (by omega),if_pos (by simpa using hcut)]
  obtain⟨rfl,rfl,rfl⟩:x=0∧y=p∧z=2:=by simpa using e1
  have hres:=tP (bits:=bits) (old:=old) (s:=⟨L,a,y⟩) (by simp only;rw[HN.out,HWL.out];exact hcut);rw[HR.out] at hres;go_wp2_with fail;have HF:=ac (HSET.out (.slice al N cl) (.string sa) (.int .i64 y));obtain⟨⟨rfl,rfl,rfl⟩,rfl,rfl,rfl⟩:(L'=L∧a'=a∧p'=y)∧t=[]∧en=false∧er=2:=by simpa using hres
  refine jB rfl rfl HF.out.at_ Tryz.underlying101 rfl (by show _=some 3;kernel_rfl) rfl ?_;refine⟨.slice al N cl,?_,?_⟩
  ·rw[HSA.out];rfl
  ·rw[HN.out];exact HF.out.right.right
 have hcut':¬ bits.length<p+cg N old:=by rw[HWL.out];exact hcut
 have e1:(x,y,z)=(bq bits old ⟨L,a,p⟩,p+wl,0):=by
  rw[← HRI.out];unfold gw;rw[if_neg (by omega),if_neg (by simpa using hcut)];simp only[bq,gq];rw[HN.out,HWL.out]
 obtain⟨hx,hy,rfl⟩:x=bq bits old ⟨L,a,p⟩∧y=p+wl∧z=0:=by simpa using e1
 have hxl:x<4096:=by
  have:bq bits old ⟨L,a,p⟩<2^wl:=by
   rw[bq];simp only;rw[HN.out,HWL.out];exact eH _ _ (fun i=>hb.getD _) _
  rw[← hx] at this;exact kp this (dX (n:=2) (by decide) hbd.2)
 have HX:=ac hx;clear hx e1;have HY:=ac hy;clear hy;have HC0:=ac (show ¬ bits.length<p+wl from hcut);have HWL2:=ac (show cg L.length old=wl by rw[HN.out,HWL.out]);have x0:(0:Int)≤x:=by omega
 have hxw:IntKind.i64.wrap (x:Int)=x:=IntWalk.i64_in _ (by omega);have hsal:sa.toList=a:=by rw[← HSA.out,ByteArray.toList_eq]
 have HSAL:=ac hsal;clear hsal
 by_cases k1:x=256
 ·have HRES:=ac (by have:=nN HWL2.out HC0.out HX.out.symm k1;rwa [← HY.out] at this:codeS bits old ⟨L,a,p⟩=(⟨aV,[],y⟩,[],false,0));have i1:(x:Int)=256:=by omega
  go_wp2_with fail;refine(t4 H4.out).mono ?_;rintro e W3 ⟨v3,rfl,h5⟩;obtain⟨a3,n3,rfl⟩:=h5.reads.sub;clear c0 c1 c2 g0 g1 g2 r0 r1 r2 s0 s1 s2;have h6:=h5.perm (show _=blk b0 (.cells #[.slice al N cl,.string sa,.int .i64 y] 101)*(own 9 1 (.slice a3 aV.length n3) aV.length (aV.map sv)*(blk b1 (.cells #[.slice none 0 0,.string ⟨#[]⟩,.int .i64 0] 101)*(own 9 1 (.slice al N cl) N (L.map sv)*F))) by ac_rfl);have h7:=h5.perm (show _=blk b1 (.cells #[.slice none 0 0,.string ⟨#[]⟩,.int .i64 0] 101)*(own 9 1 (.slice a3 aV.length n3) aV.length (aV.map sv)*(blk b0 (.cells #[.slice al N cl,.string sa,.int .i64 y] 101)*(own 9 1 (.slice al N cl) N (L.map sv)*F))) by ac_rfl);have c0:=h6.cell 0 rfl;have g0:=h6.free 0;have r0:=h7.cell 0 rfl;have s0:=h7.free 0;have c1:=h6.cell 1 rfl;have g1:=h6.free 1;have r1:=h7.cell 1 rfl;have s1:=h7.free 1;have c2:=h6.cell 2 rfl;have g2:=h6.free 2;have r2:=h7.cell 2 rfl;have s2:=h7.free 2;have h8:=((h6.set 0 (.slice a3 aV.length n3)).set 1 (.string ⟨#[]⟩)).perm (af _ _ _);have h9:=h8.perm (show _=blk b1 (.cells #[.slice none 0 0,.string ⟨#[]⟩,.int .i64 0] 101)*(own 9 1 (.slice a3 aV.length n3) aV.length (aV.map sv)*(_*(own 9 1 (.slice al N cl) N (L.map sv)*F))) by ac_rfl);have H9:=ac h9;clear h5 h6 h7 h8 h9;generalize hn0:aV.length=n0 at*
  have HN0:=ac hn0;clear hn0;go_wp2_with fail;have HF:=ac (((H9.out.set 0 (.slice a3 n0 n3)).set 1 (.string ⟨#[]⟩)).set 2 (.int .i64 (y:Int)));obtain⟨⟨rfl,rfl,rfl⟩,rfl,rfl,rfl⟩:(L'=aV∧a'=[]∧p'=y)∧t=[]∧en=false∧er=0:=by
   have:=HR.out.symm.trans HRES.out;simpa using this
  refine jB rfl rfl HF.out.at_ Tryz.underlying101 rfl (by show _=some 3;kernel_rfl) rfl ?_;refine⟨.slice a3 n0 n3,?_,?_⟩
  ·rfl
  ·rw[HN0.out];exact(HF.out.right.perm (show _=(_*own 9 1 (.slice al N cl) N (L.map sv))*(own 9 1 (.slice a3 n0 n3) n0 (aV.map sv)*F) by ac_rfl)).right
 by_cases k2:x=257
 ·have HRES:=ac (by have:=nO HWL2.out HC0.out HX.out.symm k2;rwa [← HY.out] at this:codeS bits old ⟨L,a,p⟩=(⟨L,a,y⟩,[],true,0));have i1:¬ (x:Int)=256:=by omega
  have i2:(x:Int)=257:=by omega
  go_wp2_with fail;have HF:=ac (((H4.out.set 0 (.slice al N cl)).set 1 (.string sa)).set 2 (.int .i64 (y:Int)));obtain⟨⟨rfl,rfl,rfl⟩,rfl,rfl,rfl⟩:(L'=L∧a'=a∧p'=y)∧t=[]∧en=true∧er=0:=by
   have:=HR.out.symm.trans HRES.out;simpa using this
  refine jB rfl rfl HF.out.at_ Tryz.underlying101 rfl (by show _=some 3;kernel_rfl) rfl ?_;refine⟨.slice al N cl,?_,?_⟩
  ·rw[HSA.out];rfl
  ·rw[HN.out];exact HF.out.right.right
 have i1:¬ (x:Int)=256:=by omega
 have i2:¬ (x:Int)=257:=by omega
 by_cases hae:a=[]
 ·have u1:sa.toList=[]:=by rw[HSAL.out];exact hae
  have u2:sa.toList.isEmpty=true:=by rw[u1];rfl
  by_cases k3:255<x
  ·have i3:(255:Int)<x:=by omega
   have HRES:=ac (by have:=tQ HWL2.out HC0.out HX.out.symm k1 k2 hae k3;rwa [← HY.out] at this:codeS bits old ⟨L,a,p⟩=(⟨L,a,y⟩,[],false,6));go_wp2_with fail;have HF:=ac (((H4.out.set 0 (.slice al N cl)).set 1 (.string sa)).set 2 (.int .i64 (y:Int)));obtain⟨⟨rfl,rfl,rfl⟩,rfl,rfl,rfl⟩:(L'=L∧a'=a∧p'=y)∧t=[]∧en=false∧er=6:=by
    have:=HR.out.symm.trans HRES.out;simpa using this
   refine jB rfl rfl HF.out.at_ Tryz.underlying101 rfl (by show _=some 3;kernel_rfl) rfl ?_;refine⟨.slice al N cl,?_,?_⟩
   ·rw[HSA.out];rfl
   ·rw[HN.out];exact HF.out.right.right
  ·have i3:¬ (255:Int)<x:=by omega
   obtain⟨t5,ht5⟩:∃ t5,L[x]? =some t5:=⟨L[x]'(by rw[HN.out];omega),by simp⟩;have HRES:=ac (by have:=qB HWL2.out HC0.out HX.out.symm k1 k2 hae k3 ht5;rwa [← HY.out] at this:codeS bits old ⟨L,a,p⟩=(⟨L,t5,y⟩,t5,false,0));have hxN:(x:Int)<N:=by omega
   obtain⟨gl,ol,rfl,el⟩:=(H4.out.right.right.reads).at_ (j:=x) (by omega);generalize hst5:(ByteArray.mk t5.toArray)=st at*
   have el':(L.map sv)[x]? =some (.string st):=by simp [ht5,sv,hst5]
   rw[el'] at el;clear el';have HST5:=ac hst5;clear hst5;clear ht5;go_upto_region 15 with (fail)
   go_region
   go_wp2_with fail;have HL1:=ac (((H4.out.perm (af _ _ _)).set 1 (.string st)).perm (af _ _ _));have HF:=ac (((HL1.out.set 0 (.slice (some ⟨gl,ol,none⟩) N cl)).set 1 (.string st)).set 2 (.int .i64 (y:Int)));obtain⟨⟨rfl,rfl,rfl⟩,rfl,rfl,rfl⟩:(L'=L∧a'=t5∧p'=y)∧t=t5∧en=false∧er=0:=by
    have:=HR.out.symm.trans HRES.out;simpa using this
   refine jB rfl rfl HF.out.at_ Tryz.underlying101 rfl (by show _=some 3;kernel_rfl) rfl ?_;refine⟨.slice (some ⟨gl,ol,none⟩) N cl,?_,?_⟩
   ·rw[HST5.out];rfl
   ·rw[HN.out];exact HF.out.right.right.drew
 have u1:¬ sa.toList=[]:=by rw[HSAL.out];exact hae
 have u2:sa.toList.isEmpty=false:=by
  cases hq:sa.toList with
  | nil=>exact absurd hq u1
  | cons _ _=>rfl
 by_cases k3:N<x
 ·have HRES:=ac (by have:=tR HWL2.out HC0.out HX.out.symm k1 k2 hae (.inl (by rw[HN.out];exact k3));rwa [← HY.out] at this:codeS bits old ⟨L,a,p⟩=(⟨L,a,y⟩,[],false,6));have i3:¬ x<N:=by omega
  have i4:¬ (x:Int)=N:=by omega
  go_wp2_with fail;have HF:=ac (((H4.out.set 0 (.slice al N cl)).set 1 (.string sa)).set 2 (.int .i64 (y:Int)));obtain⟨⟨rfl,rfl,rfl⟩,rfl,rfl,rfl⟩:(L'=L∧a'=a∧p'=y)∧t=[]∧en=false∧er=6:=by
   have:=HR.out.symm.trans HRES.out;simpa using this
  refine jB rfl rfl HF.out.at_ Tryz.underlying101 rfl (by show _=some 3;kernel_rfl) rfl ?_;refine⟨.slice al N cl,?_,?_⟩
  ·rw[HSA.out];rfl
  ·rw[HN.out];exact HF.out.right.right
 by_cases k4:x<N
 ·have i3:(x:Int)<N:=by omega
  obtain⟨d,t5,ht5⟩:∃ d t5,L[x]? =some (d::t5):=by
   have e:=(show L[x]? =some (L[x]'(by rw[HN.out];omega)) by simp);cases hq:L[x]'(by rw[HN.out];omega) with
   | nil=>exact absurd hq (hLt x _ e).1
   | cons d t=>exact⟨d,t,by rw[e,hq]⟩
  obtain⟨gl,ol,rfl,el⟩:=(H4.out.right.right.reads).at_ (j:=x) k4;generalize hst5:(ByteArray.mk (d::t5).toArray)=st at*
  have el':(L.map sv)[x]? =some (.string st):=by simp [ht5,sv,hst5]
  rw[el'] at el;clear el';have hzS:st.size=(d::t5).length:=by rw[← hst5];rfl
  have hzA:sa.size=a.length:=by rw[← HSA.out];rfl
  have hL5:=hLt x (d::t5) ht5;have ht0:0<(d::t5).length:=yZ.2 hL5.1;have j1:(1:Int)≤st.size:=by omega
  have j2:1≤st.size:=by omega
  have j3:st.size≤5000:=by omega
  have j4:sa.size≤5000:=by omega
  have j5:¬ 9223372036854775807<sa.size+1:=by omega
  clear hzS hzA hL5 ht0;have HST5:=ac hst5;clear hst5
  by_cases k5:N<4096
  ·have i5:(N:Int)<4096:=by omega
   have HRES:=ac (by have:=qC HWL2.out HC0.out HX.out.symm k1 k2 hae (by rw[HN.out];exact k4) (by rw[HN.out];exact k5) ht5;rwa [← HY.out] at this:codeS bits old ⟨L,a,p⟩=(⟨L++[a++[d]],d::t5,y⟩,d::t5,false,0));clear ht5;go_wp2_with (at_builtin;apply ag);refine on (aC T rfl _ _ rfl rfl (St.own_blk (e:=9) (size:=1) (n:=0) (cap:=0) (xs:=[]) (H4.out.alloc (.cells #[] 9)) (Nat.le_refl _) (Nat.zero_le _) rfl rfl) rfl ((H4.out.drop_alloc _).right.right.reads) (qQ L) ?_ ?_ ?_)
   ·unfold maxLen;omega
   ·omega
   intro vm W5 h5 _;simp only[bQ,ba] at h5;obtain⟨am,cm,rfl⟩:=h5.reads.sub;clear c0 c1 c2 g0 g1 g2 r0 r1 r2 s0 s1 s2;have hL5:StL w0 W5 [own 9 1 (.slice am N cm) N (L.map sv),blk b0 (.cells #[.slice (some ⟨gl,ol,none⟩) N cl,.string sa,.int .i64 y] 101),blk b1 (.cells #[.slice none 0 0,.string ⟨#[]⟩,.int .i64 0] 101),own 9 1 (.slice (some ⟨gl,ol,none⟩) N cl) N (L.map sv),F]:=h5.perm (by simp only[dj];rw[fx F di,eG];ac_rfl);have c1:=hL5.cell (i:=1) rfl 1 rfl;have HL5:=ac hL5;clear hL5 h5;go_upto_region 25 with (fail)
   refine wp_region_noPanic ?_;refine gB (S:=fun w':World=>w'.cell? ⟨b0,1,none⟩=some (.string sa)) (k:=5) (by kernel_rfl) ?_;have hS:(fun w':World=>w'.cell? ⟨b0,1,none⟩=some (.string sa)) W5.drew:=c1;refine cM 2 [0,1] (by kernel_rfl) (fun _ _ _ h=>h) (by assumption) ?_
   iterate 2
    refine cL rfl rfl ⟨?_,fun w=> ?_,?_⟩;rotate_left
    ·(go_simp;try with_reducible rfl)
    simp only[Act.put,sA,sZ,sS]
   refine cK ?_;refine gN 2 rfl (by kernel_rfl) rfl (fun _ _ _ h=>h) (by assumption) ⟨?_,fun w hSw=> ?_,?_⟩;rotate_left
   ·((try dsimp only at hSw);go_simp;try with_reducible rfl)
   simp only[Act.put,sA,sZ,sS];refine cM 2 [3,4] (by kernel_rfl) (fun _ _ _ h=>h) (by assumption) ?_
   iterate 2
    refine cL rfl rfl ⟨?_,fun w=> ?_,?_⟩;rotate_left
    ·(go_simp;try with_reducible rfl)
    simp only[Act.put,sA,sZ,sS]
   refine cK ?_;refine aW (i:=5) (by kernel_rfl) ?_;refine wpOp_step (by rfl) fun K hK=> ?_
   go_simp;refine hK _ _ ⟨fun e=>(by cases e),?_⟩;clear hK K;refine aW (i:=6) (by kernel_rfl) ?_;refine wpOp_step (by rfl) fun K hK=> ?_
   go_simp;have hL6:=(HL5.out.alloc rfl (.cells #[.string (sa++st.extract 0 1)] 9)).drew;simp only[dB,ba] at hL6;generalize hz:sa++st.extract 0 1=z at*
   have HZZ:=ac (show z=⟨(a++[d]).toArray⟩ by rw[← hz,← HSA.out,← HST5.out];rw[ByteArray.extract_mk,ByteArray.mk_append_mk];simp);clear hz;refine hK _ _ ⟨fun e=>(by cases e),?_⟩;clear hK K hS c1;generalize hB6:W5.heap.size=b6 at*
   generalize hW6:(W5.alloc (.cells #[.string z] 9)).drew=W6 at*
   clear hB6 hW6;refine aW (i:=7) (by kernel_rfl) ?_;refine wpOp_step (by rfl) fun K hK=> ?_
   refine iX T rfl _ _ rfl rfl hL6 0 rfl (x:= .slice (some ⟨b6,0,none⟩) 1 1) rfl (m:=1) (news:=[.string z]) (hL6.one (i:=5) rfl) (by intro u hu;simp at hu;subst hu;rfl) (by unfold maxLen;omega) (by omega) fun v' W7 h7 _=> ?_
   refine hK _ _ ⟨fun e=>(by cases e),?_⟩;clear hK K;simp only[js] at h7;simp only[Act.put,sA,sZ,sS];refine aW (i:=8) (by kernel_rfl) ?_;refine wpOp_step (by rfl) fun K hK=> ?_
   go_simp;refine hK _ _ ⟨fun e=>(by cases e),?_⟩;clear hK K;obtain⟨a7,c7,rfl⟩:=(h7.reads (i:=0) rfl).sub;have e0:=h7.cell (i:=1) rfl 0 rfl;have f0:=h7.free (i:=1) rfl 0;have h8:=h7.set (i:=1) rfl 0 (.slice a7 (N+1:Nat) c7);refine aW (i:=9) (by kernel_rfl) ?_;refine wpOp_step (by rfl) fun K hK=> ?_
   go_simp;refine hK _ _ ⟨fun e=>(by cases e),?_⟩;clear hK K e0 f0;refine⟨by kernel_rfl,NoPanic.normal ?_⟩;simp only[js,lQ,l7] at h8;generalize W7.setCell ⟨b0,0,none⟩ (.slice a7 (N+1:Nat) c7)=W8 at*
   have h9:St w0 W8 (blk b1 (.cells #[.slice none 0 0,.string ⟨#[]⟩,.int .i64 0] 101)*(blk b0 (.cells #[.slice a7 (N+1:Nat) c7,.string sa,.int .i64 y] 101)*(own 9 1 (.slice a7 (N+1:Nat) c7) (N+1) (L.map sv++[.string z])*(own 9 1 (.slice (some ⟨gl,ol,none⟩) N cl) N (L.map sv)*blk b6 (.cells #[.string z] 9)*F)))):=St.perm h8 (by simp only[dj];rw[fx _ di,eG];ac_rfl);clear h7 h8;have c0:=h9.right.cell 0 rfl;have c1:=h9.right.cell 1 rfl;have c2:=h9.right.cell 2 rfl;have g0:=h9.right.free 0;have g1:=h9.right.free 1;have g2:=h9.right.free 2;have r0:=h9.cell 0 rfl;have r1:=h9.cell 1 rfl;have r2:=h9.cell 2 rfl;have s0:=h9.free 0;have s1:=h9.free 1;have s2:=h9.free 2;have H9:=ac h9;clear h9;go_wp2_with fail;have HL1:=ac (((H9.out.perm (af _ _ _)).set 1 (.string st)).perm (af _ _ _));have HF:=ac (((HL1.out.set 0 (.slice a7 (N+1:Nat) c7)).set 1 (.string st)).set 2 (.int .i64 (y:Int)));obtain⟨⟨rfl,rfl,rfl⟩,rfl,rfl,rfl⟩:(L'=L++[a++[d]]∧a'=d::t5∧p'=y)∧t=d::t5∧en=false∧er=0:=by
    have:=HR.out.symm.trans HRES.out;simpa using this
   refine jB rfl rfl HF.out.at_ Tryz.underlying101 rfl (by show _=some 3;kernel_rfl) rfl ?_;refine⟨.slice a7 (N+1:Nat) c7,?_,?_⟩
   ·rw[HST5.out];rfl
   ·have e9:L.map sv++[.string z]=(L++[a++[d]]).map sv:=by rw[List.map_append];simp only[dR,ki,sv,HZZ.out]
    have e8:(L++[a++[d]]).length=N+1:=by rw[ae,HN.out];rfl
    rw[e8,← e9];exact(HF.out.right.right.perm (show _=(own 9 1 (.slice (some ⟨gl,ol,none⟩) N cl) N (L.map sv)*blk b6 (.cells #[.string z] 9))*(own 9 1 (.slice a7 (N+1:Nat) c7) (N+1) (L.map sv++[.string z])*F) by ac_rfl)).right
  ·have i5:¬ (N:Int)<4096:=by omega
   have HRES:=ac (by have:=tS HWL2.out HC0.out HX.out.symm k1 k2 hae (by rw[HN.out];exact k4) (by rw[HN.out];exact k5) ht5;rwa [← HY.out] at this:codeS bits old ⟨L,a,p⟩=(⟨L,d::t5,y⟩,d::t5,false,0));clear ht5;go_wp2_with fail;have HL1:=ac (((H4.out.perm (af _ _ _)).set 1 (.string st)).perm (af _ _ _));have HF:=ac (((HL1.out.set 0 (.slice (some ⟨gl,ol,none⟩) N cl)).set 1 (.string st)).set 2 (.int .i64 (y:Int)));obtain⟨⟨rfl,rfl,rfl⟩,rfl,rfl,rfl⟩:(L'=L∧a'=d::t5∧p'=y)∧t=d::t5∧en=false∧er=0:=by
    have:=HR.out.symm.trans HRES.out;simpa using this
   refine jB rfl rfl HF.out.at_ Tryz.underlying101 rfl (by show _=some 3;kernel_rfl) rfl ?_;refine⟨.slice (some ⟨gl,ol,none⟩) N cl,?_,?_⟩
   ·rw[HST5.out];rfl
   ·rw[HN.out];exact HF.out.right.right
 ·have i3:¬ x<N:=by omega
  have i4:(x:Int)=N:=by omega
  have i5:(N:Int)<4096:=by omega
  have hzA:sa.size=a.length:=by rw[← HSA.out];rfl
  have ha0:0<a.length:=yZ.2 hae;have i6:(1:Int)≤sa.size:=by omega
  have i7:1≤sa.size:=by omega
  have i8:sa.size≤5000:=by omega
  have HAL:=ac hzA;clear hzA;obtain⟨d,a5,ha5⟩:∃ d t,a=d::t:=by
   cases a with
   | nil=>exact absurd rfl hae
   | cons d t=>exact⟨d,t,rfl⟩
  have HRES:=ac (by have:=qD HWL2.out HC0.out HX.out.symm k1 k2 ha5 (by rw[HN.out];omega) (by rw[HN.out];omega);rwa [← HY.out] at this:codeS bits old ⟨L,a,p⟩=(⟨L++[a++[d]],a++[d],y⟩,a++[d],false,0));have HA5:=ac ha5;clear ha5;have hex:sa++sa.extract 0 1=⟨(a++[d]).toArray⟩:=by
   rw[← HSA.out,ByteArray.extract_mk,ByteArray.mk_append_mk,HA5.out];simp
  have HEX:=ac hex;clear hex;have hzS:(ByteArray.mk (a++[d]).toArray).size=a.length+1:=by
   show(a++[d]).toArray.size=_;simp
  have HZS:=ac hzS;clear hzS;go_upto_region 20 with (fail)
  go_quiet (fail);have h4':=H4.out.drewN nq;generalize W2.drewN nq=W3 at*
  clear c0 c1 c2 g0 g1 g2 r0 r1 r2 s0 s1 s2 H4 HSET;have c0:=h4'.right.cell 0 rfl;have c1:=h4'.right.cell 1 rfl;have c2:=h4'.right.cell 2 rfl;have g0:=h4'.right.free 0;have g1:=h4'.right.free 1;have g2:=h4'.right.free 2;have r0:=h4'.cell 0 rfl;have r1:=h4'.cell 1 rfl;have r2:=h4'.cell 2 rfl;have s0:=h4'.free 0;have s1:=h4'.free 1;have s2:=h4'.free 2;have H4:=ac h4';clear h4';generalize hst5:sa++sa.extract 0 1=st at*
  have hzT:st.size=a.length+1:=by rw[HEX.out,HZS.out]
  have j1:(1:Int)≤st.size:=by omega
  have j2:1≤st.size:=by omega
  have j3:st.size≤5001:=by omega
  have j5:¬ 9223372036854775807<sa.size+1:=by omega
  have HST5:=ac (HEX.out.symm);clear hst5 hzT;go_wp2_with (at_builtin;apply ag);refine on (aC T rfl _ _ rfl rfl (St.own_blk (e:=9) (size:=1) (n:=0) (cap:=0) (xs:=[]) (H4.out.alloc (.cells #[] 9)) (Nat.le_refl _) (Nat.zero_le _) rfl rfl) rfl ((H4.out.drop_alloc _).right.right.reads) (qQ L) ?_ ?_ ?_)
  ·unfold maxLen;omega
  ·omega
  intro vm W5 h5 _;simp only[bQ,ba] at h5;obtain⟨am,cm,rfl⟩:=h5.reads.sub;clear c0 c1 c2 g0 g1 g2 r0 r1 r2 s0 s1 s2;have hL5:StL w0 W5 [own 9 1 (.slice am N cm) N (L.map sv),blk b0 (.cells #[.slice al N cl,.string sa,.int .i64 y] 101),blk b1 (.cells #[.slice none 0 0,.string ⟨#[]⟩,.int .i64 0] 101),own 9 1 (.slice al N cl) N (L.map sv),F]:=h5.perm (by simp only[dj];rw[fx F di,eG];ac_rfl);have c1:=hL5.cell (i:=1) rfl 1 rfl;have HL5:=ac hL5;clear hL5 h5;go_upto_region 25 with (fail)
  refine wp_region_noPanic ?_;refine gB (S:=fun w':World=>w'.cell? ⟨b0,1,none⟩=some (.string sa)) (k:=5) (by kernel_rfl) ?_;have hS:(fun w':World=>w'.cell? ⟨b0,1,none⟩=some (.string sa)) W5.drew:=c1;refine cM 2 [0,1] (by kernel_rfl) (fun _ _ _ h=>h) (by assumption) ?_
  iterate 2
   refine cL rfl rfl ⟨?_,fun w=> ?_,?_⟩;rotate_left
   ·(go_simp;try with_reducible rfl)
   simp only[Act.put,sA,sZ,sS]
  refine cK ?_;refine gN 2 rfl (by kernel_rfl) rfl (fun _ _ _ h=>h) (by assumption) ⟨?_,fun w hSw=> ?_,?_⟩;rotate_left
  ·((try dsimp only at hSw);go_simp;try with_reducible rfl)
  simp only[Act.put,sA,sZ,sS];refine cM 2 [3,4] (by kernel_rfl) (fun _ _ _ h=>h) (by assumption) ?_
  iterate 2
   refine cL rfl rfl ⟨?_,fun w=> ?_,?_⟩;rotate_left
   ·(go_simp;try with_reducible rfl)
   simp only[Act.put,sA,sZ,sS]
  refine cK ?_;refine aW (i:=5) (by kernel_rfl) ?_;refine wpOp_step (by rfl) fun K hK=> ?_
  go_simp;refine hK _ _ ⟨fun e=>(by cases e),?_⟩;clear hK K;refine aW (i:=6) (by kernel_rfl) ?_;refine wpOp_step (by rfl) fun K hK=> ?_
  go_simp;have hL6:=(HL5.out.alloc rfl (.cells #[.string (sa++st.extract 0 1)] 9)).drew;simp only[dB,ba] at hL6;generalize hz:sa++st.extract 0 1=z at*
  have HZZ:=ac (show z=⟨(a++[d]).toArray⟩ by rw[← hz,← HSA.out,← HST5.out];rw[ByteArray.extract_mk,ByteArray.mk_append_mk,HA5.out];simp);clear hz;refine hK _ _ ⟨fun e=>(by cases e),?_⟩;clear hK K hS c1;generalize hB6:W5.heap.size=b6 at*
  generalize hW6:(W5.alloc (.cells #[.string z] 9)).drew=W6 at*
  clear hB6 hW6;refine aW (i:=7) (by kernel_rfl) ?_;refine wpOp_step (by rfl) fun K hK=> ?_
  refine iX T rfl _ _ rfl rfl hL6 0 rfl (x:= .slice (some ⟨b6,0,none⟩) 1 1) rfl (m:=1) (news:=[.string z]) (hL6.one (i:=5) rfl) (by intro u hu;simp at hu;subst hu;rfl) (by unfold maxLen;omega) (by omega) fun v' W7 h7 _=> ?_
  refine hK _ _ ⟨fun e=>(by cases e),?_⟩;clear hK K;simp only[js] at h7;simp only[Act.put,sA,sZ,sS];refine aW (i:=8) (by kernel_rfl) ?_;refine wpOp_step (by rfl) fun K hK=> ?_
  go_simp;refine hK _ _ ⟨fun e=>(by cases e),?_⟩;clear hK K;obtain⟨a7,c7,rfl⟩:=(h7.reads (i:=0) rfl).sub;have e0:=h7.cell (i:=1) rfl 0 rfl;have f0:=h7.free (i:=1) rfl 0;have h8:=h7.set (i:=1) rfl 0 (.slice a7 (N+1:Nat) c7);refine aW (i:=9) (by kernel_rfl) ?_;refine wpOp_step (by rfl) fun K hK=> ?_
  go_simp;refine hK _ _ ⟨fun e=>(by cases e),?_⟩;clear hK K e0 f0;refine⟨by kernel_rfl,NoPanic.normal ?_⟩;simp only[js,lQ,l7] at h8;generalize W7.setCell ⟨b0,0,none⟩ (.slice a7 (N+1:Nat) c7)=W8 at*
  have h9:St w0 W8 (blk b1 (.cells #[.slice none 0 0,.string ⟨#[]⟩,.int .i64 0] 101)*(blk b0 (.cells #[.slice a7 (N+1:Nat) c7,.string sa,.int .i64 y] 101)*(own 9 1 (.slice a7 (N+1:Nat) c7) (N+1) (L.map sv++[.string z])*(own 9 1 (.slice al N cl) N (L.map sv)*blk b6 (.cells #[.string z] 9)*F)))):=St.perm h8 (by simp only[dj];rw[fx _ di,eG];ac_rfl);clear h7 h8;have c0:=h9.right.cell 0 rfl;have c1:=h9.right.cell 1 rfl;have c2:=h9.right.cell 2 rfl;have g0:=h9.right.free 0;have g1:=h9.right.free 1;have g2:=h9.right.free 2;have r0:=h9.cell 0 rfl;have r1:=h9.cell 1 rfl;have r2:=h9.cell 2 rfl;have s0:=h9.free 0;have s1:=h9.free 1;have s2:=h9.free 2;have H9:=ac h9;clear h9;go_wp2_with fail;have HL1:=ac (((H9.out.perm (af _ _ _)).set 1 (.string st)).perm (af _ _ _));have HF:=ac (((HL1.out.set 0 (.slice a7 (N+1:Nat) c7)).set 1 (.string st)).set 2 (.int .i64 (y:Int)));obtain⟨⟨rfl,rfl,rfl⟩,rfl,rfl,rfl⟩:(L'=L++[a++[d]]∧a'=a++[d]∧p'=y)∧t=a++[d]∧en=false∧er=0:=by
   have:=HR.out.symm.trans HRES.out;simpa using this
  refine jB rfl rfl HF.out.at_ Tryz.underlying101 rfl (by show _=some 3;kernel_rfl) rfl ?_;refine⟨.slice a7 (N+1:Nat) c7,?_,?_⟩
  ·rw[HST5.out];rfl
  ·have e9:L.map sv++[.string z]=(L++[a++[d]]).map sv:=by rw[List.map_append];simp only[dR,ki,sv,HZZ.out]
   have e8:(L++[a++[d]]).length=N+1:=by rw[ae,HN.out];rfl
   rw[e8,← e9];exact(HF.out.right.right.perm (show _=(own 9 1 (.slice al N cl) N (L.map sv)*blk b6 (.cells #[.string z] 9))*(own 9 1 (.slice a7 (N+1:Nat) c7) (N+1) (L.map sv++[.string z])*F) by ac_rfl)).right
theorem A8 {l:List Nat} (h:∀ i,l.getD i 0=0):l=List.replicate l.length 0:=by
 apply iA;intro i;have:=h i;rw[List.getD_eq_getElem?_getD] at this;rw[eb]
 split
 ·rename_i hi;rw[ai hi] at this ⊢;simpa using this
 ·rename_i hi;exact bg (by omega)
theorem A9 (n:Nat):aX (List.replicate n 0)=0:=by
 induction n with
 | zero=>rfl
 | succ n ih=>rw[jr,i9,ih];simp
theorem Bc {w0 w:World} {F:SProp} (h:St w0 w F) (b:List UInt8) (hl:b.length≤100000) {s:ByteArray} (hs:s=⟨(aq false (br b)).toArray⟩):
  Calls Tryz.prog 30 #[.string s] w fun e w'=>∃ most:Nat,most≤4094∧e= .returned (.tuple #[.string ⟨b.toArray⟩,.bool true,.int .i64 most])∧St w0 w' F:=by
 subst hs;have hA:=Aw b [];rw[bE] at hA;obtain⟨hs0,ts0,s1,s2,r1,r2,r3,r4⟩:=As b hA;have hX:(aq false (br b)).length≤1000000:=by rw[dm];have:=mu b;omega
 have hEl:=mu b;have hbl:(aF false (aq false (br b))).length=8*(((br b).length+7)/8):=by rw[eg,dm]
 have hbb:Bit (aF false (aq false (br b))):=kv _ _;have hzero:∀ i,(br b).length≤i→(aF false (aq false (br b))).getD i 0=0:=fun i hi=>by
  rw[nP false (tV b),List.getD_eq_getElem?_getD,bg hi];rfl
 have hp0:bz false (fun i=>(aF false (aq false (br b))).getD (0+i) 0) 9=256:=by
  have h1:Agree (aF false (aq false (br b))) 0 (ap 256 9):=by unfold br at hA ⊢;exact hA.left
  have:=(h1.code (c:=256) (by decide) (L:=aV) (a:=[]) (by rw[eJ];rfl)).1;rw[bq] at this;simpa [eJ,cg] using this
 have hrest:(aF false (aq false (br b))).drop s2.p=List.replicate ((aF false (aq false (br b))).length-s2.p) 0:=by
  have:=A8 (l:=(aF false (aq false (br b))).drop s2.p) (fun i=>by
   rw[List.getD_eq_getElem?_getD,lT,← List.getD_eq_getElem?_getD];exact hzero _ (by omega))
  rw[bH] at this;exact this
 have hrun:=Run.cons hs0 (by simp only[eJ];omega) (by simp only;omega) r1;have hts:=hrun.len;have hcp:=At (aF false (aq false (br b))) false s1;rw[r2] at hcp;simp only at hts hcp;have H:=ac h;clear h;have HO:=ac (fun w0 w F (h:St w0 w F)=>nM (aq false (br b)) false h (by omega));generalize aq false (br b)=X at*
 generalize hbits:aF false X=bits at*
 have hs2l:s2.p≤bits.length:=by rw[hbl];omega
 have hs2u:bits.length-s2.p<8:=by rw[hbl];omega
 have HBB:=ac hbb;clear hbb;have HR2:=ac r2;clear r2;have HREST:=ac hrest;clear hrest;have HRUN:=ac hrun;clear hrun r1 hs0;have HFL:=ac (show([]::ts0).flatten=b by simpa using r3);clear r3;have HP0:=ac hp0;clear hp0 hzero hA;clear hbits;have HPK:=ac (fun w=>tH HBB.out 0 9 false w (by omega) (by omega) (by omega) (i:=0) (j:=9) rfl rfl);rw[HP0.out] at HPK;generalize hsb:(ByteArray.mk (tx bits).toArray)=sb at*
 have HSB:=ac hsb;clear hsb;have hbl2:bits.length≤9000000:=by omega
 generalize hq:([]::ts0:List Txt)=ts1 at*
 have htl:ts1.length≤bits.length:=by omega
 clear hq hts hbl r4;go_enter Tryz.func30,Tryz.ntmps30;go_wp2_with fail;refine(HO.out _ _ _ H.out).mono ?_;rintro e w1 ⟨rfl,h1⟩;have H1:=ac h1;clear h1 H;go_wp2_with fail;refine(t4 H1.out).mono ?_;rintro e w2 ⟨v0,rfl,h2⟩;obtain⟨a0,c0,rfl⟩:=h2.reads.sub;have h3:=(h2.alloc (.cells #[.slice a0 aV.length c0,.string ⟨#[]⟩,.int .i64 0] 101));have H3:=ac h3;clear h3 h2;generalize hn0:aV.length=n0 at*
 have HN0:=ac hn0;clear hn0;go_wp2_with fail;refine(HPK.out _).mono ?_;rintro e w4 ⟨rfl,rfl⟩;have hlb:sb.size=bits.length:=by rw[← HSB.out];show(tx bits).toArray.size=_;simp
 have HLB:=ac hlb;clear hlb;go_wp2_with fail;generalize w2.heap.size=b6 at*
 go_loopg [11,9,10] ts1.length (fun g vi vo vm wr=>∃ (L:List Txt) (a:Txt) (p:Nat) (out:Txt) (ts:List Txt) (most i:Nat) (vL:Value),vi= .int .i64 i∧vo= .string ⟨out.toArray⟩∧vm= .int .i64 most∧most≤4094∧g=ts.length∧i+ts.length≤bits.length∧
   LOk bits ⟨L,a,p⟩∧Run bits ⟨L,a,p⟩ ts s1∧out++ts.flatten=b∧St w0 wr (blk b6 (.cells #[vL,.string ⟨a.toArray⟩,.int .i64 (p:Int)] 101)*(own 9 1 vL L.length (L.map sv)*F)))
 case atStart=>exact⟨aV,[],0,[],ts1,0,0,.slice a0 n0 c0,rfl,rfl,rfl,by omega,rfl,by omega,LOk.start _,HRUN.out,HFL.out,by rw[HN0.out];exact H3.out⟩
 case round=>
  clear H3 H1 HRUN HN0 HFL HPK HO;obtain⟨L,a,p,out,ts,most,i,vL,rfl,rfl,rfl,hmost,rfl,hil,hok,hrun,hfl,hst⟩:=hrel;obtain⟨al,cl,rfl⟩:=hst.right.reads.sub;have HOK:=ac hok;clear hok;have c0':=hst.cell 0 rfl;have c1':=hst.cell 1 rfl;have c2':=hst.cell 2 rfl;have HS:=ac hst;clear hst;have hi1:(i:Int)≤sb.size:=by rw[HLB.out];omega
  have CC:=ac (fun(L':List Txt) (a':Txt) (p':Nat) (t:Txt) (en:Bool) (er:Nat) hcs=>(A6 (L':=L') (a':=a') (p':=p') (t:=t) (en:=en) (er:=er) (HS.out.perm (af _ _ _)) HBB.out (by omega) HOK.out.pl false HOK.out.L1 HOK.out.L2 (fun i t h=>⟨(HOK.out.lt i t h).1,cX (HOK.out.lt i t h).2 (cX HOK.out.L2 (by decide))⟩) (cX HOK.out.al (cX HOK.out.L2 (by decide))) hcs rfl));rw[HSB.out] at CC;have HB2:=ac hfl;clear hfl;cases hrun with
  | nil=>
   obtain⟨L2,A2,P2⟩:=s2;go_wp2_with fail;refine(CC.out _ _ _ _ _ _ HR2.out).mono ?_;rintro e w5 ⟨vL',rfl,h4⟩;obtain⟨al',cl',rfl⟩:=h4.reads.sub;generalize hsa2:(ByteArray.mk A2.toArray)=sa2 at*
   clear hsa2;have hP:(P2:Int)≤sb.size:=by rw[HLB.out];omega
   have hP0:(0:Int)≤P2:=by omega
   have hex:sb.extract P2 sb.size=⟨(tx (List.replicate (bits.length-P2) 0)).toArray⟩:=by
    have hq:=HREST.out;rw[← hq,← qs,HLB.out,← HSB.out,ByteArray.extract_mk];have hl:(tx bits).length=bits.length:=by simp
    rw[bU (by rw[bH,hl];omega)]
   have hz8:(sb.extract P2 sb.size).size=bits.length-P2:=by
    rw[hex];show(tx _).toArray.size=_;simp
   have hm8:bits.length-P2<8:=by omega
   generalize hm0:bits.length-P2=m8 at*
   have HEX:=ac hex;clear hex;have HFIN:=ac (h4.right.right);clear h4 HREST;go_wp2_with fail;refine(lr (l:=List.replicate m8 0) _ (iZ _) (by simp;omega) HEX.out).mono ?_;rintro e w6 ⟨rfl,rfl⟩;rw[A9];have hob:out=b:=by have:=HB2.out;simpa using this
   subst hob;go_wp2_with fail
   go_ret3
   exact⟨most,hmost,rfl,HFIN.out.drop_alloc _⟩
  | @cons _ s3 _ t ts' hcs hm hp9 hrun'=>
   obtain⟨L',a',p'⟩:=s3;obtain⟨hok',htl',_⟩:=Ao HOK.out hcs;go_wp2_with fail;refine(CC.out _ _ _ _ _ _ hcs).mono ?_;rintro e w4 ⟨vL',rfl,h4⟩;obtain⟨al',cl',rfl⟩:=h4.reads.sub;have hob:out.length+t.length≤100000:=by
    have:=congrArg List.length HB2.out;simp at this;omega
   generalize hsa':(ByteArray.mk a'.toArray)=sa' at*
   have HSA':=ac hsa';clear hsa';have htl2:(ByteArray.mk t.toArray).toList=t:=by rw[ByteArray.toList_eq]
   generalize hst':(ByteArray.mk t.toArray)=st' at*
   have hz':st'.size=t.length:=by rw[← hst'];rfl
   have HST':=ac hst';clear hst';have HTL:=ac htl2;clear htl2;have hA:=h4.alloc (.cells #[.slice al' L'.length cl',.string sa',.int .i64 (p':Int)] 101);have hA2:=hA.perm (show _=blk b6 (.cells #[.slice al L.length cl,.string ⟨a.toArray⟩,.int .i64 (p:Int)] 101)*(blk w4.heap.size (.cells #[.slice al' L'.length cl',.string sa',.int .i64 (p':Int)] 101)*(own 9 1 (.slice al' L'.length cl') L'.length (L'.map sv)*F)) by ac_rfl);have hne:=hA2.ne;have hne':=Ne.symm hne;have f0:=hA2.free 0;have f1:=hA2.free 1;have f2:=hA2.free 2;have e0:=hA2.cell 0 rfl;have e1:=hA2.cell 1 rfl;have e2:=hA2.cell 2 rfl;have hB2:=(((hA2.set 0 (.slice al' L'.length cl')).set 1 (.string sa')).set 2 (.int .i64 (p':Int)));have HA2:=ac hA2;clear hA2 hA h4;have HBB2:=ac hB2;clear hB2;have HOK':=ac hok';clear hok';have HCS:=ac hcs;clear hcs;have HRU:=ac hrun';clear hrun';have HM:=ac hm;clear hm hp9;clear c0' c1' c2';have hfin:out++t++ts'.flatten=b:=by have:=HB2.out;simpa using this
   have HFIN:=ac hfin;clear hfin;have hi2:i+ts'.length+1≤bits.length:=by rw[aK] at hil;omega
   by_cases ht:t=[]
   ·have u1:st'.toList=[]:=by rw[HTL.out];exact ht
    have u2:st'.toList.isEmpty=true:=by rw[u1];rfl
    go_wp2_with fail
    go_roundg ts'.length
    case measure=>rw[aK];omega
    case rel=>
     refine⟨L',a',p',out++t,ts',most,i+1,.slice al' L'.length cl',by go_num,?_,rfl,hmost,rfl,by omega,HOK'.out,HRU.out,HFIN.out,?_⟩
     ·rw[← HST'.out,ByteArray.mk_append_mk]
     ·have:=HBB2.out.perm (show _=blk w4.heap.size _*(blk b6 _*(own 9 1 (.slice al' L'.length cl') L'.length (L'.map sv)*F)) by ac_rfl);rw[HSA'.out];exact this.right
   ·have u1:¬ st'.toList=[]:=by rw[HTL.out];exact ht
    have u2:st'.toList.isEmpty=false:=by
     cases hq:st'.toList with
     | nil=>exact absurd hq u1
     | cons _ _=>rfl
    by_cases hmm:most<L'.length
    ·have g1:(most:Int)<L'.length:=by omega
     go_wp2_with fail
     go_roundg ts'.length
     case measure=>rw[aK];omega
     case rel=>
      refine⟨L',a',p',out++t,ts',L'.length,i+1,.slice al' L'.length cl',by go_num,?_,rfl,by have:=HM.out;omega,rfl,by omega,HOK'.out,HRU.out,HFIN.out,?_⟩
      ·rw[← HST'.out,ByteArray.mk_append_mk]
      ·have:=HBB2.out.perm (show _=blk w4.heap.size _*(blk b6 _*(own 9 1 (.slice al' L'.length cl') L'.length (L'.map sv)*F)) by ac_rfl);rw[HSA'.out];exact this.right
    ·have g1:¬ (most:Int)<L'.length:=by omega
     go_wp2_with fail
     go_roundg ts'.length
     case measure=>rw[aK];omega
     case rel=>
      refine⟨L',a',p',out++t,ts',most,i+1,.slice al' L'.length cl',by go_num,?_,rfl,hmost,rfl,by omega,HOK'.out,HRU.out,HFIN.out,?_⟩
      ·rw[← HST'.out,ByteArray.mk_append_mk]
      ·have:=HBB2.out.perm (show _=blk w4.heap.size _*(blk b6 _*(own 9 1 (.slice al' L'.length cl') L'.length (L'.map sv)*F)) by ac_rfl);rw[HSA'.out];exact this.right
end Go.Proofs.YtboflbdniogcdaaGreatDoor
