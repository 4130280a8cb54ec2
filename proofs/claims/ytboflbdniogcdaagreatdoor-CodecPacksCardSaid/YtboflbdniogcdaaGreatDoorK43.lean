/-
  Parts of a proof.
-/
import Derived.Deep.OwnRows
import Derived.Test.YtboflbdniogcdaaGreatDoorK39
import Derived.Test.YtboflbdniogcdaaGreatDoorK42
set_option linter.unusedVariables false
set_option linter.unusedSimpArgs false
set_option maxRecDepth 100000
set_option maxHeartbeats 100000000
namespace Go.Proofs.YtboflbdniogcdaaGreatDoor
open Go.RowKit Go.Mz
theorem Hv (D L A B F:SProp):D*(L*(A*(B*F)))=A*(B*(D*(L*F))):=by ac_rfl
theorem x6 (V A B R:SProp):V*(A*(B*R))=B*(V*(A*R)):=by ac_rfl
theorem ya (U B V R A:SProp):U*(B*(V*(A*R)))=(B*A)*(U*(V*R)):=by ac_rfl
theorem yc (U V D L F:SProp):U*(V*(D*(L*F)))=(D*L)*(V*(U*F)):=by ac_rfl
theorem yd (n:Nat) (hn:n≤1000) (u:World):(Instr.makeSlice 79 (.int .i64 (n:Int)) (.int .i64 (n:Int))).run Tryz.prog u= .ok (.slice (some ⟨u.heap.size,0,none⟩) n n) (u.alloc (.cells (madeCells #[.int .i64 0] n) 3)):=by
 obtain⟨ht,⟨i,hi,hz,hs,hby⟩,_,_⟩:=fA;exact run_make_row _ _ i (.int .i64 0) ht hi hz hs rfl _ _ n (by rw[hby];omega) (by omega) u
theorem pP {w0 w:World} {F:SProp} (h:St w0 w F) (n:Nat) (hn:n≤1000):St w0 (w.alloc (.cells (madeCells #[.int .i64 0] n) 3)) (own 3 1 (.slice (some ⟨w.heap.size,0,none⟩) n n) n (nvs (List.replicate n 0))*F):=by
 refine(h.alloc _).own_blk (Nat.le_refl _) (by unfold maxLen;omega) ?_ ?_
 ·rw[← sV,toList_madeCells_one];simp
 ·rw[toList_madeCells_one,bU (by simp),nvs,nD];rfl
theorem ye {w0 w:World} {F:SProp} (h:St w0 w F) {T:List TokD} (hT:T.length≤100000) (hok:∀ k∈T,fT k) {vt:Value} (ht:Stb w0 F (fun w=>Reads w 3 vt T.length (bP T))):
  Calls Tryz.prog 169 #[vt] w fun e w'=>∃ va vb la lb,e= .returned (.tuple #[va,vb])∧LimOk (fk T) 15 la∧LimOk (eV T) 15 lb∧St w0 w' (own 3 1 va la.length (nvs la)*(own 3 1 vb lb.length (nvs lb)*F)):=by
 obtain⟨at',ct,rfl⟩:=(ht w h).sub;have EI:=fA;have HT:=ac ht;have H:=ac h;have HOK:=ac hok;obtain⟨n,hn⟩:∃ n,T.length=n:=⟨_,rfl⟩;rw[hn] at HT hT;simp only[hn];have HN:=ac hn;clear h ht hok hn;have hm1:∀ u:World,(Instr.makeSlice 79 (.int .i64 286) (.int .i64 286)).run Tryz.prog u= .ok (.slice (some ⟨u.heap.size,0,none⟩) 286 286) (u.alloc (.cells (madeCells #[.int .i64 0] 286) 3)):=fun u=>yd 286 (by decide) u
 have hm2:∀ u:World,(Instr.makeSlice 79 (.int .i64 30) (.int .i64 30)).run Tryz.prog u= .ok (.slice (some ⟨u.heap.size,0,none⟩) 30 30) (u.alloc (.cells (madeCells #[.int .i64 0] 30) 3)):=fun u=>yd 30 (by decide) u
 go_enter Tryz.func169,Tryz.ntmps169;go_wp2_with fail
 go_region
 all_goals
  first
  | (show Exit.then _ _ _ _ (World.drew (World.alloc (World.alloc w (.cells (madeCells #[.int .i64 0] 30) 3)) (.cells (madeCells #[.int .i64 0] 286) 3)));have h1:=(pP (pP H.out 30 (by decide)) 286 (by decide)).drew;rw[show(w.alloc (Obj.cells (madeCells #[Value.int .i64 0] 30) 3)).heap.size=w.heap.size+1 by simp] at h1;generalize (w.heap.size+1)=g1 at *;generalize w.heap.size=g2 at *;generalize World.drew _=w1 at *)
  | (have h1:=((pP (pP H.out 286 (by decide)) 30 (by decide)).drew).perm (af _ _ _);rw[show(w.alloc (Obj.cells (madeCells #[Value.int .i64 0] 286) 3)).heap.size=w.heap.size+1 by simp] at h1;generalize (w.heap.size+1)=g2 at *;generalize w.heap.size=g1 at *;generalize World.drew _=w1 at *)
  have e0:=h1.own_cell (i:=256) (u:= .int .i64 0) (by rw[nvs,nD,eb,if_pos (by omega)];rfl);have f0:=h1.own_free 256;have H1:=ac h1;clear h1 H;go_wp2_with (first | (go_at_call 187;refine(wL H1.out).mono ?_;rintro e w3 ⟨vl,rfl,h3⟩;have H3:=ac h3;clear h3 e0 f0) | (go_at_call 188;refine(wM H3.out).mono ?_;rintro e w4 ⟨vd,rfl,h4⟩;have h4:=h4.perm (Hv _ _ _ _ _);have e0:=h4.own_cell (i:=256) (u:= .int .i64 0) (by rw[nvs,nD,eb,if_pos (by omega)];rfl);have f0:=h4.own_free 256;have H4:=ac h4;clear h4));have h5:=H4.out.own_set 256 (.int .i64 1);rw[show(nvs (List.replicate 286 0)).set 256 (.int .i64 1)=nvs kU by rw[nvs,kU,nvs,ez];rfl] at h5;generalize World.setCell _ _ _=w5 at*
  have H5:=ac h5;clear h5 e0 f0 H1 H3 H4;obtain⟨ad,cd,rfl⟩:=H5.out.right.right.reads.sub;obtain⟨al,cl,rfl⟩:=H5.out.right.right.right.reads.sub
  go_loopw [9,10,11,12,13,26] (fun x9 x10 x11 x12 x13 vi wr=>∃ (k:Nat),k≤n∧vi= .int .i64 k∧St w0 wr (own 3 1 (.slice (some ⟨g1,0,none⟩) 286 286) 286 (nvs (fj (T.take k)))*(own 3 1 (.slice (some ⟨g2,0,none⟩) 30 30) 30 (nvs (eV (T.take k)))*_))) (fun x9 x10 x11 x12 x13 vi _=>n-(intOf vi).toNat)
  case atStart=>exact⟨0,by omega,rfl,H5.out⟩
  case round=>
   clear H5;obtain⟨k,hk,rfl,hst⟩:=hrel
   by_cases hkn:k<n
   ·have hx:=ai (l:=T) (i:=k) (by rw[HN.out];exact hkn);obtain⟨b,off,rfl,c0,c1,c2⟩:=xx (HT.out _ hst.right.right.right.right) hx;have hkT:k<T.length:=by rw[HN.out];exact hkn
    have htk:fj (T.take (k+1))=eU (fj (T.take k)) (d8 T[k]):=by rw[List.take_succ_eq_append_getElem hkT,xq]
    have htd:eV (T.take (k+1))=iQ (eV (T.take k)) T[k]:=by rw[List.take_succ_eq_append_getElem hkT,xr]
    have HTK:=ac htk;have HTD:=ac htd;clear htk htd;have hos:=HOK.out T[k] (bo _);have hll:=m3 (T.take k);have hdl:=m4 (T.take k);have hle:=pt (T:=T.take k) fun x hx=>HOK.out x (jo hx)
    have hde:=xw (T:=T.take k) fun x hx=>HOK.out x (jo hx)
    have hkl:(k:Int)<n:=by omega
    have HX:=ac hx;clear hx;have htl:(T.take k).length≤k:=by rw[aJ];omega
    have hle:∀ x∈fj (T.take k),x≤100001:=fun x hx=>by have:=hle x hx;omega
    have hde:∀ x∈eV (T.take k),x≤100001:=fun x hx=>by have:=hde x hx;omega
    clear htl;generalize fj (T.take k)=Lc at*
    generalize eV (T.take k)=Dc at*
    generalize T[k]=o at*
    have hc:o.lit.toNat<256:=bh _;have HL:=ac (⟨hll,hdl,hle,hde⟩:Lc.length=286∧Dc.length=30∧(∀ x∈Lc,x≤100001)∧∀ x∈Dc,x≤100001);have HST:=ac hst;have HOS:=ac hos;clear hos hkT hll hdl hle hde hst
    by_cases h0:o.len=0
    ·have hS2:=HST.out.drop_alloc (Obj.cells #[Value.int IntKind.u8 ↑o.lit.toNat,Value.int IntKind.i64 0,Value.int IntKind.i64 o.dist] 242);have hp:d8 o=o.lit.toNat:=by unfold d8;rw[if_pos h0]
     obtain⟨v,hv⟩:∃ v,Lc.getD o.lit.toNat 0=v:=⟨_,rfl⟩;have hg:Lc[o.lit.toNat]? =some v:=by rw[← hv,List.getD_eq_getElem?_getD,ai (by rw[HL.out.1];omega)];rfl
     have hv1:=HL.out.2.2.1 v (aG hg);have e0:=hS2.own_cell (i:=o.lit.toNat) (u:= .int .i64 (v:Int)) (by rw[nvs,au,hg];rfl);have f0:=hS2.own_free o.lit.toNat;have hcI:(o.lit.toNat:Int)<286:=by omega
     have hw1:IntKind.i64.wrap ((v:Int)+1)=((v+1:Nat):Int):=by rw[IntWalk.i64_in _ (by omega)];omega
     have HS2:=ac hS2;have HG:=ac (⟨hv,hp⟩:Lc.getD o.lit.toNat 0=v∧d8 o=o.lit.toNat);clear hS2 hg hv hp hv1;go_wp2_with fail;have h7:=HS2.out.own_set o.lit.toNat (.int .i64 ((v+1:Nat):Int));refine⟨⟨k+1,by omega,by go_num,?_⟩,by simp [intOf];omega⟩;rw[HTK.out,HTD.out,HG.out.2];unfold iQ eU;rw[if_pos h0,HG.out.1,nvs,ez];exact h7
    ·obtain⟨n3,n258,d1,d9⟩:=HOS.out.resolve_left h0;obtain⟨m,hm⟩:∃ m:Nat,o.len=m:=⟨o.len.toNat,by omega⟩;obtain⟨d,hd⟩:∃ d:Nat,o.dist=d:=⟨o.dist.toNat,by omega⟩;have hp:d8 o=257+aR false m:=by unfold d8;rw[if_neg h0,hm];rfl
     have hq:iQ Dc o=eU Dc (aR true d):=by unfold iQ;rw[if_neg h0,hd];rfl
     rw[hm] at c1 h0 n3 n258;rw[hd] at c2 d1 d9;have n3:3≤m:=by omega
     have n258:m≤258:=by omega
     have d1:1≤d:=by omega
     have d9:d≤32768:=by omega
     have p1:=(ka n3 n258).1;have q1:=(kS d1 d9).1;have hS2:=HST.out.drop_alloc (Obj.cells #[Value.int IntKind.u8 ↑o.lit.toNat,Value.int IntKind.i64 (m:Int),Value.int IntKind.i64 (d:Int)] 242);have HCP:=ac (pE false (N:=29) (by rfl) (show Reads _ 2 _ 29 (dI (cond false aY bf)) from hS2.right.right.right.reads) m (by omega) n3 (j:=(m:Int)) rfl);have HCQ:=ac fun z=>pE true (N:=30) (by rfl) (show Reads _ 2 _ 30 (dI (cond true aY bf)) from(hS2.drewN z).right.right.reads) d (by omega) d1 (j:=(d:Int)) rfl
     have HS2:=ac hS2;have HP:=ac (⟨hp,hq⟩:d8 o=257+aR false m∧iQ Dc o=eU Dc (aR true d));clear hS2 hm hd hp hq;go_wp2_with fail;refine HCP.out.mono ?_;rintro e w5 ⟨rfl,m1,rfl⟩;go_wp2_with fail;refine(HCQ.out _).mono ?_;rintro e w5 ⟨rfl,m2,rfl⟩;have h6:=(HS2.out.drewN m1).drewN m2;generalize (World.drewN (World.drewN _ m1) m2)=w6 at*
     clear HCP HCQ HS2 HST;generalize aR false m=pa at*
     generalize aR true d=pb at*
     obtain⟨v,hv⟩:∃ v,Lc.getD (257+pa) 0=v:=⟨_,rfl⟩;have hg:Lc[257+pa]? =some v:=by rw[← hv,List.getD_eq_getElem?_getD,ai (by rw[HL.out.1];omega)];rfl
     have hv1:=HL.out.2.2.1 v (aG hg);obtain⟨u,hu⟩:∃ u,Dc.getD pb 0=u:=⟨_,rfl⟩;have hgu:Dc[pb]? =some u:=by rw[← hu,List.getD_eq_getElem?_getD,ai (by rw[HL.out.2.1];omega)];rfl
     have hu1:=HL.out.2.2.2 u (aG hgu);have e0:=h6.own_cell (i:=257+pa) (u:= .int .i64 (v:Int)) (by rw[nvs,au,hg];rfl);have f0:=h6.own_free (257+pa);have hw7:IntKind.i64.wrap (257+(pa:Int))=((257+pa:Nat):Int):=by rw[IntWalk.i64_in _ (by omega)];omega
     obtain⟨pc,hpc⟩:∃ pc,pc=257+pa:=⟨_,rfl⟩;rw[← hpc] at hw7 e0 f0 HP hv;have hpcI:(pc:Int)<286:=by omega
     have hpbI:(pb:Int)<30:=by omega
     have hw1:IntKind.i64.wrap ((v:Int)+1)=((v+1:Nat):Int):=by rw[IntWalk.i64_in _ (by omega)];omega
     have hw2:IntKind.i64.wrap ((u:Int)+1)=((u+1:Nat):Int):=by rw[IntWalk.i64_in _ (by omega)];omega
     have H6:=ac h6;have HG:=ac (⟨hv,hu,hgu⟩:Lc.getD pc 0=v∧Dc.getD pb 0=u∧Dc[pb]? =some u);clear h6 hv hu hg hgu hpc hv1 hu1;go_upto_region 12 with (fail)
     have h7:=(H6.out.own_set pc (.int .i64 ((v:Int)+1))).perm (af _ _ _);generalize World.setCell _ _ _=w7 at*
     have e1:=h7.own_cell (i:=pb) (u:= .int .i64 (u:Int)) (by rw[nvs,au,HG.out.2.2];rfl);have f1:=h7.own_free pb;have H7:=ac h7;clear h7 e0 f0 H6;go_wp2_with fail;have h8:=(H7.out.own_set pb (.int .i64 ((u:Int)+1))).perm (af _ _ _);refine⟨⟨k+1,by omega,by go_num,?_⟩,by simp [intOf];omega⟩;rw[HTK.out,HTD.out,HP.out.1,HP.out.2];unfold eU;rw[HG.out.1,HG.out.2.1,nvs,nvs,ez,ez];exact h8
   ·obtain rfl:k=n:=by omega
    have htt:T.take k=T:=by rw[← HN.out];exact cI
    rw[htt] at hst;have hll:=m3 T;have hle:=pt HOK.out;have hll2:=pu T;have hle2:=FI HOK.out;have hdl:=m4 T;have hde:=xw HOK.out;have hlc:fk T=if k=0 then(fj T).set 0 1 else fj T:=by unfold fk;rw[HN.out]
    rw[HN.out] at hle hde hle2;clear htt;generalize hLf:fk T=Lf at*
    generalize fj T=Lc at*
    generalize hDc:eV T=Dc at*
    have HLF:=ac hLf;have HDC:=ac hDc;clear hLf hDc;have HL:=ac (⟨hll2,hdl,fun x hx=>by have:=hle2 x hx;omega,fun x hx=>by have:=hde x hx;omega⟩:Lf.length=286∧Dc.length=30∧(∀ x∈Lf,x≤1073741824)∧∀ x∈Dc,x≤1073741824);have hgoal:∀ wx,St w0 wx (own 3 1 (.slice (some ⟨g1,0,none⟩) 286 286) 286 (nvs Lf)*(own 3 1 (.slice (some ⟨g2,0,none⟩) 30 30) 30 (nvs Dc)*(own 283 2 (.slice ad 30 cd) 30 (dI aY)*(own 283 2 (.slice al 29 cl) 29 (dI bf)*F))))→
      Calls Tryz.prog 197 #[.slice (some ⟨g1,0,none⟩) 286 286,.int .i64 15] wx fun e w'=>∃ v' l,e= .returned (.tuple #[v',.int .i64 0])∧LimOk Lf 15 l∧St w0 w' (own 3 1 v' l.length (nvs l)*(own 3 1 (.slice (some ⟨g1,0,none⟩) 286 286) 286 (nvs Lf)*(own 3 1 (.slice (some ⟨g2,0,none⟩) 30 30) 30 (nvs Dc)*(own 283 2 (.slice ad 30 cd) 30 (dI aY)*(own 283 2 (.slice al 29 cl) 29 (dI bf)*F))))):=fun wx hx=>
     sF hx Lf 15 (v:= .slice (some ⟨g1,0,none⟩) 286 286) (by rw[HL.out.1];exact Stb.of_own) (by rw[HL.out.1];omega) HL.out.2.2.1 (by omega) (by omega) (by have:=sk Lf;rw[HL.out.1] at this;omega)
    have hgoal2:∀ wx A,St w0 wx (own 3 1 (.slice (some ⟨g2,0,none⟩) 30 30) 30 (nvs Dc)*A)→
      Calls Tryz.prog 197 #[.slice (some ⟨g2,0,none⟩) 30 30,.int .i64 15] wx fun e w'=>∃ v' l,e= .returned (.tuple #[v',.int .i64 0])∧LimOk Dc 15 l∧St w0 w' (own 3 1 v' l.length (nvs l)*(own 3 1 (.slice (some ⟨g2,0,none⟩) 30 30) 30 (nvs Dc)*A)):=fun wx A hx=>
     sF hx Dc 15 (v:= .slice (some ⟨g2,0,none⟩) 30 30) (by rw[HL.out.2.1];exact Stb.of_own) (by rw[HL.out.2.1];omega) HL.out.2.2.2 (by omega) (by omega) (by have:=sk Dc;rw[HL.out.2.1] at this;omega)
    have HG1:=ac hgoal;have HG2:=ac hgoal2;clear hgoal hgoal2 hle hle2 hde hll2 hdl
    by_cases hk0:k=0
    ·rw[if_pos hk0] at hlc;have hlc2:nvs Lf=(nvs Lc).set 0 (.int .i64 1):=by rw[hlc,nvs,nvs,ez];rfl
     have hk0I:((k:Int)==0)=true:=by subst hk0;rfl
     obtain⟨v,hv⟩:∃ v,(nvs Lc)[0]? =some v:=⟨_,ai (by rw[nvs,bI,hll];omega)⟩;have e0:=hst.own_cell hv;have f0:=hst.own_free 0;have HST:=ac hst;have HV:=ac hv;have HLC:=ac hlc2;clear hst hv hll hlc hlc2;go_wp2_with fail;have h6:=HST.out.own_set 0 (.int .i64 1);rw[← HLC.out] at h6;generalize World.setCell _ _ _=w5 at*
     clear HST;have HST:=ac h6;clear h6 e0 f0;refine(HG1.out _ HST.out).mono ?_;rintro e w6 ⟨va,la,rfl,hla,h6⟩;have H6:=ac (h6.perm (x6 _ _ _ _));have HLA:=ac hla;clear h6 hla HST HG1;go_wp2_with fail;refine(HG2.out _ _ H6.out).mono ?_;rintro e w7 ⟨vb,lb,rfl,hlb,h7⟩;have H7:=ac ((h7.perm (ya _ _ _ _ _)).right);have HLB:=ac hlb;clear h7 hlb H6 HG2;go_wp2_with fail;go_ret2;exact⟨va,vb,la,lb,rfl,by rw[HLF.out];exact HLA.out,by rw[HDC.out];exact HLB.out,((H7.out.perm (yc _ _ _ _ _)).right)⟩
    ·rw[if_neg hk0] at hlc;subst hlc;have hk0I:((k:Int)==0)=false:=by simp;omega
     have HST:=ac hst;clear hst hll;go_wp2_with fail;refine(HG1.out _ HST.out).mono ?_;rintro e w6 ⟨va,la,rfl,hla,h6⟩;have H6:=ac (h6.perm (x6 _ _ _ _));have HLA:=ac hla;clear h6 hla HST HG1;go_wp2_with fail;refine(HG2.out _ _ H6.out).mono ?_;rintro e w7 ⟨vb,lb,rfl,hlb,h7⟩;have H7:=ac ((h7.perm (ya _ _ _ _ _)).right);have HLB:=ac hlb;clear h7 hlb H6 HG2;go_wp2_with fail;go_ret2;exact⟨va,vb,la,lb,rfl,by rw[HLF.out];exact HLA.out,by rw[HDC.out];exact HLB.out,((H7.out.perm (yc _ _ _ _ _)).right)⟩
def nf (r:Nat × Nat × Nat):List Value:=[nv r.1,nv r.2.1,nv r.2.2]
def aZ (R:List (Nat × Nat × Nat)):List Value:=R.flatMap nf
theorem fm (l m:List (Nat × Nat × Nat)):aZ (l++m)=aZ l++aZ m:=by simp [aZ]
theorem fo (l:List (Nat × Nat × Nat)):∀ u∈aZ l,u.oneCell'=true:=by
 intro u hu;obtain⟨p,_,hp⟩:=iS.1 hu;simp only[nf,List.mem_cons,td,or_false] at hp
 rcases hp with rfl | rfl | rfl <;> rfl
theorem Hw:ElemT Tryz.prog 274 277 3 24 (.agg #[.int .i64 0,.int .i64 0,.int .i64 0]):=
 ⟨Tryz.underlying274,info_parts (by kernel_rfl),rfl,by decide⟩
def sG (all:List Nat) (i n:Nat):Prop:=
 1≤n∧i+n≤all.length∧(∀ t,i≤t→t<i+n→all.getD t 0=all.getD i 0)∧(i+n<all.length→all.getD (i+n) 0≠all.getD i 0)
def bT (all:List Nat) (i n:Nat):(Nat × Nat × Nat) × Nat:=
 if all.getD i 0=0∧11≤n then((18,min n 138-11,7),min n 138)
 else if all.getD i 0=0∧3≤n then((17,n-3,3),n)
 else if 0<i∧all.getD (i-1) 0=all.getD i 0∧3≤n then((16,min n 6-3,2),min n 6)
 else((all.getD i 0,0,0),1)
def StepBy (all:List Nat) (i:Nat) (r:Nat × Nat × Nat) (j:Nat):Prop:=∃ n,sG all i n∧bT all i n=(r,j-i)∧i≤j
def RunsBy (all:List Nat):Nat→List (Nat × Nat × Nat)→Nat→Prop
 | i,[],j=>i=j
 | i,r::R,j=>∃ m,StepBy all i r m∧RunsBy all m R j
theorem RunsBy.snoc {all:List Nat} {r:Nat × Nat × Nat} {m:Nat}:∀ {R:List (Nat × Nat × Nat)} {i j:Nat},RunsBy all i R j→StepBy all j r m→RunsBy all i (R++[r]) m:=by
 intro R
 induction R with
 | nil=>intro i j h s;cases h;exact⟨m,s,rfl⟩
 | cons x R ih=>rintro i j ⟨y,h1,h2⟩ s;exact⟨y,h1,ih h2 s⟩
theorem StepBy.rn {all:List Nat} (h15:∀ n∈all,n≤15) {i j:Nat} {r:Nat × Nat × Nat} (h:StepBy all i r j):StepRn all i r j:=by
 obtain⟨n,⟨h1,h2,h3,h4⟩,hs,hij⟩:=h;have hv:all.getD i 0≤15:=h15 _ (by rw[List.getD_eq_getElem?_getD,ai (by omega)];exact bo _);unfold bT at hs
 split at hs
 ·rename_i hc;rw[Prod.mk.injEq] at hs;obtain⟨rfl,hj⟩:=hs;refine⟨by omega,.inr (.inr (.inr ⟨rfl,rfl,by show min n 138-11<128;omega,by show j=i+(11+(min n 138-11));omega,fun t a b=> ?_⟩))⟩;rw[h3 t a (by omega),hc.1]
 ·split at hs
  ·rename_i hc;rw[Prod.mk.injEq] at hs;obtain⟨rfl,hj⟩:=hs;rename_i hc0;refine⟨by omega,.inr (.inr (.inl ⟨rfl,rfl,by show n-3<8;omega,by show j=i+(3+(n-3));omega,fun t a b=> ?_⟩))⟩;rw[h3 t a (by omega),hc.1]
  ·split at hs
   ·rename_i hc;rw[Prod.mk.injEq] at hs;obtain⟨rfl,hj⟩:=hs;refine⟨by omega,.inr (.inl ⟨rfl,rfl,by show min n 6-3<4;omega,hc.1,by show j=i+(3+(min n 6-3));omega,fun t a b=> ?_⟩)⟩;rw[h3 t a (by omega),hc.2.1]
   ·rw[Prod.mk.injEq] at hs;obtain⟨rfl,hj⟩:=hs;exact⟨by omega,.inl ⟨by show all.getD i 0<16;omega,rfl,rfl,by omega,rfl⟩⟩
theorem RunsBy.rn {all:List Nat} (h15:∀ n∈all,n≤15):∀ {R:List (Nat × Nat × Nat)} {i j:Nat},RunsBy all i R j→RunsTo all i R j:=by
 intro R
 induction R with
 | nil=>intro i j h;exact h
 | cons r R ih=>rintro i j ⟨m,h1,h2⟩;exact⟨m,h1.rn h15,ih h2⟩
theorem Hx {w0 w:World} {F:SProp} (h:St w0 w F) {all:List Nat} (hl:all.length≤1000) (h15:∀ n∈all,n≤15) {v:Value} (hv:Stb w0 F (fun w=>Reads w 1 v all.length (nvs all))):
  Calls Tryz.prog 198 #[v] w fun e w'=>∃ v' R,e= .returned v'∧RunsBy all 0 R all.length∧St w0 w' (own 277 3 v' R.length (aZ R)*F):=by
 obtain⟨a,cap,rfl⟩:=(hv w h).sub;have T:=Hw;have HV:=ac hv;have H:=ac h;obtain⟨N,hN⟩:∃ N,all.length=N:=⟨_,rfl⟩;rw[hN] at HV hl;simp only[hN];have HN:=ac hN;have H15:=ac h15;clear h hv hN h15;have H0:Hid (St w0 w (own 277 3 (.slice none 0 0) 0 (aZ [])*F)):=ac (H.out.own_nil _ 3);go_enter Tryz.func198,Tryz.ntmps198;go_wp2_with fail
 go_loopw [3,4] (fun vo vi wr=>∃ (i:Nat) (R:List (Nat × Nat × Nat)),i≤N∧vi= .int .i64 i∧RunsBy all 0 R i∧R.length≤i∧St w0 wr (own 277 3 vo R.length (aZ R)*F)) (fun _ vi _=>N-(intOf vi).toNat)
 case atStart=>exact⟨0,[],by omega,rfl,rfl,Nat.le_refl _,H0.out⟩
 case round=>
  clear H H0;obtain⟨i,R,hi,rfl,hR,hRl,hst⟩:=hrel;have HR:=ac hR
  by_cases hiN:i<N
  ·have iI:(i:Int)<N:=by omega
   obtain⟨b,off,rfl,_⟩:=(HV.out _ hst.right).at_ (j:=i) hiN;obtain⟨ao,co,rfl⟩:=hst.reads.sub;have HC:Hid (∀ W t,St w0 W (own 277 3 (.slice ao R.length co) R.length (aZ R)*F)→t<N→W.cell? ⟨b,off+t,none⟩=some (.int .i64 (all.getD t 0:Nat))):=ac fun W t hW ht=>by
    obtain⟨b',off',he,hc⟩:=(HV.out _ hW.right).at_ (j:=t) ht;cases he;rw[hc,nvs,au,ai (by rw[HN.out];exact ht),List.getD_eq_getElem?_getD,ai (by rw[HN.out];exact ht)];rfl
   have HST:=ac hst;clear hst hR;go_wp2_with fail
   go_loopw [5] (fun vn wr=>∃ n:Nat,1≤n∧i+n≤N∧vn= .int .i64 n∧(∀ t,i≤t→t<i+n→all.getD t 0=all.getD i 0)∧St w0 wr (own 277 3 (.slice ao R.length co) R.length (aZ R)*F)) (fun vn _=>N-(intOf vn).toNat)
   case atStart=>exact⟨1,by omega,by omega,rfl,fun t h1 h2=>by rw[show t=i by omega],HST.out⟩
   case round=>
    obtain⟨n,n1,hn,rfl,hal,hst⟩:=hrel;have c0:=HC.out _ i hst hiN;have HAL:=ac hal;clear hal;obtain⟨q,hq⟩:∃ q,i+n=q:=⟨_,rfl⟩;have hw1:IntKind.i64.wrap ((i:Int)+n)=(q:Int):=by rw[IntWalk.i64_in _ (by omega)];omega
    obtain⟨y,hy⟩:∃ y,all.getD i 0=y:=⟨_,rfl⟩;rw[hy] at c0;have HY:=ac hy
    by_cases hlt:q<N
    ·have c1:=HC.out _ q hst hlt;obtain⟨x,hx⟩:∃ x,all.getD q 0=x:=⟨_,rfl⟩;rw[hx] at c1;have HX:=ac hx;have hd0:decide ((q:Int)<N)=true:=decide_eq_true (by omega);have hqI:(q:Int)<N:=by omega
     by_cases he:x=y
     ·subst he;have he2:((x:Int)==(x:Int))=true:=by simp
      have HST:=ac hst;have hw2:IntKind.i64.wrap ((n:Int)+1)=((n+1:Nat):Int):=by rw[IntWalk.i64_in _ (by omega)];omega
      have HQ:=ac hq;have hn2:n+1≤N:=by omega
      have hn3:i+(n+1)≤N:=by omega
      clear hx hy hq hst hn;go_wp2_with fail;go_quiet (fail);go_wp2_with fail;refine⟨⟨n+1,by omega,by omega,by go_num,fun t h1 h2=> ?_,HST.out.drewN _⟩,by simp [intOf];omega⟩
      rcases cf t (i+n) with h | h
      ·exact HAL.out t h1 h
      ·rw[show t=q by have:=HQ.out;omega,HX.out,HY.out]
     ·have HEND:=ac (show i+n<all.length→all.getD (i+n) 0≠all.getD i 0 from fun _=>by rw[hq,hx,hy];exact he);have he2:((x:Int)==(y:Int))=false:=by simp;omega
      clear he hx hy;go_wp2_with fail;go_quiet (fail);have hst:=hst.drewN nq;generalize World.drewN _ nq=wq at*
      have c0:=HC.out _ i hst hiN;rw[HY.out] at c0;have HST:=ac hst;clear hst;clear c1 he2 hd0 hqI hw1 hq HX hlt;have hrun:sG all i n:=⟨n1,by rw[HN.out];exact hn,HAL.out,HEND.out⟩;have HRUN:=ac hrun;clear hrun;have hn1000:n≤1000:=by omega
      have hv15:y≤15:=by rw[← HY.out,List.getD_eq_getElem?_getD,ai (by rw[HN.out];omega)];exact H15.out _ (bo _)
      by_cases hz:y=0
      ·subst hz
       by_cases h11:11≤n
       ·have HSH:=ac (show bT all i n=((18,min n 138-11,7),min n 138) by unfold bT;rw[if_pos ⟨HY.out,h11⟩]);have d2:decide ((11:Int)≤n)=true:=decide_eq_true (by omega);go_upto_region 11 with (fail)
        rw[show(if(138:Int)<(n:Int) then 138 else(n:Int))=((min n 138:Nat):Int) by split <;> omega];have hc1:11≤min n 138:=by omega
        have hc2:min n 138≤n:=by omega
        generalize min n 138=c at*
        have hw7:IntKind.i64.wrap ((c:Int)-11)=((c-11:Nat):Int):=by rw[IntWalk.i64_in _ (by omega)];omega
        go_wp2_with (at_builtin;apply ag);have hA:=(HST.out.alloc (.cells #[.int .i64 18,.int .i64 ((c-11:Nat):Int),.int .i64 7] 277)).own_blk (size:=3) (n:=1) (cap:=1) (xs:=aZ [(18,c-11,7)]) (Nat.le_refl _) (by decide) rfl rfl;have hrd:=hA.reads;have hA':=hA.perm (af _ _ _);refine on (aC T rfl _ _ rfl rfl hA' rfl hrd (fo _) (by have:=hRl;unfold maxLen;omega) (by have:=hRl;omega) ?_);intro v5 w5 h5 _;have h5':St w0 w5 (own 277 3 v5 (R++[(18,c-11,7)]).length (aZ (R++[(18,c-11,7)]))*F):=by
         rw[fm,ae];exact(h5.perm (af _ _ _)).right
        have H5:=ac h5';clear h5 h5' hA hA' hrd HST;have hj:i+c≤N:=by omega
        have HRR:=ac (HR.out.snoc (m:=i+c) ⟨n,HRUN.out,by rw[HSH.out];congr 1;omega,by omega⟩);have hw9:IntKind.i64.wrap ((i:Int)+(c:Nat))=((i+c:Nat):Int):=by rw[IntWalk.i64_in _ (by omega)];omega
        clear HSH HRUN HAL HEND;go_wp2_with fail;refine⟨⟨i+c,R++[(18,c-11,7)],by omega,by go_num,HRR.out,by simp;omega,H5.out⟩,by simp [intOf];omega⟩
       ·by_cases h3:3≤n
        ·have HSH:=ac (show bT all i n=((17,n-3,3),n) by unfold bT;rw[if_neg (by omega),if_pos ⟨HY.out,h3⟩]);have d2:decide ((11:Int)≤n)=false:=decide_eq_false (by omega);have d3:decide ((3:Int)≤n)=true:=decide_eq_true (by omega);have hw7:IntKind.i64.wrap ((n:Int)-3)=((n-3:Nat):Int):=by rw[IntWalk.i64_in _ (by omega)];omega
         go_upto_region 13 with (fail)
         go_wp2_with (at_builtin;apply ag);have hA:=(HST.out.alloc (.cells #[.int .i64 17,.int .i64 ((n-3:Nat):Int),.int .i64 3] 277)).own_blk (size:=3) (n:=1) (cap:=1) (xs:=aZ [(17,n-3,3)]) (Nat.le_refl _) (by decide) rfl rfl;have hrd:=hA.reads;have hA':=hA.perm (af _ _ _);refine on (aC T rfl _ _ rfl rfl hA' rfl hrd (fo _) (by have:=hRl;unfold maxLen;omega) (by have:=hRl;omega) ?_);intro v5 w5 h5 _;have h5':St w0 w5 (own 277 3 v5 (R++[(17,n-3,3)]).length (aZ (R++[(17,n-3,3)]))*F):=by
          rw[fm,ae];exact(h5.perm (af _ _ _)).right
         have H5:=ac h5';clear h5 h5' hA hA' hrd HST;have hj:i+n≤N:=by omega
         have HRR:=ac (HR.out.snoc (m:=i+n) ⟨n,HRUN.out,by rw[HSH.out];congr 1;omega,by omega⟩);have hw9:IntKind.i64.wrap ((i:Int)+(n:Nat))=((i+n:Nat):Int):=by rw[IntWalk.i64_in _ (by omega)];omega
         clear HSH HRUN HAL HEND;go_wp2_with fail;refine⟨⟨i+n,R++[(17,n-3,3)],by omega,by go_num,HRR.out,by simp;omega,H5.out⟩,by simp [intOf];omega⟩
        ·rcases fM i with hi0 | hi0
         ·have HSH:=ac (show bT all i n=((0,0,0),1) by unfold bT;rw[if_neg (by omega),if_neg (by omega),if_neg (by omega),HY.out]);have d1:decide ((0:Int)<i)=false:=decide_eq_false (by omega);have d1n:decide (0<i)=false:=decide_eq_false (by omega);clear hi0;have d3:decide ((3:Int)≤n)=false:=decide_eq_false (by omega);have d2:decide ((11:Int)≤n)=false:=decide_eq_false (by omega);go_upto_region 14 with (fail)
          go_quiet (fail);have hst:=HST.out.drewN nq;clear HST c0;generalize World.drewN _ nq=wz at*
          have c0:=HC.out _ i hst hiN;rw[HY.out] at c0;have HST:=ac hst;clear hst;go_upto_region 8 with (fail)
          go_wp2_with (at_builtin;apply ag);have hA:=(HST.out.alloc (.cells #[.int .i64 ((0:Nat):Int),.int .i64 0,.int .i64 0] 277)).own_blk (size:=3) (n:=1) (cap:=1) (xs:=aZ [(0,0,0)]) (Nat.le_refl _) (by decide) rfl rfl;have hrd:=hA.reads;have hA':=hA.perm (af _ _ _);refine on (aC T rfl _ _ rfl rfl hA' rfl hrd (fo _) (by have:=hRl;unfold maxLen;omega) (by have:=hRl;omega) ?_);intro v5 w5 h5 _;have h5':St w0 w5 (own 277 3 v5 (R++[(0,0,0)]).length (aZ (R++[(0,0,0)]))*F):=by
           rw[fm,ae];exact(h5.perm (af _ _ _)).right
          have H5:=ac h5';clear h5 h5' hA hA' hrd HST;have hj:i+1≤N:=by omega
          have HRR:=ac (HR.out.snoc (m:=i+1) ⟨n,HRUN.out,by rw[HSH.out];congr 1;omega,by omega⟩);have hw9:IntKind.i64.wrap ((i:Int)+(1:Nat))=((i+1:Nat):Int):=by rw[IntWalk.i64_in _ (by omega)];omega
          clear HSH HRUN HAL HEND;go_wp2_with fail;refine⟨⟨i+1,R++[(0,0,0)],by omega,by go_num,HRR.out,by simp;omega,H5.out⟩,by simp [intOf];omega⟩
         ·have cz:=HC.out _ (i-1) HST.out (by omega);obtain⟨z,hzz⟩:∃ z,all.getD (i-1) 0=z:=⟨_,rfl⟩;rw[hzz] at cz;have HP:=ac hzz;clear hzz;have hwi:IntKind.i64.wrap ((i:Int)-1)=((i-1:Nat):Int):=by rw[IntWalk.i64_in _ (by omega)];omega
          have hi1N:((i-1:Nat):Int)<N:=by omega
          by_cases hp:z=0
          ·have HSH:=ac (show bT all i n=((0,0,0),1) by unfold bT;rw[if_neg (by omega),if_neg (by omega),if_neg (by omega),HY.out]);rw[hp] at cz HP;have d1:decide ((0:Int)<i)=true:=decide_eq_true (by omega);have d3:decide ((3:Int)≤n)=false:=decide_eq_false (by omega);have d2:decide ((11:Int)≤n)=false:=decide_eq_false (by omega);go_upto_region 14 with (fail)
           go_quiet (fail);have hst:=HST.out.drewN nq;clear HST c0;generalize World.drewN _ nq=wz at*
           have c0:=HC.out _ i hst hiN;rw[HY.out] at c0;have HST:=ac hst;clear hst;go_upto_region 8 with (fail)
           go_wp2_with (at_builtin;apply ag);have hA:=(HST.out.alloc (.cells #[.int .i64 ((0:Nat):Int),.int .i64 0,.int .i64 0] 277)).own_blk (size:=3) (n:=1) (cap:=1) (xs:=aZ [(0,0,0)]) (Nat.le_refl _) (by decide) rfl rfl;have hrd:=hA.reads;have hA':=hA.perm (af _ _ _);refine on (aC T rfl _ _ rfl rfl hA' rfl hrd (fo _) (by have:=hRl;unfold maxLen;omega) (by have:=hRl;omega) ?_);intro v5 w5 h5 _;have h5':St w0 w5 (own 277 3 v5 (R++[(0,0,0)]).length (aZ (R++[(0,0,0)]))*F):=by
            rw[fm,ae];exact(h5.perm (af _ _ _)).right
           have H5:=ac h5';clear h5 h5' hA hA' hrd HST;have hj:i+1≤N:=by omega
           have HRR:=ac (HR.out.snoc (m:=i+1) ⟨n,HRUN.out,by rw[HSH.out];congr 1;omega,by omega⟩);have hw9:IntKind.i64.wrap ((i:Int)+(1:Nat))=((i+1:Nat):Int):=by rw[IntWalk.i64_in _ (by omega)];omega
           clear HSH HRUN HAL HEND;go_wp2_with fail;refine⟨⟨i+1,R++[(0,0,0)],by omega,by go_num,HRR.out,by simp;omega,H5.out⟩,by simp [intOf];omega⟩
          ·have HSH:=ac (show bT all i n=((0,0,0),1) by unfold bT;rw[if_neg (by omega),if_neg (by omega),if_neg (by omega),HY.out]);have d4:((z:Int)==0)=false:=by simp;omega
           have d1:decide ((0:Int)<i)=true:=decide_eq_true (by omega);have d3:decide ((3:Int)≤n)=false:=decide_eq_false (by omega);have d2:decide ((11:Int)≤n)=false:=decide_eq_false (by omega);go_upto_region 14 with (fail)
           go_quiet (fail);have hst:=HST.out.drewN nq;clear HST c0;generalize World.drewN _ nq=wz at*
           have c0:=HC.out _ i hst hiN;rw[HY.out] at c0;have HST:=ac hst;clear hst;go_upto_region 8 with (fail)
           go_wp2_with (at_builtin;apply ag);have hA:=(HST.out.alloc (.cells #[.int .i64 ((0:Nat):Int),.int .i64 0,.int .i64 0] 277)).own_blk (size:=3) (n:=1) (cap:=1) (xs:=aZ [(0,0,0)]) (Nat.le_refl _) (by decide) rfl rfl;have hrd:=hA.reads;have hA':=hA.perm (af _ _ _);refine on (aC T rfl _ _ rfl rfl hA' rfl hrd (fo _) (by have:=hRl;unfold maxLen;omega) (by have:=hRl;omega) ?_);intro v5 w5 h5 _;have h5':St w0 w5 (own 277 3 v5 (R++[(0,0,0)]).length (aZ (R++[(0,0,0)]))*F):=by
            rw[fm,ae];exact(h5.perm (af _ _ _)).right
           have H5:=ac h5';clear h5 h5' hA hA' hrd HST;have hj:i+1≤N:=by omega
           have HRR:=ac (HR.out.snoc (m:=i+1) ⟨n,HRUN.out,by rw[HSH.out];congr 1;omega,by omega⟩);have hw9:IntKind.i64.wrap ((i:Int)+(1:Nat))=((i+1:Nat):Int):=by rw[IntWalk.i64_in _ (by omega)];omega
           clear HSH HRUN HAL HEND;go_wp2_with fail;refine⟨⟨i+1,R++[(0,0,0)],by omega,by go_num,HRR.out,by simp;omega,H5.out⟩,by simp [intOf];omega⟩
      ·rcases fM i with hi0 | hi0
       ·have HSH:=ac (show bT all i n=((y,0,0),1) by unfold bT;rw[if_neg (by rw[HY.out];omega),if_neg (by rw[HY.out];omega),if_neg (by omega),HY.out]);have d0:((y:Int)==0)=false:=by simp;omega
        have d1:decide ((0:Int)<i)=false:=decide_eq_false (by omega);have d1n:decide (0<i)=false:=decide_eq_false (by omega);clear hi0;go_upto_region 14 with (fail)
        go_quiet (fail);have hst:=HST.out.drewN nq;clear HST c0;generalize World.drewN _ nq=wz at*
        have c0:=HC.out _ i hst hiN;rw[HY.out] at c0;have HST:=ac hst;clear hst;go_upto_region 8 with (fail)
        go_wp2_with (at_builtin;apply ag);have hA:=(HST.out.alloc (.cells #[.int .i64 ((y:Nat):Int),.int .i64 0,.int .i64 0] 277)).own_blk (size:=3) (n:=1) (cap:=1) (xs:=aZ [(y,0,0)]) (Nat.le_refl _) (by decide) rfl rfl;have hrd:=hA.reads;have hA':=hA.perm (af _ _ _);refine on (aC T rfl _ _ rfl rfl hA' rfl hrd (fo _) (by have:=hRl;unfold maxLen;omega) (by have:=hRl;omega) ?_);intro v5 w5 h5 _;have h5':St w0 w5 (own 277 3 v5 (R++[(y,0,0)]).length (aZ (R++[(y,0,0)]))*F):=by
         rw[fm,ae];exact(h5.perm (af _ _ _)).right
        have H5:=ac h5';clear h5 h5' hA hA' hrd HST;have hj:i+1≤N:=by omega
        have HRR:=ac (HR.out.snoc (m:=i+1) ⟨n,HRUN.out,by rw[HSH.out];congr 1;omega,by omega⟩);have hw9:IntKind.i64.wrap ((i:Int)+(1:Nat))=((i+1:Nat):Int):=by rw[IntWalk.i64_in _ (by omega)];omega
        clear HSH HRUN HAL HEND;go_wp2_with fail;refine⟨⟨i+1,R++[(y,0,0)],by omega,by go_num,HRR.out,by simp;omega,H5.out⟩,by simp [intOf];omega⟩
       ·have cz:=HC.out _ (i-1) HST.out (by omega);obtain⟨z,hzz⟩:∃ z,all.getD (i-1) 0=z:=⟨_,rfl⟩;rw[hzz] at cz;have HP:=ac hzz;clear hzz;have hwi:IntKind.i64.wrap ((i:Int)-1)=((i-1:Nat):Int):=by rw[IntWalk.i64_in _ (by omega)];omega
        have hi1N:((i-1:Nat):Int)<N:=by omega
        by_cases hp:z=y
        ·by_cases h3:3≤n
         ·have HSH:=ac (show bT all i n=((16,min n 6-3,2),min n 6) by unfold bT;rw[if_neg (by rw[HY.out];omega),if_neg (by rw[HY.out];omega),if_pos ⟨hi0,by rw[HP.out,HY.out];exact hp,h3⟩]);rw[hp] at cz HP;have d0:((y:Int)==0)=false:=by simp;omega
          have d1:decide ((0:Int)<i)=true:=decide_eq_true (by omega);have d2:((y:Int)==(y:Int))=true:=by simp
          have d3:decide ((3:Int)≤n)=true:=decide_eq_true (by omega);go_upto_region 14 with (fail)
          go_quiet (fail);have hst:=HST.out.drewN nq;clear HST c0;generalize World.drewN _ nq=wz at*
          have c0:=HC.out _ i hst hiN;rw[HY.out] at c0;have HST:=ac hst;clear hst;go_upto_region 16 with (fail)
          rw[show(if(6:Int)<(n:Int) then 6 else(n:Int))=((min n 6:Nat):Int) by split <;> omega];have hc1:3≤min n 6:=by omega
          have hc2:min n 6≤n:=by omega
          generalize min n 6=c at*
          have hw7:IntKind.i64.wrap ((c:Int)-3)=((c-3:Nat):Int):=by rw[IntWalk.i64_in _ (by omega)];omega
          go_wp2_with (at_builtin;apply ag);have hA:=(HST.out.alloc (.cells #[.int .i64 16,.int .i64 ((c-3:Nat):Int),.int .i64 2] 277)).own_blk (size:=3) (n:=1) (cap:=1) (xs:=aZ [(16,c-3,2)]) (Nat.le_refl _) (by decide) rfl rfl;have hrd:=hA.reads;have hA':=hA.perm (af _ _ _);refine on (aC T rfl _ _ rfl rfl hA' rfl hrd (fo _) (by have:=hRl;unfold maxLen;omega) (by have:=hRl;omega) ?_);intro v5 w5 h5 _;have h5':St w0 w5 (own 277 3 v5 (R++[(16,c-3,2)]).length (aZ (R++[(16,c-3,2)]))*F):=by
           rw[fm,ae];exact(h5.perm (af _ _ _)).right
          have H5:=ac h5';clear h5 h5' hA hA' hrd HST;have hj:i+c≤N:=by omega
          have HRR:=ac (HR.out.snoc (m:=i+c) ⟨n,HRUN.out,by rw[HSH.out];congr 1;omega,by omega⟩);have hw9:IntKind.i64.wrap ((i:Int)+(c:Nat))=((i+c:Nat):Int):=by rw[IntWalk.i64_in _ (by omega)];omega
          clear HSH HRUN HAL HEND;go_wp2_with fail;refine⟨⟨i+c,R++[(16,c-3,2)],by omega,by go_num,HRR.out,by simp;omega,H5.out⟩,by simp [intOf];omega⟩
         ·have HSH:=ac (show bT all i n=((y,0,0),1) by unfold bT;rw[if_neg (by rw[HY.out];omega),if_neg (by rw[HY.out];omega),if_neg (by omega),HY.out]);rw[hp] at cz HP;have d4:((y:Int)==(y:Int))=true:=by simp
          have d0:((y:Int)==0)=false:=by simp;omega
          have d1:decide ((0:Int)<i)=true:=decide_eq_true (by omega);have d3:decide ((3:Int)≤n)=false:=decide_eq_false (by omega);go_upto_region 14 with (fail)
          go_quiet (fail);have hst:=HST.out.drewN nq;clear HST c0;generalize World.drewN _ nq=wz at*
          have c0:=HC.out _ i hst hiN;rw[HY.out] at c0;have HST:=ac hst;clear hst;go_upto_region 8 with (fail)
          go_wp2_with (at_builtin;apply ag);have hA:=(HST.out.alloc (.cells #[.int .i64 ((y:Nat):Int),.int .i64 0,.int .i64 0] 277)).own_blk (size:=3) (n:=1) (cap:=1) (xs:=aZ [(y,0,0)]) (Nat.le_refl _) (by decide) rfl rfl;have hrd:=hA.reads;have hA':=hA.perm (af _ _ _);refine on (aC T rfl _ _ rfl rfl hA' rfl hrd (fo _) (by have:=hRl;unfold maxLen;omega) (by have:=hRl;omega) ?_);intro v5 w5 h5 _;have h5':St w0 w5 (own 277 3 v5 (R++[(y,0,0)]).length (aZ (R++[(y,0,0)]))*F):=by
           rw[fm,ae];exact(h5.perm (af _ _ _)).right
          have H5:=ac h5';clear h5 h5' hA hA' hrd HST;have hj:i+1≤N:=by omega
          have HRR:=ac (HR.out.snoc (m:=i+1) ⟨n,HRUN.out,by rw[HSH.out];congr 1;omega,by omega⟩);have hw9:IntKind.i64.wrap ((i:Int)+(1:Nat))=((i+1:Nat):Int):=by rw[IntWalk.i64_in _ (by omega)];omega
          clear HSH HRUN HAL HEND;go_wp2_with fail;refine⟨⟨i+1,R++[(y,0,0)],by omega,by go_num,HRR.out,by simp;omega,H5.out⟩,by simp [intOf];omega⟩
        ·have HSH:=ac (show bT all i n=((y,0,0),1) by unfold bT;rw[if_neg (by rw[HY.out];omega),if_neg (by rw[HY.out];omega),if_neg (by rw[HP.out,HY.out];omega),HY.out]);have d4:((z:Int)==(y:Int))=false:=by simp;omega
         have d0:((y:Int)==0)=false:=by simp;omega
         have d1:decide ((0:Int)<i)=true:=decide_eq_true (by omega);go_upto_region 14 with (fail)
         go_quiet (fail);have hst:=HST.out.drewN nq;clear HST c0;generalize World.drewN _ nq=wz at*
         have c0:=HC.out _ i hst hiN;rw[HY.out] at c0;have HST:=ac hst;clear hst;go_upto_region 8 with (fail)
         go_wp2_with (at_builtin;apply ag);have hA:=(HST.out.alloc (.cells #[.int .i64 ((y:Nat):Int),.int .i64 0,.int .i64 0] 277)).own_blk (size:=3) (n:=1) (cap:=1) (xs:=aZ [(y,0,0)]) (Nat.le_refl _) (by decide) rfl rfl;have hrd:=hA.reads;have hA':=hA.perm (af _ _ _);refine on (aC T rfl _ _ rfl rfl hA' rfl hrd (fo _) (by have:=hRl;unfold maxLen;omega) (by have:=hRl;omega) ?_);intro v5 w5 h5 _;have h5':St w0 w5 (own 277 3 v5 (R++[(y,0,0)]).length (aZ (R++[(y,0,0)]))*F):=by
          rw[fm,ae];exact(h5.perm (af _ _ _)).right
         have H5:=ac h5';clear h5 h5' hA hA' hrd HST;have hj:i+1≤N:=by omega
         have HRR:=ac (HR.out.snoc (m:=i+1) ⟨n,HRUN.out,by rw[HSH.out];congr 1;omega,by omega⟩);have hw9:IntKind.i64.wrap ((i:Int)+(1:Nat))=((i+1:Nat):Int):=by rw[IntWalk.i64_in _ (by omega)];omega
         clear HSH HRUN HAL HEND;go_wp2_with fail;refine⟨⟨i+1,R++[(y,0,0)],by omega,by go_num,HRR.out,by simp;omega,H5.out⟩,by simp [intOf];omega⟩
    ·have HEND:=ac (show i+n<all.length→all.getD (i+n) 0≠all.getD i 0 from fun h=>absurd h (by rw[HN.out];omega));have hd0:decide ((q:Int)<N)=false:=decide_eq_false (by omega);clear hy;go_wp2_with fail;go_quiet (fail);have hst:=hst.drewN nq;generalize World.drewN _ nq=wq at*
     have c0:=HC.out _ i hst hiN;rw[HY.out] at c0;have HST:=ac hst;clear hst;clear hd0 hw1 hlt;have hrun:sG all i n:=⟨n1,by rw[HN.out];exact hn,HAL.out,HEND.out⟩;have HRUN:=ac hrun;clear hrun;have hn1000:n≤1000:=by omega
     have hv15:y≤15:=by rw[← HY.out,List.getD_eq_getElem?_getD,ai (by rw[HN.out];omega)];exact H15.out _ (bo _)
     by_cases hz:y=0
     ·subst hz
      by_cases h11:11≤n
      ·have HSH:=ac (show bT all i n=((18,min n 138-11,7),min n 138) by unfold bT;rw[if_pos ⟨HY.out,h11⟩]);have d2:decide ((11:Int)≤n)=true:=decide_eq_true (by omega);go_upto_region 11 with (fail)
       rw[show(if(138:Int)<(n:Int) then 138 else(n:Int))=((min n 138:Nat):Int) by split <;> omega];have hc1:11≤min n 138:=by omega
       have hc2:min n 138≤n:=by omega
       generalize min n 138=c at*
       have hw7:IntKind.i64.wrap ((c:Int)-11)=((c-11:Nat):Int):=by rw[IntWalk.i64_in _ (by omega)];omega
       go_wp2_with (at_builtin;apply ag);have hA:=(HST.out.alloc (.cells #[.int .i64 18,.int .i64 ((c-11:Nat):Int),.int .i64 7] 277)).own_blk (size:=3) (n:=1) (cap:=1) (xs:=aZ [(18,c-11,7)]) (Nat.le_refl _) (by decide) rfl rfl;have hrd:=hA.reads;have hA':=hA.perm (af _ _ _);refine on (aC T rfl _ _ rfl rfl hA' rfl hrd (fo _) (by have:=hRl;unfold maxLen;omega) (by have:=hRl;omega) ?_);intro v5 w5 h5 _;have h5':St w0 w5 (own 277 3 v5 (R++[(18,c-11,7)]).length (aZ (R++[(18,c-11,7)]))*F):=by
        rw[fm,ae];exact(h5.perm (af _ _ _)).right
       have H5:=ac h5';clear h5 h5' hA hA' hrd HST;have hj:i+c≤N:=by omega
       have HRR:=ac (HR.out.snoc (m:=i+c) ⟨n,HRUN.out,by rw[HSH.out];congr 1;omega,by omega⟩);have hw9:IntKind.i64.wrap ((i:Int)+(c:Nat))=((i+c:Nat):Int):=by rw[IntWalk.i64_in _ (by omega)];omega
       clear HSH HRUN HAL HEND;go_wp2_with fail;refine⟨⟨i+c,R++[(18,c-11,7)],by omega,by go_num,HRR.out,by simp;omega,H5.out⟩,by simp [intOf];omega⟩
      ·by_cases h3:3≤n
       ·have HSH:=ac (show bT all i n=((17,n-3,3),n) by unfold bT;rw[if_neg (by omega),if_pos ⟨HY.out,h3⟩]);have d2:decide ((11:Int)≤n)=false:=decide_eq_false (by omega);have d3:decide ((3:Int)≤n)=true:=decide_eq_true (by omega);have hw7:IntKind.i64.wrap ((n:Int)-3)=((n-3:Nat):Int):=by rw[IntWalk.i64_in _ (by omega)];omega
        go_upto_region 13 with (fail)
        go_wp2_with (at_builtin;apply ag);have hA:=(HST.out.alloc (.cells #[.int .i64 17,.int .i64 ((n-3:Nat):Int),.int .i64 3] 277)).own_blk (size:=3) (n:=1) (cap:=1) (xs:=aZ [(17,n-3,3)]) (Nat.le_refl _) (by decide) rfl rfl;have hrd:=hA.reads;have hA':=hA.perm (af _ _ _);refine on (aC T rfl _ _ rfl rfl hA' rfl hrd (fo _) (by have:=hRl;unfold maxLen;omega) (by have:=hRl;omega) ?_);intro v5 w5 h5 _;have h5':St w0 w5 (own 277 3 v5 (R++[(17,n-3,3)]).length (aZ (R++[(17,n-3,3)]))*F):=by
         rw[fm,ae];exact(h5.perm (af _ _ _)).right
        have H5:=ac h5';clear h5 h5' hA hA' hrd HST;have hj:i+n≤N:=by omega
        have HRR:=ac (HR.out.snoc (m:=i+n) ⟨n,HRUN.out,by rw[HSH.out];congr 1;omega,by omega⟩);have hw9:IntKind.i64.wrap ((i:Int)+(n:Nat))=((i+n:Nat):Int):=by rw[IntWalk.i64_in _ (by omega)];omega
        clear HSH HRUN HAL HEND;go_wp2_with fail;refine⟨⟨i+n,R++[(17,n-3,3)],by omega,by go_num,HRR.out,by simp;omega,H5.out⟩,by simp [intOf];omega⟩
       ·rcases fM i with hi0 | hi0
        ·have HSH:=ac (show bT all i n=((0,0,0),1) by unfold bT;rw[if_neg (by omega),if_neg (by omega),if_neg (by omega),HY.out]);have d1:decide ((0:Int)<i)=false:=decide_eq_false (by omega);have d1n:decide (0<i)=false:=decide_eq_false (by omega);clear hi0;have d3:decide ((3:Int)≤n)=false:=decide_eq_false (by omega);have d2:decide ((11:Int)≤n)=false:=decide_eq_false (by omega);go_upto_region 14 with (fail)
         go_quiet (fail);have hst:=HST.out.drewN nq;clear HST c0;generalize World.drewN _ nq=wz at*
         have c0:=HC.out _ i hst hiN;rw[HY.out] at c0;have HST:=ac hst;clear hst;go_upto_region 8 with (fail)
         go_wp2_with (at_builtin;apply ag);have hA:=(HST.out.alloc (.cells #[.int .i64 ((0:Nat):Int),.int .i64 0,.int .i64 0] 277)).own_blk (size:=3) (n:=1) (cap:=1) (xs:=aZ [(0,0,0)]) (Nat.le_refl _) (by decide) rfl rfl;have hrd:=hA.reads;have hA':=hA.perm (af _ _ _);refine on (aC T rfl _ _ rfl rfl hA' rfl hrd (fo _) (by have:=hRl;unfold maxLen;omega) (by have:=hRl;omega) ?_);intro v5 w5 h5 _;have h5':St w0 w5 (own 277 3 v5 (R++[(0,0,0)]).length (aZ (R++[(0,0,0)]))*F):=by
          rw[fm,ae];exact(h5.perm (af _ _ _)).right
         have H5:=ac h5';clear h5 h5' hA hA' hrd HST;have hj:i+1≤N:=by omega
         have HRR:=ac (HR.out.snoc (m:=i+1) ⟨n,HRUN.out,by rw[HSH.out];congr 1;omega,by omega⟩);have hw9:IntKind.i64.wrap ((i:Int)+(1:Nat))=((i+1:Nat):Int):=by rw[IntWalk.i64_in _ (by omega)];omega
         clear HSH HRUN HAL HEND;go_wp2_with fail;refine⟨⟨i+1,R++[(0,0,0)],by omega,by go_num,HRR.out,by simp;omega,H5.out⟩,by simp [intOf];omega⟩
        ·have cz:=HC.out _ (i-1) HST.out (by omega);obtain⟨z,hzz⟩:∃ z,all.getD (i-1) 0=z:=⟨_,rfl⟩;rw[hzz] at cz;have HP:=ac hzz;clear hzz;have hwi:IntKind.i64.wrap ((i:Int)-1)=((i-1:Nat):Int):=by rw[IntWalk.i64_in _ (by omega)];omega
         have hi1N:((i-1:Nat):Int)<N:=by omega
         by_cases hp:z=0
         ·have HSH:=ac (show bT all i n=((0,0,0),1) by unfold bT;rw[if_neg (by omega),if_neg (by omega),if_neg (by omega),HY.out]);rw[hp] at cz HP;have d1:decide ((0:Int)<i)=true:=decide_eq_true (by omega);have d3:decide ((3:Int)≤n)=false:=decide_eq_false (by omega);have d2:decide ((11:Int)≤n)=false:=decide_eq_false (by omega);go_upto_region 14 with (fail)
          go_quiet (fail);have hst:=HST.out.drewN nq;clear HST c0;generalize World.drewN _ nq=wz at*
          have c0:=HC.out _ i hst hiN;rw[HY.out] at c0;have HST:=ac hst;clear hst;go_upto_region 8 with (fail)
          go_wp2_with (at_builtin;apply ag);have hA:=(HST.out.alloc (.cells #[.int .i64 ((0:Nat):Int),.int .i64 0,.int .i64 0] 277)).own_blk (size:=3) (n:=1) (cap:=1) (xs:=aZ [(0,0,0)]) (Nat.le_refl _) (by decide) rfl rfl;have hrd:=hA.reads;have hA':=hA.perm (af _ _ _);refine on (aC T rfl _ _ rfl rfl hA' rfl hrd (fo _) (by have:=hRl;unfold maxLen;omega) (by have:=hRl;omega) ?_);intro v5 w5 h5 _;have h5':St w0 w5 (own 277 3 v5 (R++[(0,0,0)]).length (aZ (R++[(0,0,0)]))*F):=by
           rw[fm,ae];exact(h5.perm (af _ _ _)).right
          have H5:=ac h5';clear h5 h5' hA hA' hrd HST;have hj:i+1≤N:=by omega
          have HRR:=ac (HR.out.snoc (m:=i+1) ⟨n,HRUN.out,by rw[HSH.out];congr 1;omega,by omega⟩);have hw9:IntKind.i64.wrap ((i:Int)+(1:Nat))=((i+1:Nat):Int):=by rw[IntWalk.i64_in _ (by omega)];omega
          clear HSH HRUN HAL HEND;go_wp2_with fail;refine⟨⟨i+1,R++[(0,0,0)],by omega,by go_num,HRR.out,by simp;omega,H5.out⟩,by simp [intOf];omega⟩
         ·have HSH:=ac (show bT all i n=((0,0,0),1) by unfold bT;rw[if_neg (by omega),if_neg (by omega),if_neg (by omega),HY.out]);have d4:((z:Int)==0)=false:=by simp;omega
          have d1:decide ((0:Int)<i)=true:=decide_eq_true (by omega);have d3:decide ((3:Int)≤n)=false:=decide_eq_false (by omega);have d2:decide ((11:Int)≤n)=false:=decide_eq_false (by omega);go_upto_region 14 with (fail)
          go_quiet (fail);have hst:=HST.out.drewN nq;clear HST c0;generalize World.drewN _ nq=wz at*
          have c0:=HC.out _ i hst hiN;rw[HY.out] at c0;have HST:=ac hst;clear hst;go_upto_region 8 with (fail)
          go_wp2_with (at_builtin;apply ag);have hA:=(HST.out.alloc (.cells #[.int .i64 ((0:Nat):Int),.int .i64 0,.int .i64 0] 277)).own_blk (size:=3) (n:=1) (cap:=1) (xs:=aZ [(0,0,0)]) (Nat.le_refl _) (by decide) rfl rfl;have hrd:=hA.reads;have hA':=hA.perm (af _ _ _);refine on (aC T rfl _ _ rfl rfl hA' rfl hrd (fo _) (by have:=hRl;unfold maxLen;omega) (by have:=hRl;omega) ?_);intro v5 w5 h5 _;have h5':St w0 w5 (own 277 3 v5 (R++[(0,0,0)]).length (aZ (R++[(0,0,0)]))*F):=by
           rw[fm,ae];exact(h5.perm (af _ _ _)).right
          have H5:=ac h5';clear h5 h5' hA hA' hrd HST;have hj:i+1≤N:=by omega
          have HRR:=ac (HR.out.snoc (m:=i+1) ⟨n,HRUN.out,by rw[HSH.out];congr 1;omega,by omega⟩);have hw9:IntKind.i64.wrap ((i:Int)+(1:Nat))=((i+1:Nat):Int):=by rw[IntWalk.i64_in _ (by omega)];omega
          clear HSH HRUN HAL HEND;go_wp2_with fail;refine⟨⟨i+1,R++[(0,0,0)],by omega,by go_num,HRR.out,by simp;omega,H5.out⟩,by simp [intOf];omega⟩
     ·rcases fM i with hi0 | hi0
      ·have HSH:=ac (show bT all i n=((y,0,0),1) by unfold bT;rw[if_neg (by rw[HY.out];omega),if_neg (by rw[HY.out];omega),if_neg (by omega),HY.out]);have d0:((y:Int)==0)=false:=by simp;omega
       have d1:decide ((0:Int)<i)=false:=decide_eq_false (by omega);have d1n:decide (0<i)=false:=decide_eq_false (by omega);clear hi0;go_upto_region 14 with (fail)
       go_quiet (fail);have hst:=HST.out.drewN nq;clear HST c0;generalize World.drewN _ nq=wz at*
       have c0:=HC.out _ i hst hiN;rw[HY.out] at c0;have HST:=ac hst;clear hst;go_upto_region 8 with (fail)
       go_wp2_with (at_builtin;apply ag);have hA:=(HST.out.alloc (.cells #[.int .i64 ((y:Nat):Int),.int .i64 0,.int .i64 0] 277)).own_blk (size:=3) (n:=1) (cap:=1) (xs:=aZ [(y,0,0)]) (Nat.le_refl _) (by decide) rfl rfl;have hrd:=hA.reads;have hA':=hA.perm (af _ _ _);refine on (aC T rfl _ _ rfl rfl hA' rfl hrd (fo _) (by have:=hRl;unfold maxLen;omega) (by have:=hRl;omega) ?_);intro v5 w5 h5 _;have h5':St w0 w5 (own 277 3 v5 (R++[(y,0,0)]).length (aZ (R++[(y,0,0)]))*F):=by
        rw[fm,ae];exact(h5.perm (af _ _ _)).right
       have H5:=ac h5';clear h5 h5' hA hA' hrd HST;have hj:i+1≤N:=by omega
       have HRR:=ac (HR.out.snoc (m:=i+1) ⟨n,HRUN.out,by rw[HSH.out];congr 1;omega,by omega⟩);have hw9:IntKind.i64.wrap ((i:Int)+(1:Nat))=((i+1:Nat):Int):=by rw[IntWalk.i64_in _ (by omega)];omega
       clear HSH HRUN HAL HEND;go_wp2_with fail;refine⟨⟨i+1,R++[(y,0,0)],by omega,by go_num,HRR.out,by simp;omega,H5.out⟩,by simp [intOf];omega⟩
      ·have cz:=HC.out _ (i-1) HST.out (by omega);obtain⟨z,hzz⟩:∃ z,all.getD (i-1) 0=z:=⟨_,rfl⟩;rw[hzz] at cz;have HP:=ac hzz;clear hzz;have hwi:IntKind.i64.wrap ((i:Int)-1)=((i-1:Nat):Int):=by rw[IntWalk.i64_in _ (by omega)];omega
       have hi1N:((i-1:Nat):Int)<N:=by omega
       by_cases hp:z=y
       ·by_cases h3:3≤n
        ·have HSH:=ac (show bT all i n=((16,min n 6-3,2),min n 6) by unfold bT;rw[if_neg (by rw[HY.out];omega),if_neg (by rw[HY.out];omega),if_pos ⟨hi0,by rw[HP.out,HY.out];exact hp,h3⟩]);rw[hp] at cz HP;have d0:((y:Int)==0)=false:=by simp;omega
         have d1:decide ((0:Int)<i)=true:=decide_eq_true (by omega);have d2:((y:Int)==(y:Int))=true:=by simp
         have d3:decide ((3:Int)≤n)=true:=decide_eq_true (by omega);go_upto_region 14 with (fail)
         go_quiet (fail);have hst:=HST.out.drewN nq;clear HST c0;generalize World.drewN _ nq=wz at*
         have c0:=HC.out _ i hst hiN;rw[HY.out] at c0;have HST:=ac hst;clear hst;go_upto_region 16 with (fail)
         rw[show(if(6:Int)<(n:Int) then 6 else(n:Int))=((min n 6:Nat):Int) by split <;> omega];have hc1:3≤min n 6:=by omega
         have hc2:min n 6≤n:=by omega
         generalize min n 6=c at*
         have hw7:IntKind.i64.wrap ((c:Int)-3)=((c-3:Nat):Int):=by rw[IntWalk.i64_in _ (by omega)];omega
         go_wp2_with (at_builtin;apply ag);have hA:=(HST.out.alloc (.cells #[.int .i64 16,.int .i64 ((c-3:Nat):Int),.int .i64 2] 277)).own_blk (size:=3) (n:=1) (cap:=1) (xs:=aZ [(16,c-3,2)]) (Nat.le_refl _) (by decide) rfl rfl;have hrd:=hA.reads;have hA':=hA.perm (af _ _ _);refine on (aC T rfl _ _ rfl rfl hA' rfl hrd (fo _) (by have:=hRl;unfold maxLen;omega) (by have:=hRl;omega) ?_);intro v5 w5 h5 _;have h5':St w0 w5 (own 277 3 v5 (R++[(16,c-3,2)]).length (aZ (R++[(16,c-3,2)]))*F):=by
          rw[fm,ae];exact(h5.perm (af _ _ _)).right
         have H5:=ac h5';clear h5 h5' hA hA' hrd HST;have hj:i+c≤N:=by omega
         have HRR:=ac (HR.out.snoc (m:=i+c) ⟨n,HRUN.out,by rw[HSH.out];congr 1;omega,by omega⟩);have hw9:IntKind.i64.wrap ((i:Int)+(c:Nat))=((i+c:Nat):Int):=by rw[IntWalk.i64_in _ (by omega)];omega
         clear HSH HRUN HAL HEND;go_wp2_with fail;refine⟨⟨i+c,R++[(16,c-3,2)],by omega,by go_num,HRR.out,by simp;omega,H5.out⟩,by simp [intOf];omega⟩
        ·have HSH:=ac (show bT all i n=((y,0,0),1) by unfold bT;rw[if_neg (by rw[HY.out];omega),if_neg (by rw[HY.out];omega),if_neg (by omega),HY.out]);rw[hp] at cz HP;have d4:((y:Int)==(y:Int))=true:=by simp
         have d0:((y:Int)==0)=false:=by simp;omega
         have d1:decide ((0:Int)<i)=true:=decide_eq_true (by omega);have d3:decide ((3:Int)≤n)=false:=decide_eq_false (by omega);go_upto_region 14 with (fail)
         go_quiet (fail);have hst:=HST.out.drewN nq;clear HST c0;generalize World.drewN _ nq=wz at*
         have c0:=HC.out _ i hst hiN;rw[HY.out] at c0;have HST:=ac hst;clear hst;go_upto_region 8 with (fail)
         go_wp2_with (at_builtin;apply ag);have hA:=(HST.out.alloc (.cells #[.int .i64 ((y:Nat):Int),.int .i64 0,.int .i64 0] 277)).own_blk (size:=3) (n:=1) (cap:=1) (xs:=aZ [(y,0,0)]) (Nat.le_refl _) (by decide) rfl rfl;have hrd:=hA.reads;have hA':=hA.perm (af _ _ _);refine on (aC T rfl _ _ rfl rfl hA' rfl hrd (fo _) (by have:=hRl;unfold maxLen;omega) (by have:=hRl;omega) ?_);intro v5 w5 h5 _;have h5':St w0 w5 (own 277 3 v5 (R++[(y,0,0)]).length (aZ (R++[(y,0,0)]))*F):=by
          rw[fm,ae];exact(h5.perm (af _ _ _)).right
         have H5:=ac h5';clear h5 h5' hA hA' hrd HST;have hj:i+1≤N:=by omega
         have HRR:=ac (HR.out.snoc (m:=i+1) ⟨n,HRUN.out,by rw[HSH.out];congr 1;omega,by omega⟩);have hw9:IntKind.i64.wrap ((i:Int)+(1:Nat))=((i+1:Nat):Int):=by rw[IntWalk.i64_in _ (by omega)];omega
         clear HSH HRUN HAL HEND;go_wp2_with fail;refine⟨⟨i+1,R++[(y,0,0)],by omega,by go_num,HRR.out,by simp;omega,H5.out⟩,by simp [intOf];omega⟩
       ·have HSH:=ac (show bT all i n=((y,0,0),1) by unfold bT;rw[if_neg (by rw[HY.out];omega),if_neg (by rw[HY.out];omega),if_neg (by rw[HP.out,HY.out];omega),HY.out]);have d4:((z:Int)==(y:Int))=false:=by simp;omega
        have d0:((y:Int)==0)=false:=by simp;omega
        have d1:decide ((0:Int)<i)=true:=decide_eq_true (by omega);go_upto_region 14 with (fail)
        go_quiet (fail);have hst:=HST.out.drewN nq;clear HST c0;generalize World.drewN _ nq=wz at*
        have c0:=HC.out _ i hst hiN;rw[HY.out] at c0;have HST:=ac hst;clear hst;go_upto_region 8 with (fail)
        go_wp2_with (at_builtin;apply ag);have hA:=(HST.out.alloc (.cells #[.int .i64 ((y:Nat):Int),.int .i64 0,.int .i64 0] 277)).own_blk (size:=3) (n:=1) (cap:=1) (xs:=aZ [(y,0,0)]) (Nat.le_refl _) (by decide) rfl rfl;have hrd:=hA.reads;have hA':=hA.perm (af _ _ _);refine on (aC T rfl _ _ rfl rfl hA' rfl hrd (fo _) (by have:=hRl;unfold maxLen;omega) (by have:=hRl;omega) ?_);intro v5 w5 h5 _;have h5':St w0 w5 (own 277 3 v5 (R++[(y,0,0)]).length (aZ (R++[(y,0,0)]))*F):=by
         rw[fm,ae];exact(h5.perm (af _ _ _)).right
        have H5:=ac h5';clear h5 h5' hA hA' hrd HST;have hj:i+1≤N:=by omega
        have HRR:=ac (HR.out.snoc (m:=i+1) ⟨n,HRUN.out,by rw[HSH.out];congr 1;omega,by omega⟩);have hw9:IntKind.i64.wrap ((i:Int)+(1:Nat))=((i+1:Nat):Int):=by rw[IntWalk.i64_in _ (by omega)];omega
        clear HSH HRUN HAL HEND;go_wp2_with fail;refine⟨⟨i+1,R++[(y,0,0)],by omega,by go_num,HRR.out,by simp;omega,H5.out⟩,by simp [intOf];omega⟩
  ·obtain rfl:i=N:=by omega
   have HST:=ac hst;clear hst hR;go_wp2_with fail;go_ret;exact⟨_,R,rfl,HR.out,HST.out⟩
def fX (R:List (Nat × Nat × Nat)):List Nat:=R.foldl (fun a r=>eU a r.1) (List.replicate 19 0)
theorem yf (R:List (Nat × Nat × Nat)) (r:Nat × Nat × Nat):fX (R++[r])=eU (fX R) r.1:=by simp [fX,lU]
theorem sH (R:List (Nat × Nat × Nat)):(fX R).length=19:=by
 have key:∀ (R:List (Nat × Nat × Nat)) (a:List Nat),(R.foldl (fun a r=>eU a r.1) a).length=a.length:=by
  intro R
  induction R with
  | nil=>intro a;rfl
  | cons r R ih=>intro a;rw[lR,ih,xp]
 rw[fX,key,dK]
theorem yg:∀ (R:List (Nat × Nat × Nat)),(∀ r∈R,r.1<19)→∀ i,(fX R).getD i 0=(R.filter fun r=>decide (r.1=i)).length:=by
 refine si ?_ fun R r ih=> ?_
 ·intro _ i;show(List.replicate 19 0).getD i 0=0;rw[List.getD_eq_getElem?_getD,eb]
  split <;> rfl
 ·intro hok i;rw[yf,sg _ _ _ (by rw[sH];exact hok r (by simp)),ih (fun x hx=>hok x (by simp [hx])),jx,ae]
  congr 1
  by_cases e:r.1=i
  ·rw[if_pos e.symm,cT,if_pos (by simpa using e)];rfl
  ·rw[if_neg (fun h=>e h.symm),cT,if_neg (by simpa using e)];rfl
theorem yh {R:List (Nat × Nat × Nat)} (hok:∀ r∈R,r.1<19):∀ n∈fX R,n≤R.length:=sj fun i=>by
 rw[yg R hok];exact lh _ R
def de (l:List Nat):Nat:=(l.filter fun n=>decide (0<n)).length
theorem yi (o:List Nat):comes o=de o:=by
 rw[de,comes,dU,bI];have e:∀ m,m≤o.length→((o.take m).filter fun n=>decide (0<n)).length=((List.range m).filter fun i=>decide (0<o.getD i 0)).length:=by
  intro m
  induction m with
  | zero=>intro _;rfl
  | succ m ih=>
   intro hm;rw[List.take_succ_eq_append_getElem (by omega),jx,gX,jx,ae,ae,ih (by omega)]
   congr 1
   have h1:o.getD m 0=o[m]:=by rw[List.getD_eq_getElem?_getD,ai (by omega:m<o.length)];rfl
   by_cases hp:0<o.getD m 0
   ·rw[cT,if_pos (by rw[h1] at hp;simpa using hp),cT,if_pos (by simpa using hp)];rfl
   ·rw[cT,if_neg (fun hq=>hp (by rw[h1];simpa using hq)),cT,if_neg (by simpa using hp)];rfl
 have:=e o.length (Nat.le_refl _);rw[cI] at this;exact this.symm
theorem sI (a b:List Nat):de (a++b)=de a+de b:=by rw[de,jx,ae];rfl
theorem Hy {o:List Nat} {k:Nat} (h:k<o.length):de (o.take (k+1))=de (o.take k)+if 0<o.getD k 0 then 1 else 0:=by
 rw[List.take_succ_eq_append_getElem h,sI]
 congr 1
 rw[List.getD_eq_getElem?_getD,ai h];show(List.filter _ [o[k]]).length=if 0<o[k] then 1 else 0
 rw[cT]
 by_cases hp:0<o[k]
 ·rw[if_pos (by simpa using hp),if_pos hp];rfl
 ·rw[if_neg (by simpa using hp),if_neg hp];rfl
theorem Hz {o:List Nat} {i:Nat} (h:i<o.length) (h0:o.getD i 0=0):de (o.set i 1)=de o+1:=by
 have e1:o=o.take i++(o[i]::o.drop (i+1)):=by rw[List.getElem_cons_drop,eQ]
 have e0:o[i]=0:=by rw[List.getD_eq_getElem?_getD,ai h] at h0;exact h0
 have e2:de o=de (o.take i)+de (o[i]::o.drop (i+1)):=by
  rw[← sI];exact congrArg de e1
 rw[List.set_eq_take_append_cons_drop,if_pos h,sI,e2,e0];show de (o.take i)+(List.filter _ (1::o.drop (i+1))).length=de (o.take i)+(List.filter _ (0::o.drop (i+1))).length+1;rw[cT,if_pos (by decide),cT,if_neg (by decide),aK];rfl
theorem Ia {o:List Nat} {i:Nat} (h:de o<2) (hp:∀ t,t<i→0<o.getD t 0):i<2:=by
 rcases cf i 2 with h2 | h2
 ·exact h2
 ·exfalso;have:=sn (hp 0 (by omega)) (hp 1 (by omega)) (by omega);rw[yi] at this;omega
theorem yj {o:List Nat} {i t:Nat} (h:i<o.length) (hp:0<o.getD t 0):0<(o.set i 1).getD t 0:=by
 rw[List.getD_eq_getElem?_getD,li]
 by_cases e:i=t
 ·rw[if_pos e,if_pos (by omega)];exact Nat.one_pos
 ·rw[if_neg e,← List.getD_eq_getElem?_getD];exact hp
theorem Ib {R:List (Nat × Nat × Nat)} (hR:∀ r∈R,r.1<19) {o me:List Nat} (hl:o.length=19) (hp:∀ t,0<(fX R).getD t 0→0<o.getD t 0) (h2:2≤de o) (hm:LimOk o 7 me):MetaOk me R:=by
 obtain⟨f,k⟩:=rm (hm.full (by rw[yi];exact h2));refine⟨by rw[hm.len,hl],hm.le,f,k,fun r hr=> ?_⟩;refine(hm.pos r.1 (by rw[hl];exact hR r hr)).2 (hp _ ?_);rw[yg R hR];exact zw (jw.2 ⟨hr,by simp⟩)
def jm (me:List Nat) (R:List (Nat × Nat × Nat)):List Nat:=
 (ap 29 5).reverse++((ap 29 5).reverse++((ap 15 4).reverse++(ew me be++R.flatMap (dA (aB me)))))
theorem Ic (la lb me:List Nat) (R:List (Nat × Nat × Nat)) (l:List TokD):lH la lb me R l=jm me R++b7 (aB la) (aB lb) l:=by
 simp only[lH,jm,List.append_assoc]
theorem StepRn.facts {all:List Nat} {i j:Nat} {r:Nat × Nat × Nat} (h:StepRn all i r j):r.1<19∧r.2.1<2^r.2.2∧r.2.2≤7:=by
 obtain⟨_,⟨h1,h2,h3,_⟩ | ⟨h1,h2,h3,_⟩ | ⟨h1,h2,h3,_⟩ | ⟨h1,h2,h3,_⟩⟩:=h
 ·rw[h2,h3];exact⟨by omega,by decide,by omega⟩
 ·rw[h2];exact⟨by omega,by omega,by omega⟩
 ·rw[h2];exact⟨by omega,by omega,by omega⟩
 ·rw[h2];exact⟨by omega,by omega,by omega⟩
theorem RunsTo.facts {all:List Nat}:∀ {R:List (Nat × Nat × Nat)} {i j:Nat},RunsTo all i R j→∀ r∈R,r.1<19∧r.2.1<2^r.2.2∧r.2.2≤7:=by
 intro R
 induction R with
 | nil=>intro i j _ r hr;cases hr
 | cons x R ih=>
  rintro i j ⟨m,h1,h2⟩ r hr
  rcases List.mem_cons.1 hr with rfl | hr
  ·exact h1.facts
  ·exact ih h2 r hr
theorem Ie (M O R W A F:SProp):M*(O*(R*(W*(A*F))))=(O*A)*(W*(M*(R*F))):=by ac_rfl
theorem If (W O K M R F:SProp):W*(O*(K*(M*(R*F))))=(O*(K*(M*R)))*(W*F):=by ac_rfl
theorem yk (X W O K M:SProp):X*(W*(O*(K*M)))=K*(W*(O*(X*M))):=by ac_rfl
theorem Ig (O R A W F:SProp):O*(R*(A*(W*F)))=O*(R*(W*(A*F))):=by ac_rfl
theorem Ih (l:List (Nat × Nat × Nat)) (k:Nat) (o:Nat × Nat × Nat) (h:l[k]? =some o) (j:Nat) (hj:j<3):(aZ l)[k*3+j]? =(nf o)[j]? :=
 jD nf 3 (fun _=>rfl) l k o h j hj
theorem ym {w:World} {a:Option Addr} {cap n:Nat} {l:List (Nat × Nat × Nat)} (h:Reads w 3 (.slice a n cap) n (aZ l)) {k:Nat} {o:Nat × Nat × Nat} (hk:l[k]? =some o):
  ∃ b off,a=some ⟨b,off,none⟩∧w.cell? ⟨b,off+k*3,none⟩=some (.int .i64 (o.1:Int))∧w.cell? ⟨b,off+k*3+1,none⟩=some (.int .i64 (o.2.1:Int))∧w.cell? ⟨b,off+k*3+2,none⟩=some (.int .i64 (o.2.2:Int)):=by
 obtain⟨hl,⟨e,rfl⟩ | ⟨⟨b,off,spot⟩,c,e,h1,h2,h3⟩⟩:=h
 ·have:l=[]:=by
   cases l with
   | nil=>rfl
   | cons p l=>simp [aZ,nf] at hl
  simp [this] at hk
 ·cases e;have g:=fun j hj=>Ih l k o hk j hj
  have h00:∃ u,(aZ l)[0]? =some u:=by
   have:k<l.length:=(dJ.1 hk).1;cases l with
   | nil=>simp at this
   | cons p l=>exact⟨_,rfl⟩
  obtain⟨u0,hu0⟩:=h00;have hspot:spot=none:=by simpa [Addr.add] using World.cell?_spot (h3 0 u0 hu0)
  subst hspot;refine⟨b,off,rfl,?_,?_,?_⟩
  ·have:=h3 _ _ ((g 0 (by decide)).trans rfl);rw[Addr.add_lit] at this;exact this
  ·have:=h3 _ _ ((g 1 (by decide)).trans rfl);rw[Addr.add_lit] at this;exact this
  ·have:=h3 _ _ ((g 2 (by decide)).trans rfl);rw[Addr.add_lit] at this;exact this
theorem yo (l:List Nat):∀ u∈nvs l,u.oneCell'=true:=by
 intro u hu;obtain⟨c,_,rfl⟩:=bW.1 hu;rfl
theorem yp {w0 w:World} {F:SProp} {B:Nat} {l:List Nat} (h:St w0 w (az B l true*F)) (hm:l.length≤1000000000000) {la lb:List Nat} (l1:la.length=286) (l2:lb.length=30) (a15:∀ n∈la,n≤15) (b15:∀ n∈lb,n≤15)
  {va vb:Value} (ha:Stb w0 F (fun w=>Reads w 1 va 286 (nvs la))) (hb:Stb w0 F (fun w=>Reads w 1 vb 30 (nvs lb))):
  Calls Tryz.prog 170 #[.pointer (some ⟨B,0,none⟩),va,vb] w fun e w'=>∃ me R,e= .returned (.int .i64 0)∧MetaOk me R∧RunsBy (la++lb) 0 R 316∧St w0 w' (az B (l++jm me R) true*F):=by
 obtain⟨aa,ca,rfl⟩:=(ha w h.right).sub;obtain⟨ab,cb,rfl⟩:=(hb w h.right).sub;have EI:=fA;have HA:=ac ha;have HB:=ac hb;have H:=ac h;have HL:=ac (⟨l1,l2,a15,b15⟩:la.length=286∧lb.length=30∧(∀ n∈la,n≤15)∧∀ n∈lb,n≤15);clear ha hb h l1 l2 a15 b15;go_enter Tryz.func170,Tryz.ntmps170;go_upto_region 1 with (fail)
 go_wp2_with (at_builtin;apply ag);have h0:St w0 (w.alloc (.cells #[] 3)) (own 3 1 (.slice (some ⟨w.heap.size,0,none⟩) 0 0) 0 []*(az B l true*F)):=St.own_blk (H.out.alloc (.cells #[] 3)) (Nat.le_refl _) (Nat.zero_le _) rfl rfl;clear H;refine on (aC EI rfl _ _ rfl rfl h0 rfl (HA.out _ h0.right.right) (yo _) (by unfold maxLen;omega) (by omega) ?_);intro v1 w1 h1 _;have H1:=ac h1;clear h0 h1;go_wp2_with (at_builtin;apply ag);refine on (aC EI rfl _ _ rfl rfl H1.out rfl (HB.out _ H1.out.right.right) (yo _) (by unfold maxLen;omega) (by omega) ?_);intro v2 w2 h2 _;rw[ba,show nvs la++nvs lb=nvs (la++lb) by rw[nvs,nvs,nvs,List.map_append],show 0+286+30=316 by rfl] at h2;obtain⟨a2,c2,rfl⟩:=h2.reads.sub;have hll:(la++lb).length=316:=by rw[ae,HL.out.1,HL.out.2.1]
 have h15:∀ n∈la++lb,n≤15:=fun n hn=>(cA.1 hn).elim (HL.out.2.2.1 n) (HL.out.2.2.2 n)
 have HR:=ac (Hx (all:=la++lb) h2 (by rw[hll];omega) h15 (v:= .slice a2 316 c2) (by rw[hll];exact Stb.of_own));rw[hll] at HR;have HX:=ac (⟨hll,h15⟩:(la++lb).length=316∧∀ n∈la++lb,n≤15);clear H1 h2 hll h15;go_wp2_with (first | (go_at_call 198;refine HR.out.mono ?_;rintro e w3 ⟨vr,R,rfl,hR,h3⟩;have H3:=ac h3;have HRR:=ac hR;clear h3 hR) | (at_make;apply ag));refine on (iF EI rfl _ _ rfl 19 rfl rfl rfl rfl H3.out (by decide) (by decide) ?_);intro v4 w4 h4;rw[show(madeCells (iv 0).cells (19*1)).toList=nvs (List.replicate 19 0) by rw[gW];simp only[iv,Value.cells,toList_madeCells_one,nvs,nD];rfl] at h4;have hft:=(HRR.out.rn HX.out.2).facts;have hRl:=((HRR.out.rn HX.out.2).le (Nat.zero_le _)).2.2;rw[show(316:Nat)-0=316 by rfl] at hRl;obtain⟨nR,hnR⟩:∃ nR,R.length=nR:=⟨_,rfl⟩;obtain⟨ar,cr,rfl⟩:=H3.out.reads.sub;obtain⟨a4,c4,rfl⟩:=h4.reads.sub;obtain⟨g,rfl⟩:=bR h4 (by decide);have h4:=h4.perm (Ig _ _ _ _ _);rw[hnR] at h4 hRl;have HNR:=ac hnR;have H4:=ac h4;have HFT:=ac hft;clear h4 H3 hft HA HB HR;rw[hnR];clear hnR;go_wp2_with fail
 go_loopw [10,32] (fun x10 vi wr=>∃ (k:Nat),k≤nR∧vi= .int .i64 k∧St w0 wr (own 3 1 (.slice (some ⟨g,0,none⟩) 19 c4) 19 (nvs (fX (R.take k)))*_)) (fun x10 vi _=>nR-(intOf vi).toNat)
 case atStart=>exact⟨0,by omega,rfl,H4.out⟩
 case round=>
  obtain⟨k,hk,rfl,hst⟩:=hrel
  by_cases hkn:k<nR
  ·have hkR:k<R.length:=by rw[HNR.out];exact hkn
   have hx:=ai hkR;obtain⟨b,off,rfl,c0,c1,c2⟩:=ym hst.right.reads hx;have htk:fX (R.take (k+1))=eU (fX (R.take k)) R[k].1:=by rw[List.take_succ_eq_append_getElem hkR,yf]
   have HTK:=ac htk;clear htk;have hol:=sH (R.take k);have hle:=yh (R:=R.take k) fun x hx=>(HFT.out x (jo hx)).1
   have hlt:=(HFT.out R[k] (bo _)).1;have htl:(R.take k).length≤k:=by rw[aJ];omega
   have hle:∀ x∈fX (R.take k),x≤1000:=fun x hx=>by have:=hle x hx;omega
   have hkl:(k:Int)<nR:=by omega
   clear htl hx;generalize fX (R.take k)=Oc at*
   generalize R[k]=o at*
   obtain⟨o0,o1,o2⟩:=o;simp only at c0 c1 c2 hlt HTK;obtain⟨v,hv⟩:∃ v,Oc.getD o0 0=v:=⟨_,rfl⟩;have hg:Oc[o0]? =some v:=by rw[← hv,List.getD_eq_getElem?_getD,ai (by rw[hol];omega)];rfl
   have hv1:=hle v (aG hg);have hS2:=hst.drop_alloc (Obj.cells #[Value.int .i64 (o0:Int),Value.int .i64 (o1:Int),Value.int .i64 (o2:Int)] 277);have e0:=hS2.own_cell (i:=o0) (u:= .int .i64 (v:Int)) (by rw[nvs,au,hg];rfl);have f0:=hS2.own_free o0;have hcI:(o0:Int)<19:=by omega
   have hw1:IntKind.i64.wrap ((v:Int)+1)=((v+1:Nat):Int):=by rw[IntWalk.i64_in _ (by omega)];omega
   have HS2:=ac hS2;have HV:=ac hv;clear hS2 hg hv hv1 hst hle hol hkR H4;go_wp2_with fail;have h7:=HS2.out.own_set o0 (.int .i64 ((v:Int)+1));refine⟨⟨k+1,by omega,by go_num,?_⟩,by simp [intOf];omega⟩;rw[HTK.out];unfold eU;rw[HV.out,nvs,ez];exact h7
  ·obtain rfl:k=nR:=by omega
   rw[show R.take k=R by rw[← HNR.out];exact cI] at hst;have hol:=sH R;have hle:=yh (R:=R) fun x hx=>(HFT.out x hx).1
   rw[HNR.out] at hle;have hpp:∀ t,0<(fX R).getD t 0→0<(fX R).getD t 0:=fun t h=>h
   have HPP:=ac hpp;clear hpp;generalize hO:fX R=O at*
   have HO:=ac hO;have HOL:=ac (⟨hol,hle⟩:O.length=19∧∀ n∈O,n≤k);have HST:=ac hst;clear hO hol hle hst H4;go_wp2_with fail
   go_loopw [11,13,46] (fun vu x13 vi wz=>∃ (j:Nat),j≤19∧vi= .int .i64 j∧vu= .int .i64 (de (O.take j):Nat)∧de (O.take j)≤j∧wz=wr) (fun vu x13 vi _=>19-(intOf vi).toNat)
   case atStart=>exact⟨0,by omega,rfl,rfl,Nat.le_refl _,rfl⟩
   case round=>
    obtain⟨j,hj,rfl,rfl,hpj,rfl⟩:=hrel
    by_cases hj19:j<19
    ·have hjO:j<O.length:=by rw[HOL.out.1];exact hj19
     have hps:=Hy hjO;obtain⟨v,hv⟩:∃ v,O.getD j 0=v:=⟨_,rfl⟩;have hg:O[j]? =some v:=by rw[← hv,List.getD_eq_getElem?_getD,ai hjO];rfl
     have c0:=HST.out.own_cell (i:=j) (u:= .int .i64 (v:Int)) (by rw[nvs,au,hg];rfl);rw[hv] at hps;have HPS:=ac hps;obtain⟨u,hu⟩:∃ u,de (O.take j)=u:=⟨_,rfl⟩;rw[hu] at hpj hps ⊢;have HU:=ac hu;have hjI:(j:Int)<19:=by omega
     clear hps hu hg hv hjO;have hw1:IntKind.i64.wrap ((u:Int)+1)=((u+1:Nat):Int):=by rw[IntWalk.i64_in _ (by omega)];omega
     by_cases hv0:0<v
     ·have d1:decide ((0:Int)<v)=true:=decide_eq_true (by omega);go_wp2_with fail;refine⟨⟨j+1,by omega,by go_num,?_,?_,by first | rfl | trivial⟩,by simp [intOf];omega⟩
      ·rw[HPS.out,HU.out,if_pos hv0];go_num
      ·rw[HPS.out,HU.out,if_pos hv0];omega
     ·have d1:decide ((0:Int)<v)=false:=decide_eq_false (by omega);go_wp2_with fail;refine⟨⟨j+1,by omega,by go_num,?_,?_,by first | rfl | trivial⟩,by simp [intOf];omega⟩
      ·rw[HPS.out,HU.out,if_neg hv0];rfl
      ·rw[HPS.out,HU.out,if_neg hv0];omega
    ·obtain rfl:j=19:=by omega
     rw[show O.take 19=O by rw[← HOL.out.1];exact cI] at hpj ⊢;obtain⟨u,hu⟩:∃ u,de O=u:=⟨_,rfl⟩;rw[hu] at hpj ⊢;have HU:=ac hu;clear hu;go_wp2_with fail
     go_loopw [11,14] (fun vu vi wz=>∃ (i:Nat) (o:List Nat),i≤2∧vi= .int .i64 i∧de o≤19∧vu= .int .i64 (de o:Nat)∧o.length=19∧(∀ n∈o,n≤1000)∧(∀ t,t<i→0<o.getD t 0)∧(∀ t,0<O.getD t 0→0<o.getD t 0)∧St w0 wz (own 3 1 (.slice (some ⟨g,0,none⟩) 19 c4) 19 (nvs o)*_)) (fun vu vi _=>2-(intOf vi).toNat)
     case atStart=>exact⟨0,O,by omega,rfl,by rw[HU.out];exact hpj,by rw[HU.out],HOL.out.1,fun n hn=>by have:=HOL.out.2 n hn;omega,fun t ht=>by omega,HPP.out,HST.out⟩
     case round=>
      clear HST HPP HU;obtain⟨i,o,hi2,rfl,hp19,rfl,hol,hle,hlow,hpp,hst⟩:=hrel;have HPP:=ac hpp;have HLE:=ac hle;have HOLE:=ac hol
      by_cases hu2:de o<2
      ·have hi1:=Ia hu2 hlow;have hio:i<o.length:=by rw[hol];omega
       have HLOW:=ac hlow;obtain⟨v,hv⟩:∃ v,o.getD i 0=v:=⟨_,rfl⟩;have hg:o[i]? =some v:=by rw[← hv,List.getD_eq_getElem?_getD,ai hio];rfl
       have c0:=hst.own_cell (i:=i) (u:= .int .i64 (v:Int)) (by rw[nvs,au,hg];rfl);have f0:=hst.own_free i;have hiI:(i:Int)<19:=by omega
       by_cases hv0:v=0
       ·have hps:=Hz hio (by rw[hv];exact hv0);have HPS:=ac hps;have HST:=ac hst;obtain⟨u,hu⟩:∃ u,de o=u:=⟨_,rfl⟩;rw[hu] at hu2 hp19 HPS ⊢;have d0:((v:Int)==0)=true:=by simp [hv0]
        have huI:(u:Int)<2:=by omega
        have hw1:IntKind.i64.wrap ((u:Int)+1)=((u+1:Nat):Int):=by rw[IntWalk.i64_in _ (by omega)];omega
        have HIO:=ac hio;have HHV:=ac hv;have HV0:=ac hv0;clear hps hst hu hol hle hlow hpp hg hv hv0 hio;go_wp2_with fail;have h7:=HST.out.own_set i (.int .i64 1);refine⟨⟨i+1,o.set i 1,by omega,by go_num,by rw[HPS.out];omega,by rw[HPS.out];go_num,by rw[eE];exact HOLE.out,fun n hn=> ?_,fun t ht=> ?_,fun t ht=>yj HIO.out (HPP.out t ht),?_⟩,by simp [intOf];omega⟩
        ·rcases l9 hn with h | rfl
         ·exact HLE.out n h
         ·omega
        ·rcases cf t i with h | h
         ·exact yj HIO.out (HLOW.out t h)
         ·obtain rfl:t=i:=by omega
          rw[List.getD_eq_getElem?_getD,jt HIO.out];exact Nat.one_pos
        ·rw[show nvs (o.set i 1)=(nvs o).set i (.int .i64 1) by rw[nvs,nvs,ez];rfl];exact h7
       ·have d0:((v:Int)==0)=false:=by simp [hv0]
        have HST:=ac hst;obtain⟨u,hu⟩:∃ u,de o=u:=⟨_,rfl⟩;have HUU:=ac hu;rw[hu] at hu2 hp19 ⊢;have huI:(u:Int)<2:=by omega
        have HHV:=ac hv;have HV0:=ac hv0;clear hst hu hol hle hlow hpp hg hv hv0 hio;go_wp2_with fail;refine⟨⟨i+1,o,by omega,by go_num,by rw[HUU.out];omega,by rw[HUU.out],HOLE.out,HLE.out,fun t ht=> ?_,HPP.out,HST.out⟩,by simp [intOf];omega⟩
        rcases cf t i with h | h
        ·exact HLOW.out t h
        ·obtain rfl:t=i:=by omega
         have h1:=HHV.out;have h2:=HV0.out;omega
      ·have hLIM:=sF hst o 7 (v:= .slice (some ⟨g,0,none⟩) 19 c4) (by rw[hol];exact Stb.of_own) (by rw[hol];omega) (fun n hn=>by have:=hle n hn;omega) (by omega) (by omega) (by have:=sk o;rw[hol] at this;omega);have hmo:∀ me,LimOk o 7 me→MetaOk me R:=fun me hm=>Ib (fun r hr=>(HFT.out r hr).1) hol (by rw[HO.out];exact hpp) (by omega) hm
       have HLIM:=ac hLIM;have HMO:=ac hmo;obtain⟨u,hu⟩:∃ u,de o=u:=⟨_,rfl⟩;rw[hu] at hu2 hp19 ⊢;have huI:¬ (u:Int)<2:=by omega
       clear hLIM hmo hu hol hle hlow hpp hst HPP HLE HOLE;go_wp2_with fail;refine HLIM.out.mono ?_;rintro e w5 ⟨vm,me,rfl,hme,h5⟩;have hMe:=HMO.out me hme;have H5:=ac h5;have HME:=ac hMe;have hlm:=hMe.len;rw[hlm] at h5;obtain⟨am,cm,rfl⟩:=h5.reads.sub;have h6:=(h5.perm (Ie _ _ _ _ _ _)).right;have HBK:=ac (su h6 me hMe.ok (fun n hn=>by have:=hMe.le n hn;omega) (by rw[hlm];omega) (by rw[hlm];omega) (v:= .slice am 19 cm) (by rw[hlm];exact Stb.of_own.more _));have HRW:Hid (∀ r∈R,∃ x,(aB me)[r.1]? =some x∧x≠[]∧x.length≤7):=ac fun r hr=>by
        obtain⟨x,hx,hne⟩:=kT (by rw[hlm];exact(HFT.out r hr).1) (hMe.used r hr);refine⟨x,hx,hne,?_⟩;obtain⟨hi,rfl⟩:=mN hx;rw[jd,List.getD_eq_getElem?_getD];cases e:me[r.1]? with
        | none=>simp
        | some b=>have:=hMe.le b (aG e);simpa using this
       have HBM:=ac (je me);have HM7:Hid (∀ i,i<19→∃ v,me[i]? =some v∧v≤7∧me.getD i 0=v):=ac fun i hi=>⟨me[i]'(by rw[hlm];exact hi),ai _,hMe.le _ (bo _),by rw[List.getD_eq_getElem?_getD,ai (by rw[hlm];exact hi)];rfl⟩
       clear h5 h6 H5 HMO HLIM hMe hlm hme;go_wp2_with (first | (go_at_call 199;refine HBK.out.mono ?_;rintro e w6 ⟨Bk,rfl,h7⟩;have H7:=ac (h7.perm (af _ _ _));clear h7;apply ag));obtain⟨Wd,hWd⟩:∃ Wd,aB me=Wd:=⟨_,rfl⟩;rw[hWd] at H7 HRW HBM;have HWD:=ac hWd;clear HBK hWd;refine on ?_;go_wp2_with fail;refine(dE H7.out 29 5 (by omega) (fun _=>by decide) (by omega) (by omega)).mono ?_;rintro e w8 ⟨rfl,h8⟩;have H8:=ac h8;clear h8 H7;go_wp2_with fail;refine(dE H8.out 29 5 (by omega) (fun _=>by decide) (by omega) (by rw[ae,fc];omega)).mono ?_;rintro e w9 ⟨rfl,h9⟩;have H9:=ac h9;clear h9 H8;go_wp2_with fail;refine(dE H9.out 15 4 (by omega) (fun _=>by decide) (by omega) (by rw[ae,fc,ae,fc];omega)).mono ?_;rintro e wA ⟨rfl,hA⟩;obtain⟨cur,hcur⟩:∃ cur,l++bi true 29 5++bi true 29 5++bi true 15 4=cur:=⟨_,rfl⟩;have hcl:cur.length≤1000000000100:=by rw[← hcur,ae,fc,ae,fc,ae,fc];omega
       rw[hcur] at hA;have HCUR:=ac hcur;have HAA:=ac hA;clear hA H9 hcur;go_wp2_with fail;refine(Ez HAA.out).mono ?_;rintro e wB ⟨vo,rfl,hB⟩;have hB:=hB.perm (af _ _ _);obtain⟨ao,co,rfl⟩:=hB.right.reads.sub;have HBB:=ac hB;clear hB HAA;go_wp2_with fail
       go_loopw [19,101] (fun x19 vi wz=>∃ (j:Nat),j≤19∧vi= .int .i64 j∧St w0 wz (az B (cur++ew me (be.take j)) true*_)) (fun x19 vi _=>19-(intOf vi).toNat)
       case atStart=>exact⟨0,by omega,rfl,by simpa [ew] using HBB.out⟩
       case round=>
        clear HBB;obtain⟨j,hj,rfl,hst⟩:=hrel
        by_cases hj19:j<19
        ·have hjO:j<be.length:=hj19;have hlo:∀ x∈be,x<19:=by decide
         obtain⟨x,hx⟩:∃ x,be[j]=x:=⟨_,rfl⟩;have hx19:x<19:=by rw[← hx];exact hlo _ (bo _)
         obtain⟨v,hv,hv7,hvd⟩:=HM7.out x hx19;obtain⟨b1,o1,rfl,c0⟩:=hst.right.reads.at_ (j:=j) hjO;rw[nvs,au,ai hjO,hx] at c0;obtain⟨b2,o2,hm2,c1⟩:=hst.right.right.right.reads.at_ (j:=x) hx19;cases hm2;rw[nvs,au,hv] at c1;replace c0:wr.cell? ⟨b1,o1+j,none⟩=some (.int .i64 (x:Int)):=c0;replace c1:wr.cell? ⟨b2,o2+x,none⟩=some (.int .i64 (v:Int)):=c1;have htk:ew me (be.take (j+1))=ew me (be.take j)++(ap v 3).reverse:=by
          rw[List.take_succ_eq_append_getElem hjO,hx,ew,jS,List.flatMap_singleton,hvd];rfl
         have hml:(ew me (be.take j)).length≤57:=by rw[pj,aJ];omega
         have HTK:=ac htk;have HML:=ac hml;have hjI:(j:Int)<19:=by omega
         have hxI:(x:Int)<19:=by omega
         have hw2:IntKind.u32.wrap (v:Int)=(v:Int):=IntWalk.u32_in _ (by omega);have HST:=ac hst;clear htk hml hst hlo hx hv hvd hjO;go_wp2_with fail;refine(dE HST.out v 3 (by omega) (fun _=>fv (by omega)) (by omega) (by rw[ae];have:=HML.out;omega)).mono ?_;rintro e wC ⟨rfl,hC⟩;have HC:=ac hC;clear hC HST c0 c1;go_wp2_with fail;refine⟨⟨j+1,by omega,by go_num,?_⟩,by simp [intOf];omega⟩;rw[HTK.out,← List.append_assoc];exact HC.out
        ·obtain rfl:j=19:=by omega
         rw[show be.take 19=be from rfl] at hst;have hml:(cur++ew me be).length≤1000000000200:=by rw[ae,pj,show be.length=19 from rfl];omega
         obtain⟨cu2,hcu2⟩:∃ cu2,cur++ew me be=cu2:=⟨_,rfl⟩;rw[hcu2] at hst hml;have HCU2:=ac hcu2;have HST:=ac hst;clear hcu2 hst;go_wp2_with fail
         go_loopw [21,22,115] (fun x21 x22 vi wz=>∃ (j:Nat),j≤k∧vi= .int .i64 j∧(cu2++(R.take j).flatMap (dA Wd)).length≤cu2.length+100*j∧St w0 wz (az B (cu2++(R.take j).flatMap (dA Wd)) true*_)) (fun x21 x22 vi _=>k-(intOf vi).toNat)
         case atStart=>exact⟨0,by omega,rfl,by simp,by simpa using HST.out⟩
         case round=>
          clear HST;obtain⟨j,hj,rfl,hacc,hst⟩:=hrel
          by_cases hjk:j<k
          ·have hjR:j<R.length:=by rw[HNR.out];exact hjk
           have hx:=ai hjR;obtain⟨b,off,rfl,c0,c1,c2⟩:=ym hst.right.right.right.right.reads hx;have htk:(R.take (j+1)).flatMap (dA Wd)=(R.take j).flatMap (dA Wd)++dA Wd R[j]:=by rw[List.take_succ_eq_append_getElem hjR,jS];simp
           obtain⟨x,hxw,hne,hx7⟩:=HRW.out R[j] (bo _);obtain⟨hf1,hf2,hf3⟩:=HFT.out R[j] (bo _);have hS2:=hst.alloc (Obj.cells #[Value.int .i64 (R[j].1:Int),Value.int .i64 (R[j].2.1:Int),Value.int .i64 (R[j].2.2:Int)] 277);generalize (R.take j).flatMap (dA Wd)=acc at*
           generalize R[j]=o at*
           obtain⟨o0,o1,o2⟩:=o;simp only at c0 c1 c2 hxw hf1 hf2 hf3 hS2;have htk2:dA Wd (o0,o1,o2)=x++bi true o1 o2:=by unfold dA;rw[List.getD_eq_getElem?_getD,hxw];rfl
           rw[htk2] at htk;have ho1:o1<4294967296:=by have:2^o2≤2^7:=dX (by omega) hf3;omega
           have HTK:=ac htk;have HS2:=ac hS2;have HX3:=ac (⟨hxw,hne,hx7,hf2,hacc⟩:Wd[o0]? =some x∧x≠[]∧x.length≤7∧o1<2^o2∧(cu2++acc).length≤cu2.length+100*j);have hjI:(j:Int)<k:=by omega
           have hw2:IntKind.u32.wrap (o1:Int)=(o1:Int):=IntWalk.u32_in _ (by omega);clear htk htk2 hx hS2 hst hxw hne hx7 hf2 hjR hacc;go_wp2_with fail;refine(nd (HS2.out.perm (yk _ _ _ _ _)) HBM.out o0 HX3.out.1 HX3.out.2.1 (by have:=HX3.out.2.2.1;omega) (by have:=HX3.out.2.2.2.2;omega) rfl).mono ?_;rintro e wC ⟨rfl,hC⟩;have hC:=hC.perm (yk _ _ _ _ _).symm;have d1:=hC.cell 1 rfl;have d2:=hC.cell 2 rfl;have HC:=ac hC.right;clear hC HS2 c0 c1 c2;have hf3':=hf3;go_wp2_with fail;refine(dE HC.out o1 o2 (by omega) (fun _=>fv HX3.out.2.2.2.1) ho1 (by have h1:=HX3.out.2.2.2.2;have h2:=HX3.out.2.2.1;simp only[ae] at h1 ⊢;omega)).mono ?_;rintro e wD ⟨rfl,hD⟩;have HD:=ac hD;clear hD HC;go_wp2_with fail;refine⟨⟨_,_,_,_,_,_,_,_,_,_,_,_,_,_,_,_,_,_,_,_,_,_,_,?rel,by rfl⟩,by simp [intOf];omega⟩;refine⟨j+1,by omega,by go_num,?_,?_⟩
           ·rw[HTK.out];have h1:=HX3.out.2.2.2.2;have h2:=HX3.out.2.2.1;simp only[ae,fc] at h1 ⊢;omega
           ·rw[HTK.out];simpa only[List.append_assoc] using HD.out
          ·obtain rfl:j=k:=by omega
           rw[show R.take j=R by rw[← HNR.out];exact cI] at hst;have h9:=(hst.perm (If _ _ _ _ _ _)).right;have H9:=ac h9;clear h9 hst hacc;go_wp2_with fail;go_ret;refine⟨me,R,rfl,HME.out,HRR.out,?_⟩;have hte:l++jm me R=cu2++R.flatMap (dA Wd):=by
            rw[← HCU2.out,← HCUR.out,← HWD.out];simp only[jm,List.append_assoc];rfl
           rw[hte];exact H9.out
def OneB (how:Nat) (last:Bool) (T:List TokD) (y:List Nat):Prop:=
 (how=1∧y=headL last 1++b7 FA FB T)∨
 (how=2∧∃ la lb me R,LimOk (fk T) 15 la∧LimOk (eV T) 15 lb∧MetaOk me R∧RunsBy (la++lb) 0 R 316∧y=headL last 2++(jm me R++b7 (aB la) (aB lb) T))
inductive ManyB (how:Nat):List TokD→List Nat→Prop
 | last {T:List TokD} {y:List Nat}:T.length≤16384→OneB how true T y→ManyB how T y
 | more {T:List TokD} {y z:List Nat}:16384<T.length→OneB how false (T.take 16384) y→ManyB how (T.drop 16384) z→ManyB how T (y++z)
theorem OneB.blk {how:Nat} {last:Bool} {T:List TokD} {y:List Nat} (h:OneB how last T y) {b:List UInt8} {i j p:Nat} (t:TellsTo b i T j) (hi:i≤b.length):BlkS b p i j last y:=by
 rcases h with ⟨_,rfl⟩ | ⟨_,la,lb,me,R,ha,hb,mo,hr,rfl⟩
 ·exact Fr t hi
 ·obtain⟨oo,us⟩:=py (sf t) ha hb;have hall:(la++lb).length=316:=by rw[ae,oo.l1,oo.l2]
  have h15:∀ n∈la++lb,n≤15:=fun n hn=>(cA.1 hn).elim (oo.a30 n) (oo.b30 n)
  have hR:RunsTo (la++lb) 0 R (la++lb).length:=by rw[hall];exact hr.rn h15
  have:=own_blk (p:=p) (last:=last) t hi oo mo hR us;rw[Ic] at this;exact this
theorem ManyB.done {how:Nat} {b:List UInt8} {T:List TokD} {z:List Nat} (h:ManyB how T z):∀ {x:List Nat} {i n:Nat},PreS b x i n→TellsTo b i T b.length→∃ m,DoneS b (x++z) m:=by
 induction h with
 | last hl ho=>
  intro x i n hp ht;exact⟨_,hp.last (ho.blk ht hp.jle) rfl⟩
 | @more T y z hl ho _ ih=>
  intro x i n hp ht;obtain⟨j,h1,h2⟩:=ht.split 16384;have:=hp.more (ho.blk h1 hp.jle);obtain⟨m,hm⟩:=ih this h2;exact⟨m,by rw[← List.append_assoc];exact hm⟩
theorem ng {W:List (List Nat)} {m:Nat} (h:∀ w∈W,w.length≤m) (i:Nat):(W.getD i []).length≤m:=by
 rw[List.getD_eq_getElem?_getD];cases e:W[i]? with
 | none=>simp
 | some w=>exact h w (aG e)
theorem nh {l:List Nat} {m:Nat} (h:∀ n∈l,n≤m):∀ w∈aB l,w.length≤m:=by
 intro w hw;obtain⟨i,hi⟩:=List.mem_iff_getElem?.1 hw;obtain⟨hi,rfl⟩:=mN hi;rw[jd,List.getD_eq_getElem?_getD];cases e:l[i]? with
 | none=>simp
 | some b=>exact h b (aG e)
theorem yq (far:Bool) (n:Nat):(jk far n).length≤13:=by
 rw[kb,aS,List.getD_eq_getElem?_getD];cases e:(cond far aY bf)[aR far n]? with
 | none=>simp
 | some b=>
  have hm:=aG e;cases far
  ·exact(oX b hm).2
  ·exact(oW b hm).2
theorem Ii {A B:List (List Nat)} (ha:∀ w∈A,w.length≤15) (hb:∀ w∈B,w.length≤15) (k:TokD):(cG A B k).length≤56:=by
 unfold cG
 split
 ·have:=ng ha k.lit.toNat;omega
 ·have h1:=ng ha (257+aR false k.len.toNat);have h2:=ng hb (aR true k.dist.toNat);have h3:=yq false k.len.toNat;have h4:=yq true k.dist.toNat;simp only[ae];omega
theorem yr {α:Type} {f:α→List Nat} {m:Nat}:∀ {l:List α},(∀ a∈l,(f a).length≤m)→(l.flatMap f).length≤m*l.length:=by
 intro l
 induction l with
 | nil=>intro _;simp
 | cons a l ih=>
  intro h;rw[eZ,ae,aK,Nat.mul_succ];have h1:=h a (by simp);have h2:=ih fun x hx=>h x (by simp [hx])
  omega
theorem yt {A B:List (List Nat)} (ha:∀ w∈A,w.length≤15) (hb:∀ w∈B,w.length≤15) (T:List TokD):(b7 A B T).length≤56*T.length+15:=by
 rw[b7,ae];have h1:=ng ha 256;have h2:=yr (f:=cG A B) (m:=56) (l:=T) fun k _=>Ii ha hb k
 omega
theorem Ij {W:List (List Nat)} (h:∀ w∈W,w.length≤7) {r:Nat × Nat × Nat} (hr:r.2.2≤7):(dA W r).length≤14:=by
 unfold dA;have:=ng h r.1;rw[ae,ko,dw];omega
theorem sJ {me:List Nat} {R:List (Nat × Nat × Nat)} (h:MetaOk me R) (hr:∀ r∈R,r.2.2≤7):(jm me R).length≤71+14*R.length:=by
 have h1:=yr (f:=dA (aB me)) (m:=14) (l:=R) fun r hx=>Ij (nh h.le) (hr r hx)
 have h2:(ew me be).length=57:=by rw[pj];rfl
 simp only[jm,ae,ko,dw,h2];omega
theorem Ik:∀ w∈FA,w.length≤15:=nh (by decide +kernel)
theorem Il:∀ w∈FB,w.length≤15:=nh (by decide +kernel)
theorem OneB.len {how:Nat} {last:Bool} {T:List TokD} {y:List Nat} (h:OneB how last T y) (hok:∀ k∈T,fT k):y.length≤56*T.length+5000:=by
 rcases h with ⟨_,rfl⟩ | ⟨_,la,lb,me,R,ha,hb,mo,hr,rfl⟩
 ·have:=yt Ik Il T;rw[ae,gi];omega
 ·obtain⟨oo,us⟩:=py hok ha hb;have hall:(la++lb).length=316:=by rw[ae,oo.l1,oo.l2]
  have h15:∀ n∈la++lb,n≤15:=fun n hn=>(cA.1 hn).elim (oo.a30 n) (oo.b30 n)
  have hR:=hr.rn h15;have hRl:=(hR.le (Nat.zero_le _)).2.2;have h1:=sJ mo fun r hx=>(hR.facts r hx).2.2
  have h2:=yt (nh oo.a30) (nh oo.b30) T;rw[ae,gi,ae];omega
end Go.Proofs.YtboflbdniogcdaaGreatDoor
