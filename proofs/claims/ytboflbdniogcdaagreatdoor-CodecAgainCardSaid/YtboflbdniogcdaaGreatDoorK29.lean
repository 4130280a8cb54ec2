/-
  Parts of a proof.
-/
import Derived.Test.YtboflbdniogcdaaGreatDoorK00
import Derived.Test.YtboflbdniogcdaaGreatDoorK28
import Derived.Test.YtboflbdniogcdaaGreatDoorK18
import Derived.RegionTactic
import Derived.BigRegion
import Derived.Deep.Cut
import Derived.Deep.CutRange
import Derived.Test.YtboflbdniogcdaaGreatDoorK02
import Derived.Deep.RegionHeld3
import Derived.Test.YtboflbdniogcdaaGreatDoorK05
import Derived.Test.YtboflbdniogcdaaGreatDoorK22
set_option linter.unusedVariables false
set_option linter.unusedSimpArgs false
set_option maxRecDepth 100000
set_option maxHeartbeats 100000000
namespace Go.Proofs.YtboflbdniogcdaaGreatDoor
open Go.RowKit Go.Mz
theorem jW (w:World) (x:Int):Reads (w.alloc (.cells #[.int .i64 x] 3)) 1 (.slice (some ⟨w.heap.size,0,none⟩) 1 1) 1 ([x].map iv):=
 (St.own_blk (e:=3) (size:=1) (n:=1) (cap:=1) (xs:=[x].map iv) ((St.init w).alloc _) (Nat.le_refl _) (by decide) rfl rfl).reads
def nvs (l:List Nat):List Value:=l.map nv
@[simp] theorem F6 (l:List Nat):(nvs l).length=l.length:=by simp [nvs]
theorem ym {w0 w:World} {F:SProp} (h:St w0 w F):Calls Tryz.prog 192 #[] w fun e w'=>∃ v,e= .returned v∧St w0 w' (own 3 1 v 19 (nvs bo)*F):=by
 have h1:=h.lit (nvs bo).toArray 3 19 rfl (by decide);have H1:=ac h1;clear h1 h;go_enter Tryz.func192,Tryz.ntmps192;go_wp2_with fail;go_ret;exact⟨_,rfl,H1.out⟩
theorem qi (k:Nat):(List.range (k+1)).map fh=(List.range k).map fh++[fh k]:=by rw[gT,List.map_append];rfl
theorem tw {w0 w:World} {F:SProp} (h:St w0 w F):Calls Tryz.prog 157 #[] w fun e w'=>∃ va vb,e= .returned (.tuple #[va,vb])∧St w0 w' (own 3 1 va 288 (nvs dR)*(own 3 1 vb 30 (nvs d7)*F)):=by
 have T:=eM;have H:=ac (St.own_nil 3 1 h);clear h;go_enter Tryz.func157,Tryz.ntmps157;go_wp2_with fail
 go_loopw [2,5] (fun vo vi wr=>∃ k:Nat,k≤288∧vi= .int .i64 k∧St w0 wr (own 3 1 vo k (nvs ((List.range k).map fh))*F)) (fun _ vi _=>288-(intOf vi).toNat)
 case atStart=>exact⟨0,by omega,rfl,H.out⟩
 case round=>
  clear H;obtain⟨k,hk,rfl,hst⟩:=hrel;obtain⟨ao,co,rfl⟩:=hst.reads.sub;have HST:=ac hst;clear hst
  by_cases hkn:k<288
  ·have hkn2:(k:Int)<288:=by omega
   by_cases h144:k<144
   ·have h1:(k:Int)<144:=by omega
    have HX:=ac (show nvs ((List.range k).map fh)++[(8:Int)].map iv=nvs ((List.range (k+1)).map fh) by
     rw[qi,fh,if_pos (.inl h144)];simp [nvs];rfl)
    clear h144;go_wp2_with (at_builtin;apply ap);refine on (aG T rfl _ _ rfl rfl (HST.out.drop_alloc (.cells #[.int .i64 8] 3)) rfl (jW wr 8) (fU [8]) ?_ ?_ ?_)
    ·unfold maxLen;omega
    ·omega
    intro v' w7 h9 _;rw[HX.out] at h9;obtain⟨aN,cN,rfl⟩:=h9.reads.sub;have H9:=ac h9;clear h9;go_wp2_with fail;exact⟨⟨k+1,by omega,by go_num,H9.out⟩,by simp [intOf];omega⟩
   have h1:¬ (k:Int)<144:=by omega
   by_cases h280:280≤k
   ·have h2:280≤(k:Int):=by omega
    have HX:=ac (show nvs ((List.range k).map fh)++[(8:Int)].map iv=nvs ((List.range (k+1)).map fh) by
     rw[qi,fh,if_pos (.inr h280)];simp [nvs];rfl)
    clear h144 h280;go_wp2_with (at_builtin;apply ap);refine on (aG T rfl _ _ rfl rfl (HST.out.drop_alloc (.cells #[.int .i64 8] 3)) rfl (jW wr 8) (fU [8]) ?_ ?_ ?_)
    ·unfold maxLen;omega
    ·omega
    intro v' w7 h9 _;rw[HX.out] at h9;obtain⟨aN,cN,rfl⟩:=h9.reads.sub;have H9:=ac h9;clear h9;go_wp2_with fail;exact⟨⟨k+1,by omega,by go_num,H9.out⟩,by simp [intOf];omega⟩
   have h2:¬ 280≤(k:Int):=by omega
   by_cases h256:k<256
   ·have h3:(k:Int)<256:=by omega
    have HX:=ac (show nvs ((List.range k).map fh)++[(9:Int)].map iv=nvs ((List.range (k+1)).map fh) by
     rw[qi,fh,if_neg (by omega),if_pos h256];simp [nvs];rfl)
    clear h144 h280 h256;go_wp2_with (at_builtin;apply ap);refine on (aG T rfl _ _ rfl rfl (HST.out.drop_alloc (.cells #[.int .i64 9] 3)) rfl (jW wr 9) (fU [9]) ?_ ?_ ?_)
    ·unfold maxLen;omega
    ·omega
    intro v' w7 h9 _;rw[HX.out] at h9;obtain⟨aN,cN,rfl⟩:=h9.reads.sub;have H9:=ac h9;clear h9;go_wp2_with fail;exact⟨⟨k+1,by omega,by go_num,H9.out⟩,by simp [intOf];omega⟩
   ·have h3:¬ (k:Int)<256:=by omega
    have HX:=ac (show nvs ((List.range k).map fh)++[(7:Int)].map iv=nvs ((List.range (k+1)).map fh) by
     rw[qi,fh,if_neg (by omega),if_neg h256];simp [nvs];rfl)
    clear h144 h280 h256;go_wp2_with (at_builtin;apply ap);refine on (aG T rfl _ _ rfl rfl (HST.out.drop_alloc (.cells #[.int .i64 7] 3)) rfl (jW wr 7) (fU [7]) ?_ ?_ ?_)
    ·unfold maxLen;omega
    ·omega
    intro v' w7 h9 _;rw[HX.out] at h9;obtain⟨aN,cN,rfl⟩:=h9.reads.sub;have H9:=ac h9;clear h9;go_wp2_with fail;exact⟨⟨k+1,by omega,by go_num,H9.out⟩,by simp [intOf];omega⟩
  ·have hkn2:¬ (k:Int)<288:=by omega
   have HK:=ac (show k=288 by omega);have H2:=ac (St.own_nil 3 1 HST.out);clear HST;go_wp2_with fail
   go_loopw [3,26] (fun vo vi wr=>∃ j:Nat,j≤30∧vi= .int .i64 j∧St w0 wr (own 3 1 vo j (nvs (List.replicate j 5))*(own 3 1 (.slice ao k co) k (nvs ((List.range k).map fh))*F))) (fun _ vi _=>30-(intOf vi).toNat)
   case atStart=>exact⟨0,by omega,rfl,H2.out⟩
   case round=>
    clear H2;obtain⟨j,hj,rfl,hst⟩:=hrel;obtain⟨a1,c1,rfl⟩:=hst.reads.sub;have HST:=ac hst;clear hst
    by_cases hjn:j<30
    ·have hjn2:(j:Int)<30:=by omega
     have HX:=ac (show nvs (List.replicate j 5)++[(5:Int)].map iv=nvs (List.replicate (j+1) 5) by
      rw[iO];simp [nvs];rfl)
     go_wp2_with (at_builtin;apply ap);refine on (aG T rfl _ _ rfl rfl (HST.out.drop_alloc (.cells #[.int .i64 5] 3)) rfl (jW wr 5) (fU [5]) ?_ ?_ ?_)
     ·unfold maxLen;omega
     ·omega
     intro v' w7 h9 _;rw[HX.out] at h9;obtain⟨aN,cN,rfl⟩:=h9.reads.sub;have H9:=ac h9;clear h9;go_wp2_with fail;exact⟨⟨j+1,by omega,by go_num,H9.out⟩,by simp [intOf];omega⟩
    ·obtain rfl:j=30:=by omega
     go_wp2_with fail;go_ret2;refine⟨_,_,rfl,?_⟩;have h3:=HST.out.perm (ak _ _ _);have e:=HK.out;subst e;exact h3
theorem yo:ElemT Tryz.prog 263 283 2 16 (.agg #[.int .i64 0,.int .i64 0]):=
 ⟨Tryz.underlying263,info_parts (by kernel_rfl),rfl,by decide⟩
def jX (b:Nat × Nat):List Value:=[nv b.1,nv b.2]
def aU (l:List (Nat × Nat)):List Value:=l.flatMap jX
theorem lu (l:List (Nat × Nat)) (b:Nat × Nat):aU (l++[b])=aU l++jX b:=by simp [aU]
theorem lw (w:World) (p q:Nat):Reads (w.alloc (.cells #[.int .i64 (p:Int),.int .i64 (q:Int)] 283)) 2 (.slice (some ⟨w.heap.size,0,none⟩) 1 1) 1 (jX (p,q)):=
 (St.own_blk (e:=283) (size:=2) (n:=1) (cap:=1) (xs:=jX (p,q)) ((St.init w).alloc _) (Nat.le_refl _) (by decide) rfl rfl).reads
theorem lx (b:Nat × Nat):∀ u∈jX b,u.oneCell'=true:=by
 intro u hu;simp [jX] at hu
 rcases hu with rfl | rfl <;> rfl
theorem F7:∀ k,k≤28→fJ k≤300:=by decide
theorem F8:∀ k,k≤30→fK k≤40000:=by decide
def nU (k:Nat):List (Nat × Nat):=(List.range k).map fun k=>(fJ k,k/4-1)
def nV (k:Nat):List (Nat × Nat):=(List.range k).map fun k=>(fK k,k/2-1)
theorem Ga (k:Nat):nU (k+1)=nU k++[(fJ k,k/4-1)]:=by rw[nU,gT,List.map_append];rfl
theorem Gb (k:Nat):nV (k+1)=nV k++[(fK k,k/2-1)]:=by rw[nV,gT,List.map_append];rfl
theorem yp {f x:Nat} (hf:f≤40000) (hx:x≤14):wrap64 ((f:Int)+wrap64 (2^x))=((f+2^x:Nat):Int):=by
 have h1:(2:Int)^x=((2^x:Nat):Int):=by simp
 have h2:2^x≤2^14:=gj (by decide) hx;rw[h1];generalize 2^x=y at*
 unfold wrap64;omega
theorem tz {w0 w:World} {F:SProp} (h:St w0 w F):Calls Tryz.prog 187 #[] w fun e w'=>∃ v,e= .returned v∧St w0 w' (own 283 2 v 29 (aU bm)*F):=by
 have T:=yo;have H:=ac (St.own_nil 283 2 h);clear h;go_enter Tryz.func187,Tryz.ntmps187;go_wp2_with fail
 go_loopw [1,2,5] (fun vo vf vi wr=>∃ k:Nat,k≤28∧vi= .int .i64 k∧vf= .int .i64 (fJ k:Nat)∧St w0 wr (own 283 2 vo k (aU (nU k))*F)) (fun _ _ vi _=>28-(intOf vi).toNat)
 case atStart=>exact⟨0,by omega,rfl,rfl,H.out⟩
 case round=>
  clear H;obtain⟨k,hk,rfl,rfl,hst⟩:=hrel;obtain⟨ao,co,rfl⟩:=hst.reads.sub;have HST:=ac hst;clear hst;have hf:=F7 k hk
  by_cases hkn:k<28
  ·have hkn2:(k:Int)<28:=by omega
   have HX:=ac (Ga k);have HF:=ac (show fJ (k+1)=fJ k+2^(k/4-1) from rfl);have hxk:k/4-1≤6:=by omega
   have hcs:((k:Int)/4=0∧k/4-1=0)∨((k:Int)/4=1∧k/4-1=0)∨((k:Int)/4=((k/4-1:Nat):Int)+1∧0<k/4-1):=by omega
   generalize k/4-1=x at*
   rcases hcs with ⟨e0,rfl⟩ | ⟨e0,rfl⟩ | ⟨e0,hx0⟩
   ·skip
    go_wp2_with (at_builtin;apply ap);refine on (aG T rfl _ _ rfl rfl (HST.out.drop_alloc (.cells #[.int .i64 (fJ k:Nat),.int .i64 (0:Nat)] 283)) rfl (lw wr (fJ k) 0) (lx (fJ k,0)) ?_ ?_ ?_)
    ·unfold maxLen;omega
    ·omega
    intro v' w7 h9 _;rw[← lu,← HX.out] at h9;obtain⟨aN,cN,rfl⟩:=h9.reads.sub;have H9:=ac h9;clear h9;go_wp2_with fail;exact⟨⟨k+1,by omega,by go_num,by rw[HF.out];rfl,H9.out⟩,by simp [intOf];omega⟩
   ·skip
    go_wp2_with (at_builtin;apply ap);refine on (aG T rfl _ _ rfl rfl (HST.out.drop_alloc (.cells #[.int .i64 (fJ k:Nat),.int .i64 (0:Nat)] 283)) rfl (lw wr (fJ k) 0) (lx (fJ k,0)) ?_ ?_ ?_)
    ·unfold maxLen;omega
    ·omega
    intro v' w7 h9 _;rw[← lu,← HX.out] at h9;obtain⟨aN,cN,rfl⟩:=h9.reads.sub;have H9:=ac h9;clear h9;go_wp2_with fail;exact⟨⟨k+1,by omega,by go_num,by rw[HF.out];rfl,H9.out⟩,by simp [intOf];omega⟩
   ·skip
    have hx1:¬ (x:Int)<0:=by omega
    go_wp2_with (at_builtin;apply ap);refine on (aG T rfl _ _ rfl rfl (HST.out.drop_alloc (.cells #[.int .i64 (fJ k:Nat),.int .i64 (x:Nat)] 283)) rfl (lw wr (fJ k) x) (lx (fJ k,x)) ?_ ?_ ?_)
    ·unfold maxLen;omega
    ·omega
    intro v' w7 h9 _;rw[← lu,← HX.out] at h9;obtain⟨aN,cN,rfl⟩:=h9.reads.sub;have H9:=ac h9;clear h9;go_wp2_with fail;exact⟨⟨k+1,by omega,by go_num,by rw[HF.out];exact kf (yp (by omega) (by omega)),H9.out⟩,by simp [intOf];omega⟩
  ·obtain rfl:k=28:=by omega
   have HX:=ac (show aU (nU 28)++jX (258,0)=aU bm by rw[← lu];rfl);go_wp2_with (at_builtin;apply ap);refine on (aG T rfl _ _ rfl rfl (HST.out.drop_alloc (.cells #[.int .i64 (258:Nat),.int .i64 (0:Nat)] 283)) rfl (lw wr 258 0) (lx (258,0)) ?_ ?_ ?_)
   ·unfold maxLen;omega
   ·omega
   intro v' w7 h9 _;rw[HX.out] at h9;obtain⟨aN,cN,rfl⟩:=h9.reads.sub;have H9:=ac h9;clear h9;go_wp2_with fail;go_ret;exact⟨_,rfl,H9.out⟩
theorem tA {w0 w:World} {F:SProp} (h:St w0 w F):Calls Tryz.prog 188 #[] w fun e w'=>∃ v,e= .returned v∧St w0 w' (own 283 2 v 30 (aU aR)*F):=by
 have T:=yo;have H:=ac (St.own_nil 283 2 h);clear h;go_enter Tryz.func188,Tryz.ntmps188;go_wp2_with fail
 go_loopw [1,2,5] (fun vo vf vi wr=>∃ k:Nat,k≤30∧vi= .int .i64 k∧vf= .int .i64 (fK k:Nat)∧St w0 wr (own 283 2 vo k (aU (nV k))*F)) (fun _ _ vi _=>30-(intOf vi).toNat)
 case atStart=>exact⟨0,by omega,rfl,rfl,H.out⟩
 case round=>
  clear H;obtain⟨k,hk,rfl,rfl,hst⟩:=hrel;obtain⟨ao,co,rfl⟩:=hst.reads.sub;have HST:=ac hst;clear hst;have hf:=F8 k hk
  by_cases hkn:k<30
  ·have hkn2:(k:Int)<30:=by omega
   have HX:=ac (Gb k);have HF:=ac (show fK (k+1)=fK k+2^(k/2-1) from rfl);have hxk:k/2-1≤14:=by omega
   have hcs:((k:Int)/2=0∧k/2-1=0)∨((k:Int)/2=1∧k/2-1=0)∨((k:Int)/2=((k/2-1:Nat):Int)+1∧0<k/2-1):=by omega
   generalize k/2-1=x at*
   rcases hcs with ⟨e0,rfl⟩ | ⟨e0,rfl⟩ | ⟨e0,hx0⟩
   ·skip
    go_wp2_with (at_builtin;apply ap);refine on (aG T rfl _ _ rfl rfl (HST.out.drop_alloc (.cells #[.int .i64 (fK k:Nat),.int .i64 (0:Nat)] 283)) rfl (lw wr (fK k) 0) (lx (fK k,0)) ?_ ?_ ?_)
    ·unfold maxLen;omega
    ·omega
    intro v' w7 h9 _;rw[← lu,← HX.out] at h9;obtain⟨aN,cN,rfl⟩:=h9.reads.sub;have H9:=ac h9;clear h9;go_wp2_with fail;exact⟨⟨k+1,by omega,by go_num,by rw[HF.out];rfl,H9.out⟩,by simp [intOf];omega⟩
   ·skip
    go_wp2_with (at_builtin;apply ap);refine on (aG T rfl _ _ rfl rfl (HST.out.drop_alloc (.cells #[.int .i64 (fK k:Nat),.int .i64 (0:Nat)] 283)) rfl (lw wr (fK k) 0) (lx (fK k,0)) ?_ ?_ ?_)
    ·unfold maxLen;omega
    ·omega
    intro v' w7 h9 _;rw[← lu,← HX.out] at h9;obtain⟨aN,cN,rfl⟩:=h9.reads.sub;have H9:=ac h9;clear h9;go_wp2_with fail;exact⟨⟨k+1,by omega,by go_num,by rw[HF.out];rfl,H9.out⟩,by simp [intOf];omega⟩
   ·skip
    have hx1:¬ (x:Int)<0:=by omega
    go_wp2_with (at_builtin;apply ap);refine on (aG T rfl _ _ rfl rfl (HST.out.drop_alloc (.cells #[.int .i64 (fK k:Nat),.int .i64 (x:Nat)] 283)) rfl (lw wr (fK k) x) (lx (fK k,x)) ?_ ?_ ?_)
    ·unfold maxLen;omega
    ·omega
    intro v' w7 h9 _;rw[← lu,← HX.out] at h9;obtain⟨aN,cN,rfl⟩:=h9.reads.sub;have H9:=ac h9;clear h9;go_wp2_with fail;exact⟨⟨k+1,by omega,by go_num,by rw[HF.out];exact kf (yp (by omega) (by omega)),H9.out⟩,by simp [intOf];omega⟩
  ·obtain rfl:k=30:=by omega
   have HX:=ac (show aU (nV 30)=aU aR from rfl);have h9:=HST.out;rw[HX.out] at h9;have H9:=ac h9;clear h9;go_wp2_with fail;go_ret;exact⟨_,rfl,H9.out⟩
def aS (S Rb:Nat) (bs:List UInt8) (p:Nat) (out:List UInt8) (most:Nat):SProp:=fx fun vo:Value=>
 blk S (.cells #[.pointer (some ⟨Rb,0,none⟩),vo,.int .i64 (most:Int)] 218)*(aq Rb bs p true*own 5 1 vo out.length (out.map bv))
theorem gu {w0 w:World} {S Rb:Nat} {bs:List UInt8} {p:Nat} {out:List UInt8} {most:Nat} {F:SProp} (h:St w0 w (aS S Rb bs p out most*F)):
  ∃ ao co,St w0 w (blk S (.cells #[.pointer (some ⟨Rb,0,none⟩),.slice ao out.length co,.int .i64 (most:Int)] 218)*(aq Rb bs p true*(own 5 1 (.slice ao out.length co) out.length (out.map bv)*F))):=by
 obtain⟨vo,h⟩:=h.ex_l;have h':=h.perm (show _=own 5 1 vo out.length (out.map bv)*(blk S (.cells #[.pointer (some ⟨Rb,0,none⟩),vo,.int .i64 (most:Int)] 218)*(aq Rb bs p true*F)) by ac_rfl);obtain⟨ao,co,rfl⟩:=h'.reads.sub;exact⟨ao,co,h.perm (by ac_rfl)⟩
theorem jb {w0 w:World} {S Rb:Nat} {bs:List UInt8} {p:Nat} {out:List UInt8} {most:Nat} {v:Value} {F:SProp} (h:St w0 w (blk S (.cells #[.pointer (some ⟨Rb,0,none⟩),v,.int .i64 (most:Int)] 218)*(aq Rb bs p true*(own 5 1 v out.length (out.map bv)*F)))):
  St w0 w (aS S Rb bs p out most*F):=St.mk_ex_l v (h.perm (by ac_rfl))
def Gc (r:Nat ⊕ (Nat × Nat)) (p:Nat) (z:Int) (x p':Nat):Prop:=
 match r with
 | .inl e=>x=e∧e≠0
 | .inr (q,n)=>x=0∧p'=q∧z=n
theorem yq {l:List (Nat × Nat)} {i:Nat} {b:Nat × Nat} (h:l[i]? =some b):(aU l)[i*2]? =some (nv b.1)∧(aU l)[i*2+1]? =some (nv b.2):=
 ⟨kj jX 2 (fun _=>rfl) l i b h 0 (by omega),kj jX 2 (fun _=>rfl) l i b h 1 (by omega)⟩
theorem yr {w0 w:World} {S Rb:Nat} {bs:List UInt8} {p:Nat} {out:List UInt8} {most n:Nat} {l:List (Nat × Nat)} {vl:Value} {F:SProp} (h:St w0 w (aS S Rb bs p out most*(own 283 2 vl n (aU l)*F)))
  (hn:n=l.length) (hl:∀ b∈l,b.1≤100000∧b.2≤13) (i:Nat) (hi:i≤100000):
  Calls Tryz.prog 190 #[.pointer (some ⟨S,0,none⟩),vl,.int .i64 i] w fun e w'=>∃ (z:Int) (x p':Nat),e= .returned (.tuple #[.int .i64 z,.int .i64 x])∧Gc (dD (ag true bs) l i p) p z x p'∧
   St w0 w' (aS S Rb bs p' out most*(own 283 2 vl n (aU l)*F)):=by
 subst hn;have hr:=h.right.reads;obtain⟨al,cl,rfl⟩:=hr.sub;have hlm:=hr.len_le;unfold maxLen at hlm;clear hr
 by_cases hil:i<l.length
 ·have hx:=au hil;obtain⟨b1,b2⟩:=hl l[i] (cT _);obtain⟨hb0,hb1⟩:=yq hx;generalize l[i]=b at*
  obtain⟨ao,co,h1⟩:=gu h;obtain⟨g,rfl⟩:=ce h.right (by omega);have c0:=h1.cell 0 rfl;have x0:=h.right.own_cellS hb0;have x1:=h.right.own_cellS hb1;have hil2:(i:Int)<l.length:=by omega
  obtain⟨f0,f1⟩:=b;simp only[nv] at x0 x1 b1 b2;have h2:=h1.perm (show _=aq Rb bs p true*(blk S (.cells #[.pointer (some ⟨Rb,0,none⟩),.slice ao out.length co,.int .i64 (most:Int)] 218)*(own 5 1 (.slice ao out.length co) out.length (out.map bv)*(own 283 2 (.slice (some ⟨g,0,none⟩) l.length cl) l.length (aU l)*F))) by ac_rfl);have H2:=ac h2;clear h1 h2 h;have hback:∀ w' p',St w0 w' (aq Rb bs p' true*(blk S (.cells #[.pointer (some ⟨Rb,0,none⟩),.slice ao out.length co,.int .i64 (most:Int)] 218)*(own 5 1 (.slice ao out.length co) out.length (out.map bv)*(own 283 2 (.slice (some ⟨g,0,none⟩) l.length cl) l.length (aU l)*F))))→
    St w0 w' (aS S Rb bs p' out most*(own 283 2 (.slice (some ⟨g,0,none⟩) l.length cl) l.length (aU l)*F)):=fun w' p' h=>jb (h.perm (by ac_rfl))
  have HBACK:=ac hback;clear hback;have hx0:∀ w' p',St w0 w' (aq Rb bs p' true*(blk S (.cells #[.pointer (some ⟨Rb,0,none⟩),.slice ao out.length co,.int .i64 (most:Int)] 218)*(own 5 1 (.slice ao out.length co) out.length (out.map bv)*(own 283 2 (.slice (some ⟨g,0,none⟩) l.length cl) l.length (aU l)*F))))→w'.cell? ⟨g,i*2,none⟩=some (.int .i64 (f0:Int)):=fun w' p' h=>h.right.right.right.own_cellS hb0
  have HX0:=ac hx0;clear hx0
  by_cases hcut:8*bs.length<p+f1
  ·have HR:=ac (show dD (ag true bs) l i p= .inl 2 by rw[dD,hx];simp only;rw[if_pos (by simpa using hcut)]);clear hx hl hb0 hb1;go_enter Tryz.func190,Tryz.ntmps190;go_wp2_with fail;go_region_with (first | (go_at_call 81;refine(jn (H2.out.drewN _) f1 rfl (by omega) hcut).mono ?_;rintro e w4 ⟨rfl,h4⟩;have y0:=HX0.out _ _ h4;have H4:=ac h4;clear h4));go_wp2_with fail
   all_goals
    go_ret2;exact⟨_,2,p,rfl,by rw[HR.out];exact⟨rfl,by decide⟩,HBACK.out _ _ H4.out⟩
  ·have HR:=ac (show dD (ag true bs) l i p= .inr (p+f1,f0+vl (ag true bs) p f1) by rw[dD,hx];simp only;rw[if_neg (by simpa using hcut)]);have hv:=jD bs p f1;have hp2:2^f1≤2^13:=gj (by decide) b2;rw[← mv] at HR hv;have hC:=fun m=>iR (H2.out.drewN m) (j:=(f1:Int)) f1 rfl (by omega) (by omega)
   have HC:=ac hC;clear hC;generalize bL bs true p f1=pv at*
   clear hx hl hb0 hb1;go_enter Tryz.func190,Tryz.ntmps190;go_wp2_with fail;go_region_with (first | (go_at_call 81;refine(HC.out _).mono ?_;rintro e w4 ⟨rfl,h4⟩;have y0:=HX0.out _ _ h4;have H4:=ac h4;clear h4));go_wp2_with fail
   all_goals
    go_ret2;exact⟨_,0,p+f1,rfl,by rw[HR.out];exact⟨rfl,rfl,by go_num⟩,HBACK.out _ _ H4.out⟩
 ·have HR:=ac (show dD (ag true bs) l i p= .inl 6 by rw[dD,bh (by omega)]);have hil2:(l.length:Int)≤i:=by omega
  have H:=ac h;clear h;go_enter Tryz.func190,Tryz.ntmps190;go_wp2_with fail;go_ret2;exact⟨0,6,p,rfl,by rw[HR.out];exact⟨rfl,by decide⟩,H.out⟩
theorem yt (ls:List Int):(du ls).2.2≠0∧(du ls).1=[]∨∃ l:List Nat,l.length=ls.length∧OkC l∧(∀ n∈l,n≤30)∧du ls=(aF l,fullC l,0):=by
 rw[du]
 split
 ·exact .inl ⟨by decide,rfl⟩
 ·rename_i h
  split
  ·rename_i ok;refine .inr ⟨dJ ls,by simp [dJ],ok,fun n hn=> ?_,rfl⟩;rw[dJ,cu] at hn;obtain⟨x,hx,rfl⟩:=hn;have:¬ (x<0∨30<x):=fun hc=>h ⟨x,hx,hc⟩
   omega
  ·exact .inl ⟨by decide,rfl⟩
def jc (l:List Nat):List Int:=l.map fun(n:Nat)=>(n:Int)
theorem Gd (l:List Nat):(jc l).map iv=nvs l:=by rw[jc,nvs,eU];rfl
theorem Ge (l:List Nat) (n:Nat):usedL (l++[n])=usedL l+(if 0<n then 1 else 0):=by
 rw[usedL,usedL,jk,ae]
 congr 1
 by_cases h:0<n <;> simp [h]
theorem Gf (l:List Nat) (n:Nat):longL (l++[n])=max (longL l) n:=by rw[longL,longL,mS];rfl
theorem yu (l:List Nat):usedL l≤l.length:=lR _ _
def iF (n k:Nat):List Value:=(fd k).map iv++List.replicate (n-k) (.int .i64 0)
theorem Gg {n k:Nat} (h:k<n):(iF n k).set k (.int .i64 (k:Int))=iF n (k+1):=by
 have e:n-k=(n-(k+1))+1:=by omega
 have hl:((fd k).map iv).length=k:=by simp [nC]
 rw[iF,iF,e,gU,DF,List.map_append,List.append_assoc];rw[kJ _ _ (by rw[hl];exact Nat.le_refl _),hl,b8];rfl
theorem Gh {n k:Nat} (h:k<n):(iF n k)[k]? =some (.int .i64 0):=by
 have hl:((fd k).map iv).length=k:=by simp [nC]
 rw[iF,ck (by rw[hl];exact Nat.le_refl _),hl,b8,show n-k=(n-k-1)+1 by omega,gU];rfl
theorem Gi (n:Nat):iF n n=(fd n).map iv:=by rw[iF,b8];simp
def tB (r:Nat ⊕ List (List Nat)) (w0 w':World) (F:SProp) (e:Ending):Prop:=
 match r with
 | .inl er=>er≠0∧e= .returned (.tuple #[.pointer none,.int .i64 er])∧St w0 w' F
 | .inr W=>∃ B,e= .returned (.tuple #[.pointer (some ⟨B,0,none⟩),.int .i64 0])∧St w0 w' (bf B W*F)
theorem tC {w0 w:World} {F:SProp} (h:St w0 w F) (l:List Nat) (how:Nat) (hh:how≤2) (hl:l.length≤900) (hl2:∀ n∈l,n≤1000) {v:Value} (hv:Stb w0 F (fun w=>Reads w 1 v l.length (nvs l))):
  Calls Tryz.prog 186 #[v,.int .i64 how] w fun e w'=>tB (dd l how) w0 w' F e:=by
 have hlen:(jc l).length=l.length:=by simp [jc]
 have CV:=x5 h (jc l) (v:=v) (by rw[hlen,Gd];exact hv) (by omega);have CF:=yt (jc l);have hW:dd l how=if(du (jc l)).2.2≠0 then .inl (du (jc l)).2.2 else if(du (jc l)).2.1=false∧(how=0∨how=1∧(1<usedL l∨1<longL l)) then .inl 3 else .inr (du (jc l)).1:=rfl
 have HW:=ac hW;clear hW;obtain⟨a1,c1,rfl⟩:=(hv w h).sub;have T:=eM;generalize du (jc l)=R at*
 obtain⟨W,fu,er⟩:=R;simp only at CV CF HW;have HC:=ac CV;clear CV;have HV:=ac hv;clear hv;have H:=ac h;clear h
 rcases CF with ⟨her,rfl⟩ | ⟨l',hl',hok,h30,hE⟩
 ·have he':(er:Int)≠0:=by omega
  go_enter Tryz.func186,Tryz.ntmps186;go_wp2_with fail;refine HC.out.mono ?_;rintro e w2 ⟨v2,rfl,h2⟩;obtain⟨a2,c2,rfl⟩:=h2.reads.sub;have H2:=ac h2;clear h2;go_wp2_with fail;go_ret2;rw[HW.out,if_pos her];exact⟨her,rfl,H2.out.right⟩
 have hWW:W=aF l'∧er=0:=by
  injection hE with e1 e2
  injection e2 with e2 e3
  exact⟨e1,e3⟩
 obtain⟨hW1,rfl⟩:=hWW;have hWl:W.length=l.length:=by rw[hW1];simp [aF];omega
 have HBIT:=ac (show ∀ v∈W,Bit v by rw[hW1];exact ju l');have HPF:=ac (show PF W by rw[hW1];exact lj hok h30);have HW30:=ac (show ∀ v∈W,v.length≤30 by
  rw[hW1];intro v hv;rw[aF,cu] at hv;obtain⟨i,_,rfl⟩:=hv;rw[iU,List.getD_eq_getElem?_getD];cases e:l'[i]? with
  | none=>simp
  | some b=>exact h30 b (aI e))
 clear hW1 hE hok h30 hl';have HWL:=ac hWl;clear hWl;rw[if_neg (by decide)] at HW;go_enter Tryz.func186,Tryz.ntmps186;go_wp2_with fail;refine HC.out.mono ?_;rintro e w2 ⟨v2,rfl,h2⟩;rw[HWL.out] at h2;obtain⟨a2,c2,rfl⟩:=h2.reads.sub;have H2:=ac h2;clear h2 HC H;go_wp2_with (at_make;apply ap);refine on (gV T rfl _ _ rfl l.length rfl rfl rfl rfl H2.out (by unfold maxLen;omega) (by omega) ?_);intro v3 w3 h3;obtain⟨a3,c3,rfl⟩:=h3.reads.sub;have h3':St w0 w3 (own 3 1 (.slice a3 l.length c3) l.length (iF l.length 0)*(own 9 1 (.slice a2 l.length c2) l.length (W.map cA)*F)):=by
  have e:(madeCells (Value.int .i64 0).cells (l.length*1)).toList=iF l.length 0:=by
   rw[gz];simp [Value.cells,toList_madeCells_one,iF,fd]
  rw[← e];exact h3
 have H3:=ac h3';clear h3 h3' H2;have hul:=yu l;go_wp2_with fail
 go_loopw [9,10,28] (fun vu vg vi wr=>∃ k:Nat,k≤l.length∧vi= .int .i64 k∧vu= .int .i64 (usedL (l.take k):Nat)∧vg= .int .i64 (longL (l.take k):Nat)∧
  St w0 wr (own 3 1 (.slice a3 l.length c3) l.length (iF l.length k)*(own 9 1 (.slice a2 l.length c2) l.length (W.map cA)*F))) (fun _ _ vi _=>l.length-(intOf vi).toNat)
 case atStart=>exact⟨0,by omega,rfl,rfl,rfl,H3.out⟩
 case round=>
  clear H3;obtain⟨k,hk,rfl,rfl,rfl,hst⟩:=hrel
  by_cases hkn:k<l.length
  ·obtain⟨g1,o1,rfl,e1⟩:=(HV.out wr hst.right.right).at_ hkn;obtain⟨g3,rfl⟩:=ce hst (by omega);have f3:=hst.own_free k;have x3:=hst.own_cell (i:=k) (u:= .int .i64 0) (Gh hkn);have hset:=Gg hkn;have hx:=au hkn;have hn1:=hl2 l[k] (cT _);have hul2:=yu (l.take k);rw[aL] at hul2;have htk:l.take (k+1)=l.take k++[l[k]]:=by rw[jJ,hx];rfl
   rw[nvs,aC,hx] at e1;simp only[b7,nv] at e1;have HU:=ac (show usedL (l.take (k+1))=usedL (l.take k)+(if 0<l[k] then 1 else 0) by rw[htk,Ge]);have HL:=ac (show longL (l.take (k+1))=max (longL (l.take k)) l[k] by rw[htk,Gf]);clear htk hx;have hstep:=hst.own_set k (.int .i64 (k:Int));rw[hset] at hstep;have HST:=ac hstep;clear hst hstep hset;have hk2:(k:Int)<l.length:=by omega
   generalize l[k]=n at*
   generalize usedL (l.take k)=uu at*
   generalize longL (l.take k)=gg at*
   by_cases hn0:0<n
   ·have hn2:0<(n:Int):=by omega
    rw[if_pos hn0] at HU
    by_cases hgn:gg<n
    ·rw[Nat.max_eq_right (kO hgn)] at HL;clear hn0;go_wp2_with fail;exact⟨⟨k+1,by omega,by go_num,by rw[HU.out];go_num,by rw[HL.out],HST.out⟩,by simp [intOf];omega⟩
    ·rw[Nat.max_eq_left (by omega)] at HL;clear hn0;go_wp2_with fail;exact⟨⟨k+1,by omega,by go_num,by rw[HU.out];go_num,by rw[HL.out],HST.out⟩,by simp [intOf];omega⟩
   ·have hn2:¬ 0<(n:Int):=by omega
    rw[if_neg hn0,fQ] at HU;rw[show n=0 by omega,Nat.max_zero] at HL;clear hn0;go_wp2_with fail;exact⟨⟨k+1,by omega,by go_num,by rw[HU.out];rfl,by rw[HL.out],HST.out⟩,by simp [intOf];omega⟩
  ·obtain rfl:k=l.length:=by omega
   rw[Gi] at hst;rw[cS];have HST:=ac hst;clear hst;have C:∀ w' (h:St w0 w' (own 3 1 (.slice a3 l.length c3) l.length ((fd l.length).map iv)*(own 9 1 (.slice a2 l.length c2) l.length (W.map cA)*F))),Calls Tryz.prog 138 #[.slice a2 l.length c2,.slice a3 l.length c3] w' fun e w''=>∃ B,e= .returned (.tuple #[.pointer (some ⟨B,0,none⟩),.int .i64 0])∧St w0 w'' (bf B W*F):=by
    intro w' h;exact DI h HWL.out.symm HBIT.out HPF.out (by rw[HWL.out];omega) (fun v hv=>by have:=HW30.out v hv;omega)
   have HC:=ac (C _ HST.out);clear C;generalize usedL l=uu at*
   generalize longL l=gg at*
   have fin:∀ (hno:¬ (fu=false∧(how=0∨how=1∧(1<uu∨1<gg)))) (B:Nat) w'' (h:St w0 w'' (bf B W*F)),tB (dd l how) w0 w'' F (.returned (.tuple #[.pointer (some ⟨B,0,none⟩),.int .i64 0])):=fun hno B w'' h=>by
    rw[HW.out,if_neg hno];exact⟨B,rfl,h⟩
   have bad:∀ (hy:fu=false∧(how=0∨how=1∧(1<uu∨1<gg))),tB (dd l how) w0 wr F (.returned (.tuple #[.pointer none,.int .i64 3])):=fun hy=>by
    rw[HW.out,if_pos hy];exact⟨by decide,rfl,HST.out.right.right⟩
   have FINB:=ac fin;have BADB:=ac bad;clear fin bad HW;cases fu
   ·rcases(show how=0∨how=1∨how=2 by omega) with rfl | rfl | rfl
    ·go_wp2_with fail;go_ret2;exact BADB.out (by simp)
    ·by_cases h1:1<uu
     ·have h1':1<(uu:Int):=by omega
      go_wp2_with fail;go_ret2;exact BADB.out (by simp [h1])
     ·have h1':¬ 1<(uu:Int):=by omega
      by_cases h2:1<gg
      ·have h2':1<(gg:Int):=by omega
       go_wp2_with fail;go_ret2;exact BADB.out (by simp [h2])
      ·have h2':¬ 1<(gg:Int):=by omega
       go_wp2_with fail;refine HC.out.mono ?_;rintro e w5 ⟨B,rfl,h5⟩;have H5:=ac h5;clear h5;go_wp2_with fail;go_ret2;exact FINB.out (by simp_all) B _ H5.out
    ·go_wp2_with fail;refine HC.out.mono ?_;rintro e w5 ⟨B,rfl,h5⟩;have H5:=ac h5;clear h5;go_wp2_with fail;go_ret2;exact FINB.out (by simp_all) B _ H5.out
   ·go_wp2_with fail;refine HC.out.mono ?_;rintro e w5 ⟨B,rfl,h5⟩;have H5:=ac h5;clear h5;go_wp2_with fail;go_ret2;exact FINB.out (by simp) B _ H5.out
def qj (r:Nat ⊕ (Nat × List UInt8)) (x p':Nat) (out':List UInt8):Prop:=
 match r with
 | .inl e=>x=e∧e≠0
 | .inr (q,o)=>x=0∧p'=q∧out'=o
theorem Gj (d n:Nat) (out:List UInt8):fL d (n+1) out=fL d n out++[(fL d n out).getD ((fL d n out).length-d) 0]:=by
 induction n generalizing out with
 | zero=>rfl
 | succ n ih=>rw[fL,ih];rfl
theorem qk (d n:Nat) (out:List UInt8):(fL d n out).length=out.length+n:=by
 induction n generalizing out with
 | zero=>rfl
 | succ n ih=>rw[fL,ih];simp;omega
theorem qm:∀ b∈aR,b.1≤100000∧b.2≤13:=by decide
theorem Gk:∀ b∈aR,1≤b.1:=by decide
theorem nW:∀ b∈bm,b.1≤100000∧b.2≤13:=by decide
theorem Gl {t:List Nat} {i p q d:Nat} (h:dD t aR i p= .inr (q,d)):1≤d:=by
 rw[dD] at h;cases e:aR[i]? with
 | none=>rw[e] at h;cases h
 | some b=>
  rw[e] at h;simp only at h;have:=Gk b (aI e)
  split at h
  ·cases h
  ·have:=Sum.inr.inj h;have:=(Prod.mk.inj this).2;omega
theorem Gm (out:List UInt8) {i:Nat} (h:i<out.length):(out.map bv)[i]? =some (bv (out.getD i 0)):=by
 rw[aC,au h,List.getD_eq_getElem?_getD,au h];rfl
theorem Gn {w0 w:World} {S Rb B:Nat} {bs:List UInt8} {p:Nat} {out:List UInt8} {most:Nat} {W:List (List Nat)} {vl:Value} {F:SProp} (h:St w0 w (aS S Rb bs p out most*(bf B W*(own 283 2 vl 30 (aU aR)*F))))
  (hom:out.length≤most) (hm:most≤10000000000000) (hW:W.length≤1000) (n:Nat) (hn:n≤1000000):
  Calls Tryz.prog 191 #[.pointer (some ⟨S,0,none⟩),.pointer (some ⟨B,0,none⟩),vl,.int .i64 n] w fun e w'=>∃ (x p':Nat) (out':List UInt8),e= .returned (.int .i64 x)∧qj (ja (ag true bs) W most n p out) x p' out'∧out'.length≤most∧
   St w0 w' (aS S Rb bs p' out' most*(bf B W*(own 283 2 vl 30 (aU aR)*F))):=by
 obtain⟨ao,co,h1⟩:=gu h;have c0:=h1.cell 0 rfl;have hp:=(kU (h1.right)).2.1;have h2:=h1.perm (show _=bf B W*(aq Rb bs p true*(blk S (.cells #[.pointer (some ⟨Rb,0,none⟩),.slice ao out.length co,.int .i64 (most:Int)] 218)*(own 5 1 (.slice ao out.length co) out.length (out.map bv)*(own 283 2 vl 30 (aU aR)*F)))) by ac_rfl);obtain⟨al,cl,rfl⟩:=(h1.right.right.right.right.reads).sub;have HC:=ac (wS h2 hp);have hback:∀ w' p',St w0 w' (bf B W*(aq Rb bs p' true*(blk S (.cells #[.pointer (some ⟨Rb,0,none⟩),.slice ao out.length co,.int .i64 (most:Int)] 218)*(own 5 1 (.slice ao out.length co) out.length (out.map bv)*(own 283 2 (.slice al 30 cl) 30 (aU aR)*F)))))→
   St w0 w' (aS S Rb bs p' out most*(bf B W*(own 283 2 (.slice al 30 cl) 30 (aU aR)*F))):=fun w' p' h=>jb (h.perm (by ac_rfl))
 have HBACK:=ac hback;clear hback;have hlen:=iT W ((ag true bs).drop p) [];have HR:=ac (show ja (ag true bs) W most n p out=match aX W [] ((ag true bs).drop p) with
  | (_,.inr e)=> .inl e
  | (k,.inl v)=>(match dD (ag true bs) aR v (p+k) with
   | .inl e=> .inl e
   | .inr (q,d)=>if out.length<d then .inl 3 else if most<out.length+n then .inl 8 else .inr (q,fL d n out)) from rfl)
 generalize aX W [] ((ag true bs).drop p)=r at*
 obtain⟨k,r⟩:=r;clear h h1 h2;go_enter Tryz.func191,Tryz.ntmps191;go_wp2_with fail;refine HC.out.mono ?_;rintro e w2 ⟨z,x,p1,rfl,hrd,h3⟩;have h4:=HBACK.out _ _ h3;clear h3 HC;cases r with
 | inr er=>
  have her:=hlen.2.2.2.2 er rfl;obtain⟨rfl,hx⟩:=hrd;simp only at hx HR;subst hx;have hx2:¬ (x:Int)=0:=by omega
  have H4:=ac h4;clear h4 hlen HBACK;go_wp2_with fail;go_ret;exact⟨x,p+k,out,rfl,by rw[HR.out];exact⟨rfl,by omega⟩,hom,H4.out⟩
 | inl i=>
  have hi:=(hlen.2.2.2.1 i rfl).2;obtain⟨rfl,hx,hz⟩:=hrd;subst hx hz;simp only at HR h4;have C:=yr (h4.perm (show _=aS S Rb bs (p+k) out most*(own 283 2 (.slice al 30 cl) 30 (aU aR)*(bf B W*F)) by ac_rfl)) rfl qm i (by omega);have HPOS:=ac (fun q d=>Gl (t:=ag true bs) (i:=i) (p:=p+k) (q:=q) (d:=d));have HC:=ac C;clear C h4 hlen HBACK;generalize dD (ag true bs) aR i (p+k)=r at*
  go_wp2_with fail;refine HC.out.mono ?_;rintro e w3 ⟨z,x,p2,rfl,hnr,h5⟩;have h5:=h5.perm (show _=aS S Rb bs p2 out most*(bf B W*(own 283 2 (.slice al 30 cl) 30 (aU aR)*F)) by ac_rfl);clear HC;cases r with
  | inl er=>
   obtain⟨hx,hne⟩:=hnr;subst hx;simp only at HR;have hx2:¬ (x:Int)=0:=by omega
   have H5:=ac h5;clear h5;go_wp2_with fail;go_ret;exact⟨x,p2,out,rfl,by rw[HR.out];exact⟨rfl,hne⟩,hom,H5.out⟩
  | inr qd=>
   obtain⟨q,d⟩:=qd;obtain⟨hx,hq,hz⟩:=hnr;subst hx hq hz;simp only at HR;have cZ:=HPOS.out p2 d rfl;obtain⟨ao,co,h6⟩:=gu h5;have c0:=h6.cell 0 rfl;have c1:=h6.cell 1 rfl;have c2:=h6.cell 2 rfl;have H5:=ac h5;clear h5 h6
   by_cases hd:out.length<d
   ·have hd2:(out.length:Int)<d:=by omega
    rw[if_pos hd] at HR;go_wp2_with fail;go_ret;exact⟨3,p2,out,rfl,by rw[HR.out];exact⟨rfl,by decide⟩,hom,H5.out⟩
   have hd2:¬ (out.length:Int)<d:=by omega
   rw[if_neg hd] at HR
   by_cases hlim:most<out.length+n
   ·have hl2:(most:Int)-out.length<n:=by omega
    rw[if_pos hlim] at HR;go_wp2_with fail;go_quiet (fail);have h7:=H5.out.drewN nq;generalize w3.drewN nq=w7 at*
    have H7:=ac h7;clear h7 H5;go_wp2_with fail;go_ret;exact⟨8,p2,out,rfl,by rw[HR.out];exact⟨rfl,by decide⟩,hom,H7.out⟩
   have hl2:¬ (most:Int)-out.length<n:=by omega
   rw[if_neg hlim] at HR;go_wp2_with fail;go_quiet (fail);have h7:=H5.out.drewN nq;clear c0 c1 c2;generalize w3.drewN nq=w7 at*
   have H7:=ac h7;clear h7 H5;go_wp2_with fail
   go_loopw [57] (fun vi wr=>∃ (j:Nat),j≤n∧vi= .int .i64 j∧St w0 wr (aS S Rb bs p2 (fL d j out) most*(bf B W*(own 283 2 (.slice al 30 cl) 30 (aU aR)*F)))) (fun vi _=>n-(intOf vi).toNat)
   case atStart=>exact⟨0,by omega,rfl,H7.out⟩
   case round=>
    clear H7;obtain⟨j,hj,rfl,hst⟩:=hrel
    by_cases hjn:j<n
    ·have hcl:=qk d j out;have HSN:=ac (Gj d j out);generalize fL d j out=o at*
     obtain⟨ao,co,h6⟩:=gu hst;have c1:=h6.cell 1 rfl;obtain⟨go,rfl⟩:=ce (h6.right.right) (by omega);have hbc:=h6.right.right.own_cell (Gm o (i:=o.length-d) (by omega));have hjj:(j:Int)<n:=by omega
     have hL5:StL w0 wr [own 5 1 (.slice (some ⟨go,0,none⟩) o.length co) o.length (o.map bv),blk S (.cells #[.pointer (some ⟨Rb,0,none⟩),.slice (some ⟨go,0,none⟩) o.length co,.int .i64 (most:Int)] 218),aq Rb bs p2 true*(bf B W*(own 283 2 (.slice al 30 cl) 30 (aU aR)*F))]:=h6.perm (by simp only[cX];rw[fS _ bw,cV];ac_rfl);have HL5:=ac hL5;clear hL5 h6 hst;generalize o.getD (o.length-d) 0=ch at*
     have hsub:IntKind.i64.wrap ((o.length-d:Nat):Int)=((o.length-d:Nat):Int):=IntWalk.i64_in _ (by omega);have hod0:0≤(((o.length-d:Nat):Nat):Int):=by omega
     have hod1:((o.length-d:Nat):Int)<o.length:=by omega
     have holen:o.length≤10000000000000:=by omega
     have hsub2:((o.length:Int)-d)=((o.length-d:Nat):Int):=by omega
     have HCL:=ac hcl;clear hcl;have hlt9:o.length-d<o.length:=by omega
     generalize o.length-d=od at*
     simp only[bv] at hbc;go_upto_region 13 with (fail)
     refine wp_region_noPanic ?_;refine io (S:=fun w':World=>w'.cell? ⟨S,1,none⟩=some (.slice (some ⟨go,0,none⟩) o.length co)) (k:=20) (by kernel_rfl) ?_;have hS:(fun w':World=>w'.cell? ⟨S,1,none⟩=some (.slice (some ⟨go,0,none⟩) o.length co)) wr.drew:=c1;refine ay 0 rfl (by kernel_rfl) rfl (fun _ _ _ h=>h) (by assumption) ⟨?_,fun w=> ?_,?_⟩;rotate_left
     ·(go_simp;try with_reducible rfl)
     simp only[Act.put,sA,sZ,sS];refine ay 1 rfl (by kernel_rfl) rfl (fun _ _ _ h=>h) (by assumption) ⟨?_,fun w=> ?_,?_⟩;rotate_left
     ·(go_simp;try with_reducible rfl)
     simp only[Act.put,sA,sZ,sS];refine ay 2 rfl (by kernel_rfl) rfl (fun _ _ _ h=>h) (by assumption) ⟨?_,fun w=> ?_,?_⟩;rotate_left
     ·(go_simp;try with_reducible rfl)
     simp only[Act.put,sA,sZ,sS];refine ay 3 rfl (by kernel_rfl) rfl (fun _ _ _ h=>h) (by assumption) ⟨?_,fun w=> ?_,?_⟩;rotate_left
     ·(go_simp;try with_reducible rfl)
     simp only[Act.put,sA,sZ,sS];refine dG 4 rfl (by kernel_rfl) rfl (fun _ _ _ h=>h) (by assumption) ⟨?_,fun w hSw=> ?_,?_⟩;rotate_left
     ·((try dsimp only at hSw);go_simp;try with_reducible rfl)
     simp only[Act.put,sA,sZ,sS];refine ay 5 rfl (by kernel_rfl) rfl (fun _ _ _ h=>h) (by assumption) ⟨?_,fun w=> ?_,?_⟩;rotate_left
     ·(go_simp;try with_reducible rfl)
     simp only[Act.put,sA,sZ,sS];refine ay 6 rfl (by kernel_rfl) rfl (fun _ _ _ h=>h) (by assumption) ⟨?_,fun w=> ?_,?_⟩;rotate_left
     ·(go_simp;try with_reducible rfl)
     simp only[Act.put,sA,sZ,sS];refine ay 7 rfl (by kernel_rfl) rfl (fun _ _ _ h=>h) (by assumption) ⟨?_,fun w=> ?_,?_⟩;rotate_left
     ·(go_simp;try with_reducible rfl)
     simp only[Act.put,sA,sZ,sS];refine dG 8 rfl (by kernel_rfl) rfl (fun _ _ _ h=>h) (by assumption) ⟨?_,fun w hSw=> ?_,?_⟩;rotate_left
     ·((try dsimp only at hSw);go_simp;try with_reducible rfl)
     simp only[Act.put,sA,sZ,sS];refine ay 9 rfl (by kernel_rfl) rfl (fun _ _ _ h=>h) (by assumption) ⟨?_,fun w=> ?_,?_⟩;rotate_left
     ·(go_simp;try with_reducible rfl)
     simp only[Act.put,sA,sZ,sS];refine ay 10 rfl (by kernel_rfl) rfl (fun _ _ _ h=>h) (by assumption) ⟨?_,fun w=> ?_,?_⟩;rotate_left
     ·(go_simp;try with_reducible rfl)
     simp only[Act.put,sA,sZ,sS];refine ay 11 rfl (by kernel_rfl) rfl (fun _ _ _ h=>h) (by assumption) ⟨?_,fun w=> ?_,?_⟩;rotate_left
     ·(go_simp;try with_reducible rfl)
     simp only[Act.put,sA,sZ,sS];refine dG 12 rfl (by kernel_rfl) rfl (fun _ _ _ h=>h) (by assumption) ⟨?_,fun w hSw=> ?_,?_⟩;rotate_left
     ·((try dsimp only at hSw);go_simp;try with_reducible rfl)
     simp only[Act.put,sA,sZ,sS];refine ay 13 rfl (by kernel_rfl) rfl (fun _ _ _ h=>h) (by assumption) ⟨?_,fun w=> ?_,?_⟩;rotate_left
     ·(go_simp;try with_reducible rfl)
     simp only[Act.put,sA,sZ,sS];refine ay 14 rfl (by kernel_rfl) rfl (fun _ _ _ h=>h) (by assumption) ⟨?_,fun w=> ?_,?_⟩;rotate_left
     ·(go_simp;try with_reducible rfl)
     simp only[Act.put,sA,sZ,sS];refine ay 15 rfl (by kernel_rfl) rfl (fun _ _ _ h=>h) (by assumption) ⟨?_,fun w=> ?_,?_⟩;rotate_left
     ·(go_simp;try with_reducible rfl)
     simp only[Act.put,sA,sZ,sS];refine ay 16 rfl (by kernel_rfl) rfl (fun _ _ _ h=>h) (by assumption) ⟨?_,fun w=> ?_,?_⟩;rotate_left
     ·(go_simp;try with_reducible rfl)
     simp only[Act.put,sA,sZ,sS];refine bq (i:=17) (by kernel_rfl) ?_;refine wpOp_step (by rfl) fun K hK=> ?_
     go_simp;refine hK _ _ ⟨fun e=>hS,?_⟩;clear hK K;refine bq (i:=18) (by kernel_rfl) ?_;refine wpOp_step (by rfl) fun K hK=> ?_
     go_simp;have hL6:=(HL5.out.alloc rfl (.cells #[.int .u8 (ch.toNat:Int)] 5)).drew;simp only[dV,bH] at hL6;have c6:=hL6.cell (i:=1) rfl 1 rfl;refine hK _ _ ⟨fun e=>c6,?_⟩;clear hK K hS c1 hbc;generalize hB6:wr.heap.size=b6 at*
     generalize hW6:(wr.alloc (Obj.cells #[Value.int .u8 (ch.toNat:Int)] 5)).drew=W6 at*
     clear hB6 hW6;refine bq (i:=19) (by kernel_rfl) ?_;refine wpOp_step (by rfl) fun K hK=> ?_
     refine jM cP rfl _ _ rfl rfl hL6 0 rfl (x:= .slice (some ⟨b6,0,none⟩) 1 1) rfl (m:=1) (news:=[bv ch]) (hL6.one (i:=3) rfl) (by intro u hu;simp at hu;subst hu;rfl) (by unfold maxLen;omega) (by omega) fun v' W7 h7 _=> ?_
     have c7:=h7.cell (i:=1) rfl 1 rfl;refine hK _ _ ⟨fun e=>c7,?_⟩;clear hK K;simp only[eH] at h7;simp only[Act.put,sA,sZ,sS];refine bq (i:=20) (by kernel_rfl) ?_;refine wpOp_step (by rfl) fun K hK=> ?_
     go_simp;refine hK _ _ ⟨fun e=>(by cases e),?_⟩;clear hK K;refine bq (i:=21) (by kernel_rfl) ?_;refine wpOp_step (by rfl) fun K hK=> ?_
     go_simp;refine hK _ _ ⟨fun e=>(by cases e),?_⟩;clear hK K;obtain⟨a7,c7',rfl⟩:=(h7.reads (i:=0) rfl).sub;have e0:=h7.cell (i:=1) rfl 1 rfl;have f0:=h7.free (i:=1) rfl 1;have h8:=h7.set (i:=1) rfl 1 (.slice a7 (o.length+1:Nat) c7');refine bq (i:=22) (by kernel_rfl) ?_;refine wpOp_step (by rfl) fun K hK=> ?_
     go_simp;refine hK _ _ ⟨fun e=>(by cases e),?_⟩;clear hK K e0 f0;refine⟨by kernel_rfl,NoPanic.normal ?_⟩;simp only[eH,ft,iN] at h8;generalize W7.setCell ⟨S,1,none⟩ (.slice a7 (o.length+1:Nat) c7')=W8 at*
     have h9:St w0 W8 (aS S Rb bs p2 (o++[ch]) most*(bf B W*(own 283 2 (.slice al 30 cl) 30 (aU aR)*F))):=by
      refine jb (v:= .slice a7 (o.length+1:Nat) c7') ?_;have e1:(o++[ch]).length=o.length+1:=by simp
      have e2:(o++[ch]).map bv=o.map bv++[bv ch]:=by simp
      rw[e1,e2];have h10:St w0 W8 (own 5 1 (.slice a7 (o.length+1) c7') (o.length+1) (o.map bv++[bv ch])*(blk S (.cells #[.pointer (some ⟨Rb,0,none⟩),.slice a7 (o.length+1) c7',.int .i64 (most:Int)] 218)*((aq Rb bs p2 true*(bf B W*(own 283 2 (.slice al 30 cl) 30 (aU aR)*F)))*(blk b6 (.cells #[.int .u8 (ch.toNat:Int)] 5)*bw)))):=h8;have h11:=h10.perm (show _=blk b6 (.cells #[.int .u8 (ch.toNat:Int)] 5)*(bw*(blk S (.cells #[.pointer (some ⟨Rb,0,none⟩),.slice a7 (o.length+1) c7',.int .i64 (most:Int)] 218)*(aq Rb bs p2 true*(own 5 1 (.slice a7 (o.length+1) c7') (o.length+1) (o.map bv++[bv ch])*(bf B W*(own 283 2 (.slice al 30 cl) 30 (aU aR)*F)))))) by ac_rfl);exact h11.right.right
     rw[← HSN.out] at h9;have H9:=ac h9;clear h9 h8 h7 hL6 c6 c7;go_wp2_with fail;exact⟨⟨j+1,by omega,by go_num,H9.out⟩,by simp [intOf];omega⟩
    ·obtain rfl:j=n:=by omega
     have hcl:=qk d j out;have HST:=ac hst;clear hst;go_wp2_with fail;go_ret;exact⟨0,p2,fL d j out,rfl,by rw[HR.out];exact⟨rfl,rfl,rfl⟩,by omega,HST.out⟩
theorem yv (w:World) (c:UInt8):Reads (w.alloc (.cells #[.int .u8 (c.toNat:Int)] 5)) 1 (.slice (some ⟨w.heap.size,0,none⟩) 1 1) 1 ([c].map bv):=
 (St.own_blk (e:=5) (size:=1) (n:=1) (cap:=1) (xs:=[c].map bv) ((St.init w).alloc _) (Nat.le_refl _) (by decide) rfl rfl).reads
theorem yw {w0 w:World} {S Rb:Nat} {bs:List UInt8} {p:Nat} {o:List UInt8} {c:UInt8} {most:Nat} {a:Option Addr} {k:Nat} {F:SProp}
  (h:St w0 w (blk S (.cells #[.pointer (some ⟨Rb,0,none⟩),.slice a (o.length+1) k,.int .i64 (most:Int)] 218)*(own 5 1 (.slice a (o.length+1) k) (o.length+1) (o.map bv++[c].map bv)*(aq Rb bs p true*F)))):
  St w0 w (aS S Rb bs p (o++[c]) most*F):=by
 have e1:(o++[c]).length=o.length+1:=by simp
 have e2:(o++[c]).map bv=o.map bv++[c].map bv:=by simp
 refine jb (v:= .slice a (o.length+1) k) ?_;rw[e1,e2];exact h.perm (by ac_rfl)
theorem Gp (m:Nat) (h:m<65536):m ^^^ 65535=65535-m:=by
 have h2:(BitVec.ofNat 16 m) ^^^ (BitVec.allOnes 16)= ~~~ (BitVec.ofNat 16 m):=BitVec.xor_allOnes;have h1:=congrArg BitVec.toNat h2;rw[BitVec.toNat_xor,BitVec.toNat_not,BitVec.toNat_ofNat,BitVec.toNat_allOnes,qZ (by omega)] at h1;exact h1
theorem tD {m:Nat} (h:m<65536):bits .xor .u32 (m:Int) 65535=((65535-m:Nat):Int):=by
 have:=u32_xor_nat m 65535 (by omega) (by decide);rw[Gp m h] at this;exact this
theorem yx {c:Nat}:IntKind.u8.wrap (c:Int)=((UInt8.ofNat c).toNat:Int):=by rw[IntKind.wrap_u8'];simp
theorem Gq {w0 w:World} {S Rb:Nat} {bs:List UInt8} {p:Nat} {out:List UInt8} {most:Nat} {F:SProp} (h:St w0 w (aS S Rb bs p out most*F))
  (hom:out.length≤most) (hm:most≤10000000000000):
  Calls Tryz.prog 156 #[.pointer (some ⟨S,0,none⟩)] w fun e w'=>∃ (x p':Nat) (out':List UInt8),e= .returned (.int .i64 x)∧qj (jC (ag true bs) most p out) x p' out'∧out'.length≤most∧St w0 w' (aS S Rb bs p' out' most*F):=by
 obtain⟨ao,co,h1⟩:=gu h;have c0:=h1.cell 0 rfl;have hback:∀ w' p',St w0 w' (aq Rb bs p' true*(blk S (.cells #[.pointer (some ⟨Rb,0,none⟩),.slice ao out.length co,.int .i64 (most:Int)] 218)*(own 5 1 (.slice ao out.length co) out.length (out.map bv)*F)))→St w0 w' (aS S Rb bs p' out most*F):=fun w' p' h=>jb (h.perm (by ac_rfl))
 have HBACK:=ac hback;clear hback;have hc0:∀ w' p',St w0 w' (aq Rb bs p' true*(blk S (.cells #[.pointer (some ⟨Rb,0,none⟩),.slice ao out.length co,.int .i64 (most:Int)] 218)*(own 5 1 (.slice ao out.length co) out.length (out.map bv)*F)))→w'.cell? ⟨S,0,none⟩=some (.pointer (some ⟨Rb,0,none⟩)):=fun w' p' h=>h.right.cell 0 rfl
 have HC0:=ac hc0;clear hc0;have H1:=ac (h1.perm (show _=aq Rb bs p true*(blk S (.cells #[.pointer (some ⟨Rb,0,none⟩),.slice ao out.length co,.int .i64 (most:Int)] 218)*(own 5 1 (.slice ao out.length co) out.length (out.map bv)*F)) by ac_rfl));clear h1 h;have HR:=ac (show jC (ag true bs) most p out=(if(ag true bs).length<(p+7)/8*8+32 then .inl 2 else if vl (ag true bs) ((p+7)/8*8) 16+vl (ag true bs) ((p+7)/8*8+16) 16≠65535 then .inl 3 else fi (ag true bs) most (vl (ag true bs) ((p+7)/8*8) 16) ((p+7)/8*8+32) out) from rfl);rw[bM] at HR;have HB:=ac (kU H1.out).1;go_enter Tryz.func156,Tryz.ntmps156;go_wp2_with fail;refine(u6q H1.out).mono ?_;rintro e w2 ⟨rfl,h2⟩;have c1:=HC0.out _ _ h2;generalize hq:(p+7)/8*8=q at*
 have HQ:=ac hq;clear hq;have H2:=ac h2;clear h2 c0 H1;go_wp2_with fail
 by_cases hcut:8*bs.length<q+32
 ·rw[if_pos hcut] at HR
  by_cases hcut1:8*bs.length<q+16
  ·refine(jn H2.out 16 rfl (by omega) hcut1).mono ?_;rintro e w3 ⟨rfl,h3⟩;have c2:=HC0.out _ _ h3;have H3:=ac h3;clear h3 c1;go_wp2_with fail;refine(jn H3.out 16 rfl (by omega) hcut1).mono ?_;rintro e w4 ⟨rfl,h4⟩;have H4:=ac h4;clear h4;go_wp2_with fail;go_ret;exact⟨2,q,out,rfl,by rw[HR.out];exact⟨rfl,by decide⟩,hom,HBACK.out _ _ H4.out⟩
  ·refine(iR H2.out 16 rfl (by omega) (by omega)).mono ?_;rintro e w3 ⟨rfl,h3⟩;have c2:=HC0.out _ _ h3;have H3:=ac h3;clear h3 c1;go_wp2_with fail;refine(jn H3.out 16 rfl (by omega) (by omega)).mono ?_;rintro e w4 ⟨rfl,h4⟩;have H4:=ac h4;clear h4;go_wp2_with fail;go_ret;exact⟨2,q+16,out,rfl,by rw[HR.out];exact⟨rfl,by decide⟩,hom,HBACK.out _ _ H4.out⟩
 ·rw[if_neg hcut] at HR;refine(iR H2.out 16 rfl (by omega) (by omega)).mono ?_;rintro e w3 ⟨rfl,h3⟩;have c2:=HC0.out _ _ h3;have H3:=ac h3;clear h3 c1;go_wp2_with fail;refine(iR H3.out 16 rfl (by omega) (by omega)).mono ?_;rintro e w4 ⟨rfl,h4⟩;rw[← mv,← mv] at HR;have hn:=kQ bs true q 16;have hm16:=kQ bs true (q+16) 16;generalize bL bs true q 16=n at*
  generalize bL bs true (q+16) 16=m at*
  have hxor:=tD (m:=m) (by omega);have H4:=ac (HBACK.out _ _ h4);clear h4
  by_cases hnm:n+m=65535
  ·have hnm2:(n:Int)=((65535-m:Nat):Int):=by omega
   rw[if_neg (by omega)] at HR;have hne:((n:Int) != bits .xor .u32 (m:Int) 65535)=false:=by rw[hxor,bne_eq_false_iff_eq];exact hnm2
   have HNM:=ac hnm;clear hnm hnm2 hxor;generalize hRES:fi (ag true bs) most n (q+32) out=RES at*
   have HRES:=ac hRES;clear hRES c2;have T:=cP;go_wp2_with fail
   go_loopw [43] (fun vi wr=>∃ (j q2:Nat) (o:List UInt8),j≤n∧vi= .int .u32 j∧fi (ag true bs) most (n-j) q2 o=RES∧o.length≤most∧St w0 wr (aS S Rb bs q2 o most*F)) (fun vi _=>n-(intOf vi).toNat)
   case atStart=>exact⟨0,q+16+16,out,by omega,rfl,HRES.out,hom,H4.out⟩
   case round=>
    clear H4 HRES HBACK HC0 H3 H2;obtain⟨j,q2,o,hj,rfl,hres,holen,hst⟩:=hrel
    by_cases hjn:j<n
    ·rw[show n-j=(n-(j+1))+1 by omega,fi,bM] at hres;have hjj:(j:Int)<n:=by omega
     obtain⟨ao,co,h6⟩:=gu hst;have c1:=h6.cell 0 rfl;have H6:=ac (h6.perm (ak _ _ _));clear h6 hst
     by_cases hcut:8*bs.length<q2+8
     ·rw[if_pos hcut] at hres;have HRR:=ac hres;clear hres;go_wp2_with fail;refine(jn H6.out 8 rfl (by omega) hcut).mono ?_;rintro e w5 ⟨rfl,h7⟩;have H7:=ac (jb (h7.perm (ak _ _ _)));clear h7;go_wp2_with fail;go_ret;exact⟨2,q2,o,rfl,by rw[HR.out,← HRR.out];exact⟨rfl,by decide⟩,holen,H7.out⟩
     ·rw[if_neg hcut,← mv] at hres;have HRR:=ac hres;clear hres;go_wp2_with fail;refine(iR H6.out 8 rfl (by omega) (by omega)).mono ?_;rintro e w5 ⟨rfl,h7⟩;have hc8:=kQ bs true q2 8;generalize bL bs true q2 8=c at*
      have h8:=h7.perm (ak _ _ _);have d1:=h8.cell 1 rfl;have d2:=h8.cell 2 rfl
      by_cases hlim:most≤o.length
      ·have hres:=HRR.out;rw[if_pos hlim] at hres;have HRX:=ac hres;clear hres HRR;have hl2:(most:Int)≤o.length:=by omega
       have H8:=ac (jb h8);clear h7 h8 H6;go_wp2_with fail;go_quiet (fail);have h9:=H8.out.drewN nq;clear d1 d2;generalize w5.drewN nq=w9 at*
       have H9:=ac h9;clear h9 H8;go_wp2_with fail;go_ret;exact⟨8,q2+8,o,rfl,by rw[HR.out,← HRX.out];exact⟨rfl,by decide⟩,holen,H9.out⟩
      ·have hres:=HRR.out;rw[if_neg hlim] at hres;have HRX:=ac hres;clear hres HRR;have hl2:¬ (most:Int)≤o.length:=by omega
       have H8:=ac h8;clear h7 h8 H6;have hw8:=yx (c:=c);generalize UInt8.ofNat c=ch at*
       go_wp2_with fail;go_quiet (fail);have h9:=H8.out.drewN nq;clear d1 d2 c1;generalize w5.drewN nq=w9 at*
       have d1:=h9.cell 1 rfl;have d1':(w9.alloc (.cells #[.int .u8 (ch.toNat:Int)] 5)).cell? ⟨S,1,none⟩=some (.slice ao o.length co):=by rw[World.cell?_alloc_lt _ _ _ h9.lt];exact d1
       have H9:=ac h9;clear h9 H8;go_wp2_with (at_builtin;apply ap);refine on (aG T rfl _ _ rfl rfl ((H9.out.drop_alloc (.cells #[.int .u8 (ch.toNat:Int)] 5)).perm (show _=own 5 1 (.slice ao o.length co) o.length (o.map bv)*(blk S (.cells #[.pointer (some ⟨Rb,0,none⟩),.slice ao o.length co,.int .i64 (most:Int)] 218)*(aq Rb bs (q2+8) true*F)) by ac_rfl)) rfl (yv w9 ch) (dN [ch]) ?_ ?_ ?_)
       ·unfold maxLen;omega
       ·omega
       intro v' w10 h10 _;obtain⟨a7,c7,rfl⟩:=h10.reads.sub;have e1:=h10.right.cell 1 rfl;have f1:=h10.right.free 1;have h11:=(h10.perm (ak _ _ _)).set 1 (.slice a7 (o.length+1:Nat) c7);have H11:=ac (yw h11);clear h10 h11 H9;go_wp2_with fail;exact⟨⟨j+1,q2+8,o++[ch],by omega,by go_num,HRX.out,by simp;omega,H11.out⟩,by simp [intOf];omega⟩
    ·obtain rfl:j=n:=by omega
     rw[b8,fi] at hres;have HRR:=ac hres;clear hres;have HST:=ac hst;clear hst;go_wp2_with fail;go_ret;exact⟨0,q2,o,rfl,by rw[HR.out,← HRR.out];exact⟨rfl,rfl,rfl⟩,holen,HST.out⟩
  ·have hne:((n:Int) != bits .xor .u32 (m:Int) 65535)=true:=by rw[hxor,bne_iff_ne];omega
   rw[if_pos (by omega)] at HR;clear hxor;go_wp2_with fail;go_ret;exact⟨3,q+16+16,out,rfl,by rw[HR.out];exact⟨rfl,by decide⟩,hom,H4.out⟩
section
variable {w0 w:World} {S Rb B:Nat} {bs:List UInt8} {p:Nat} {out:List UInt8} {most:Nat} {W:List (List Nat)} {F:SProp}
theorem kx (h:St w0 w (aS S Rb bs p out most*F)):w.cell? ⟨S,0,none⟩=some (.pointer (some ⟨Rb,0,none⟩)):=by
 obtain⟨ao,co,h1⟩:=gu h;exact h1.cell 0 rfl
theorem ly (h:St w0 w (aS S Rb bs p out most*F)):p≤8*bs.length:=by
 obtain⟨ao,co,h1⟩:=gu h;exact(kU h1.right).2.1
theorem yy (h:St w0 w (aS S Rb bs p out most*(bf B W*F))):
  Calls Tryz.prog 189 #[.pointer (some ⟨B,0,none⟩),.pointer (some ⟨Rb,0,none⟩)] w fun e w'=>∃ (z:Int) (x p':Nat),
   e= .returned (.tuple #[.int .i64 z,.int .i64 x])∧wR (aX W [] ((ag true bs).drop p)) p z x p'∧St w0 w' (aS S Rb bs p' out most*(bf B W*F)):=by
 have hp:=ly h;obtain⟨ao,co,h1⟩:=gu h;have h2:=h1.perm (show _=bf B W*(aq Rb bs p true*(blk S (.cells #[.pointer (some ⟨Rb,0,none⟩),.slice ao out.length co,.int .i64 (most:Int)] 218)*(own 5 1 (.slice ao out.length co) out.length (out.map bv)*F))) by ac_rfl);refine(wS h2 hp).mono ?_;rintro e w' ⟨z,x,p',he,hr,h3⟩;exact⟨z,x,p',he,hr,jb (h3.perm (by ac_rfl))⟩
theorem mA (h:St w0 w (aS S Rb bs p out most*F)) {j:Int} (n:Nat) (hj:j=n) (hn:n≤32) (hp:p+n≤8*bs.length):
  Calls Tryz.prog 81 #[.pointer (some ⟨Rb,0,none⟩),.int .i64 j] w fun e w'=>e= .returned (.tuple #[.int .u32 (vl (ag true bs) p n:Nat),.int .i64 0])∧St w0 w' (aS S Rb bs (p+n) out most*F):=by
 obtain⟨ao,co,h1⟩:=gu h;refine(iR (h1.perm (ak _ _ _)) n hj hn hp).mono ?_;rintro e w' ⟨he,h2⟩;rw[← mv];exact⟨he,jb (h2.perm (ak _ _ _))⟩
theorem mB (h:St w0 w (aS S Rb bs p out most*F)) {j:Int} (n:Nat) (hj:j=n) (hn:n≤32) (hp:8*bs.length<p+n):
  Calls Tryz.prog 81 #[.pointer (some ⟨Rb,0,none⟩),.int .i64 j] w fun e w'=>e= .returned (.tuple #[.int .u32 0,.int .i64 2])∧St w0 w' (aS S Rb bs p out most*F):=by
 obtain⟨ao,co,h1⟩:=gu h;refine(jn (h1.perm (ak _ _ _)) n hj hn hp).mono ?_;rintro e w' ⟨he,h2⟩;exact⟨he,jb (h2.perm (ak _ _ _))⟩
end
def Gr (r:Nat ⊕ (Nat × List Nat)) (v:Value) (x p':Nat) (w0 w':World) (G:Nat→SProp):Prop:=
 match r with
 | .inl e=>x=e∧e≠0∧St w0 w' (G p')
 | .inr (q,all)=>x=0∧p'=q∧St w0 w' (own 3 1 v all.length (nvs all)*G p')
theorem Gs {w0 w:World} {S Rb B:Nat} {bs:List UInt8} {p:Nat} {out:List UInt8} {most:Nat} {W:List (List Nat)} {F:SProp} (h:St w0 w (aS S Rb bs p out most*(bf B W*F))) (n:Nat) (hn:n≤100000) (hW:W.length≤1000):
  Calls Tryz.prog 193 #[.pointer (some ⟨S,0,none⟩),.pointer (some ⟨B,0,none⟩),.int .i64 n] w fun e w'=>∃ (v:Value) (x p':Nat),e= .returned (.tuple #[v,.int .i64 x])∧
   Gr (dv (ag true bs) W n (n+1) [] p) v x p' w0 w' (fun p'=>aS S Rb bs p' out most*(bf B W*F)):=by
 have T:=eM;generalize hRES:dv (ag true bs) W n (n+1) [] p=RES at*
 have HRES:=ac hRES;clear hRES;have H:=ac (St.own_nil 3 1 h);clear h;go_enter Tryz.func193,Tryz.ntmps193;go_wp2_with fail
 go_loopg [8] (n+1) (fun g va wr=>∃ (all:List Nat) (a:Option Addr) (c q:Nat),va= .slice a all.length c∧n+1≤g+all.length∧1≤g∧all.length≤n+300∧dv (ag true bs) W n g all q=RES∧St w0 wr (own 3 1 (.slice a all.length c) all.length (nvs all)*(aS S Rb bs q out most*(bf B W*F))))
 case atStart=>exact⟨[],none,0,p,rfl,by simp,by omega,by simp,HRES.out,H.out⟩
 case round=>
  clear H HRES;obtain⟨all,a,c,q,rfl,hg,hg1,hal,hres,hst⟩:=hrel;obtain⟨g,rfl⟩:∃ g,gk=g+1:=⟨gk-1,by omega⟩;rw[dv] at hres;have HG:=ac hg;clear hg
  by_cases hln:all.length<n
  ·rw[if_pos hln] at hres;have hln2:(all.length:Int)<n:=by omega
   have c0:=kx hst.right;have hlen:=iT W ((ag true bs).drop q) [];have C:=yy (hst.perm (show _=aS S Rb bs q out most*(bf B W*(own 3 1 (.slice a all.length c) all.length (nvs all)*F)) by ac_rfl));generalize aX W [] ((ag true bs).drop q)=r at*
   obtain⟨k,r⟩:=r;have HC:=ac C;clear C hst;have HRS:=ac hres;clear hres;go_wp2_with fail;refine HC.out.mono ?_;rintro e w2 ⟨z,x,p1,rfl,hrd,h3⟩;clear HC;cases r with
   | inr er=>
    have her:=hlen.2.2.2.2 er rfl;obtain⟨rfl,hx⟩:=hrd;simp only at hx HRS;subst hx;have hx2:¬ (x:Int)=0:=by omega
    have H3:=ac (h3.perm (show _=own 3 1 (.slice a all.length c) all.length (nvs all)*(aS S Rb bs (q+k) out most*(bf B W*F)) by ac_rfl));clear h3 hlen;go_wp2_with fail;go_ret2;rw[← HRS.out];exact⟨_,x,q+k,rfl,rfl,by omega,H3.out.right⟩
   | inl i=>
    have hi:=(hlen.2.2.2.1 i rfl).2;obtain⟨rfl,hx,hz⟩:=hrd;subst hx hz;simp only at HRS h3;clear hlen;have h4:=h3.perm (show _=own 3 1 (.slice a all.length c) all.length (nvs all)*(aS S Rb bs (q+k) out most*(bf B W*F)) by ac_rfl)
    by_cases h16:i<16
    ·have h16':(i:Int)<16:=by omega
     have hres:=HRS.out;rw[if_pos h16] at hres;have HRR:=ac hres;clear hres HRS h3;have HX:=ac (show nvs all++[(i:Int)].map iv=nvs (all++[i]) by rw[nvs,nvs,List.map_append];rfl);have H4:=ac h4;clear h4;go_wp2_with (at_builtin;apply ap);refine on (aG T rfl _ _ rfl rfl (H4.out.drop_alloc (.cells #[.int .i64 (i:Int)] 3)) rfl (jW w2 i) (fU [(i:Int)]) ?_ ?_ ?_)
     ·unfold maxLen;omega
     ·omega
     intro v' w7 h9 _;rw[HX.out] at h9;have hl1:(all++[i]).length=all.length+1:=by simp
     rw[← hl1] at h9;obtain⟨aN,cN,rfl⟩:=h9.reads.sub;have H9:=ac h9;clear h9;go_wp2_with fail
     go_roundg g
     case measure=>omega
     case rel=>exact⟨all++[i],aN,cN,q+k,by rw[hl1],by rw[hl1];have:=HG.out;omega,by have:=HG.out;omega,by rw[hl1];omega,HRR.out,H9.out⟩
    ·have h16':¬ (i:Int)<16:=by omega
     have hres:=HRS.out;rw[if_neg h16] at hres;clear HRS h3;have H4:=ac h4;clear h4
     by_cases hi16:i=16
     ·subst hi16
      by_cases hall:all=[]
      ·rw[if_pos ⟨rfl,hall⟩] at hres;have HRR:=ac hres;clear hres;subst hall;go_wp2_with fail;go_ret2;rw[← HRR.out]
       first | exact⟨_,3,rfl,q+k,rfl,by decide,H4.out.right⟩ | exact⟨_,3,q+k,rfl,rfl,by decide,H4.out.right⟩
      ·simp only[hall,and_false, ↓reduceIte,Nat.reduceEqDiff] at hres;have hpos:0<all.length:=ux.2 hall;have hpos2:¬ (all.length:Int)=0:=by omega
       obtain⟨ga,rfl⟩:=ce H4.out hpos;have hcl:w2.cell? ⟨ga,all.length-1,none⟩=some (.int .i64 (all.getD (all.length-1) 0:Nat)):=H4.out.own_cell (i:=all.length-1) (by
        rw[nvs,aC,List.getD_eq_getElem?_getD,au (by omega)];rfl)
       generalize all.getD (all.length-1) 0=val at*
       have HRR:=ac hres;clear hres hall;have hsb:(all.length:Int)-1=((all.length-1:Nat):Int):=by omega
       have hsb2:((all.length-1:Nat):Int)<all.length:=by omega
       generalize all.length-1=la at*
       have c1:=kx H4.out.right;go_wp2_with fail
       by_cases hcut:8*bs.length<q+k+2
       ·have hres:=HRR.out;rw[bM,if_pos hcut] at hres;have HRX:=ac hres;clear hres HRR;refine(mB H4.out.right 2 rfl (by omega) hcut).mono ?_;rintro e w3 ⟨rfl,h5⟩;have H5:=ac h5;clear h5;go_wp2_with fail;go_ret2;rw[← HRX.out]
        first | exact⟨_,2,rfl,q+k,rfl,by decide,H5.out.right⟩ | exact⟨_,2,q+k,rfl,rfl,by decide,H5.out.right⟩ | exact⟨_,2,rfl,q+k,rfl,by decide,H5.out⟩ | exact⟨_,2,q+k,rfl,rfl,by decide,H5.out⟩
       ·have hres:=HRR.out;rw[bM,if_neg hcut] at hres;have HRX:=ac hres;clear hres HRR;have hv:=jD bs (q+k) 2;refine(mA (H4.out.perm (show _=aS S Rb bs (q+k) out most*(own 3 1 (.slice (some ⟨ga,0,none⟩) all.length c) all.length (nvs all)*(bf B W*F)) by ac_rfl)) 2 rfl (by omega) (by omega)).mono ?_;rintro e w3 ⟨rfl,h5⟩;generalize vl (ag true bs) (q+k) 2=m at*
        have H5:=ac (h5.perm (ak _ _ _));clear h5;have hm9:m≤127:=by omega
        have hmm:wrap64 (m:Int)=m:=by unfold wrap64;omega
        have hmm2:(3:Int)+m=((3+m:Nat):Int):=by omega
        have hmm3:3+m≤138:=by omega
        generalize hM:3+m=M at*
        have HM:=ac hM;clear hM;go_wp2_with fail
        go_loopw [8,67] (fun vo vi wr=>∃ (j:Nat) (aj:Option Addr) (cj:Nat),j≤M∧vi= .int .i64 j∧vo= .slice aj (all.length+j) cj∧St w0 wr (own 3 1 (.slice aj (all.length+j) cj) (all.length+j) (nvs (all++List.replicate j val))*(aS S Rb bs (q+k+2) out most*(bf B W*F)))) (fun _ vi _=>M-(intOf vi).toNat)
        case atStart=>exact⟨0,_,_,by omega,rfl,rfl,by simpa using H5.out⟩
        case round=>
         clear H5;obtain⟨j,aj,cj,hj,rfl,rfl,hst⟩:=hrel
         by_cases hjM:j<M
         ·have hj2:(j:Int)<M:=by omega
          have HX:=ac (show nvs (all++List.replicate j val)++[((val:Nat):Int)].map iv=nvs (all++List.replicate (j+1) val) by rw[iO,← List.append_assoc,nvs,nvs,List.map_append (l₂:=[val])];rfl);have HST:=ac hst;clear hst;go_wp2_with (at_builtin;apply ap);refine on (aG T rfl _ _ rfl rfl (HST.out.drop_alloc (.cells #[.int .i64 ((val:Nat):Int)] 3)) rfl (jW _ (val:Nat)) (fU [((val:Nat):Int)]) ?_ ?_ ?_)
          ·unfold maxLen;omega
          ·omega
          intro v' w7 h9 _;rw[HX.out,da] at h9;obtain⟨aN,cN,rfl⟩:=h9.reads.sub;have H9:=ac h9;clear h9;go_wp2_with fail
          go_roundw
          case rel=>exact⟨j+1,aN,cN,by omega,by go_num,rfl,H9.out⟩
          case measure=>simp [intOf];omega
         ·obtain rfl:j=M:=by omega
          have hl1:(all++List.replicate j val).length=all.length+j:=by simp
          have hMp:1≤j:=by have:=HM.out;omega
          have h9:=hst;rw[← hl1] at h9;have H9:=ac h9;clear h9 hst;have HRY:=ac HRX.out;clear HRX;go_wp2_with fail
          go_roundg g
          case measure=>omega
          case rel=>exact⟨all++List.replicate j val,aj,cj,q+k+2,by rw[hl1],by rw[hl1];have:=HG.out;omega,by have:=HG.out;omega,by rw[hl1];omega,HRY.out,H9.out⟩
     ·simp only[hi16,false_and, ↓reduceIte] at hres;have hi16':¬ (i:Int)=16:=by omega
      by_cases hi18:i=18
      ·subst hi18;simp only[↓reduceIte] at hres;have HRR:=ac hres;clear hres hi16;have c1:=kx H4.out.right;go_wp2_with fail
       by_cases hcut:8*bs.length<q+k+7
       ·have hres:=HRR.out;rw[bM,if_pos hcut] at hres;have HRX:=ac hres;clear hres HRR;refine(mB H4.out.right 7 rfl (by omega) hcut).mono ?_;rintro e w3 ⟨rfl,h5⟩;have H5:=ac h5;clear h5;go_wp2_with fail;go_ret2;rw[← HRX.out]
        first | exact⟨_,2,rfl,q+k,rfl,by decide,H5.out.right⟩ | exact⟨_,2,q+k,rfl,rfl,by decide,H5.out.right⟩ | exact⟨_,2,rfl,q+k,rfl,by decide,H5.out⟩ | exact⟨_,2,q+k,rfl,rfl,by decide,H5.out⟩
       ·have hres:=HRR.out;rw[bM,if_neg hcut] at hres;have HRX:=ac hres;clear hres HRR;have hv:=jD bs (q+k) 7;refine(mA (H4.out.perm (show _=aS S Rb bs (q+k) out most*(own 3 1 (.slice a all.length c) all.length (nvs all)*(bf B W*F)) by ac_rfl)) 7 rfl (by omega) (by omega)).mono ?_;rintro e w3 ⟨rfl,h5⟩;generalize vl (ag true bs) (q+k) 7=m at*
        have H5:=ac (h5.perm (ak _ _ _));clear h5;have hm9:m≤127:=by omega
        have hmm:wrap64 (m:Int)=m:=by unfold wrap64;omega
        have hmm2:(11:Int)+m=((11+m:Nat):Int):=by omega
        have hmm3:11+m≤138:=by omega
        generalize hM:11+m=M at*
        have HM:=ac hM;clear hM;go_wp2_with fail
        go_loopw [8,67] (fun vo vi wr=>∃ (j:Nat) (aj:Option Addr) (cj:Nat),j≤M∧vi= .int .i64 j∧vo= .slice aj (all.length+j) cj∧St w0 wr (own 3 1 (.slice aj (all.length+j) cj) (all.length+j) (nvs (all++List.replicate j 0))*(aS S Rb bs (q+k+7) out most*(bf B W*F)))) (fun _ vi _=>M-(intOf vi).toNat)
        case atStart=>exact⟨0,_,_,by omega,rfl,rfl,by simpa using H5.out⟩
        case round=>
         clear H5;obtain⟨j,aj,cj,hj,rfl,rfl,hst⟩:=hrel
         by_cases hjM:j<M
         ·have hj2:(j:Int)<M:=by omega
          have HX:=ac (show nvs (all++List.replicate j 0)++[(0:Int)].map iv=nvs (all++List.replicate (j+1) 0) by rw[iO,← List.append_assoc,nvs,nvs,List.map_append (l₂:=[0])];rfl);have HST:=ac hst;clear hst;go_wp2_with (at_builtin;apply ap);refine on (aG T rfl _ _ rfl rfl (HST.out.drop_alloc (.cells #[.int .i64 (0:Int)] 3)) rfl (jW _ 0) (fU [(0:Int)]) ?_ ?_ ?_)
          ·unfold maxLen;omega
          ·omega
          intro v' w7 h9 _;rw[HX.out,da] at h9;obtain⟨aN,cN,rfl⟩:=h9.reads.sub;have H9:=ac h9;clear h9;go_wp2_with fail
          go_roundw
          case rel=>exact⟨j+1,aN,cN,by omega,by go_num,rfl,H9.out⟩
          case measure=>simp [intOf];omega
         ·obtain rfl:j=M:=by omega
          have hl1:(all++List.replicate j 0).length=all.length+j:=by simp
          have hMp:1≤j:=by have:=HM.out;omega
          have h9:=hst;rw[← hl1] at h9;have H9:=ac h9;clear h9 hst;have HRY:=ac HRX.out;clear HRX;go_wp2_with fail
          go_roundg g
          case measure=>omega
          case rel=>exact⟨all++List.replicate j 0,aj,cj,q+k+7,by rw[hl1],by rw[hl1];have:=HG.out;omega,by have:=HG.out;omega,by rw[hl1];omega,HRY.out,H9.out⟩
      ·simp only[hi18, ↓reduceIte] at hres;have hi18':¬ (i:Int)=18:=by omega
       have HRR:=ac hres;clear hres hi16 hi18;have c1:=kx H4.out.right;go_wp2_with fail
       by_cases hcut:8*bs.length<q+k+3
       ·have hres:=HRR.out;rw[bM,if_pos hcut] at hres;have HRX:=ac hres;clear hres HRR;refine(mB H4.out.right 3 rfl (by omega) hcut).mono ?_;rintro e w3 ⟨rfl,h5⟩;have H5:=ac h5;clear h5;go_wp2_with fail;go_ret2;rw[← HRX.out]
        first | exact⟨_,2,rfl,q+k,rfl,by decide,H5.out.right⟩ | exact⟨_,2,q+k,rfl,rfl,by decide,H5.out.right⟩ | exact⟨_,2,rfl,q+k,rfl,by decide,H5.out⟩ | exact⟨_,2,q+k,rfl,rfl,by decide,H5.out⟩
       ·have hres:=HRR.out;rw[bM,if_neg hcut] at hres;have HRX:=ac hres;clear hres HRR;have hv:=jD bs (q+k) 3;refine(mA (H4.out.perm (show _=aS S Rb bs (q+k) out most*(own 3 1 (.slice a all.length c) all.length (nvs all)*(bf B W*F)) by ac_rfl)) 3 rfl (by omega) (by omega)).mono ?_;rintro e w3 ⟨rfl,h5⟩;generalize vl (ag true bs) (q+k) 3=m at*
        have H5:=ac (h5.perm (ak _ _ _));clear h5;have hm9:m≤127:=by omega
        have hmm:wrap64 (m:Int)=m:=by unfold wrap64;omega
        have hmm2:(3:Int)+m=((3+m:Nat):Int):=by omega
        have hmm3:3+m≤138:=by omega
        generalize hM:3+m=M at*
        have HM:=ac hM;clear hM;go_wp2_with fail
        go_loopw [8,67] (fun vo vi wr=>∃ (j:Nat) (aj:Option Addr) (cj:Nat),j≤M∧vi= .int .i64 j∧vo= .slice aj (all.length+j) cj∧St w0 wr (own 3 1 (.slice aj (all.length+j) cj) (all.length+j) (nvs (all++List.replicate j 0))*(aS S Rb bs (q+k+3) out most*(bf B W*F)))) (fun _ vi _=>M-(intOf vi).toNat)
        case atStart=>exact⟨0,_,_,by omega,rfl,rfl,by simpa using H5.out⟩
        case round=>
         clear H5;obtain⟨j,aj,cj,hj,rfl,rfl,hst⟩:=hrel
         by_cases hjM:j<M
         ·have hj2:(j:Int)<M:=by omega
          have HX:=ac (show nvs (all++List.replicate j 0)++[(0:Int)].map iv=nvs (all++List.replicate (j+1) 0) by rw[iO,← List.append_assoc,nvs,nvs,List.map_append (l₂:=[0])];rfl);have HST:=ac hst;clear hst;go_wp2_with (at_builtin;apply ap);refine on (aG T rfl _ _ rfl rfl (HST.out.drop_alloc (.cells #[.int .i64 (0:Int)] 3)) rfl (jW _ 0) (fU [(0:Int)]) ?_ ?_ ?_)
          ·unfold maxLen;omega
          ·omega
          intro v' w7 h9 _;rw[HX.out,da] at h9;obtain⟨aN,cN,rfl⟩:=h9.reads.sub;have H9:=ac h9;clear h9;go_wp2_with fail
          go_roundw
          case rel=>exact⟨j+1,aN,cN,by omega,by go_num,rfl,H9.out⟩
          case measure=>simp [intOf];omega
         ·obtain rfl:j=M:=by omega
          have hl1:(all++List.replicate j 0).length=all.length+j:=by simp
          have hMp:1≤j:=by have:=HM.out;omega
          have h9:=hst;rw[← hl1] at h9;have H9:=ac h9;clear h9 hst;have HRY:=ac HRX.out;clear HRX;go_wp2_with fail
          go_roundg g
          case measure=>omega
          case rel=>exact⟨all++List.replicate j 0,aj,cj,q+k+3,by rw[hl1],by rw[hl1];have:=HG.out;omega,by have:=HG.out;omega,by rw[hl1];omega,HRY.out,H9.out⟩
  ·rw[if_neg hln] at hres;have hln2:¬ (all.length:Int)<n:=by omega
   have HST:=ac hst;clear hst
   by_cases hgt:n<all.length
   ·have hgt2:(n:Int)<all.length:=by omega
    rw[if_pos hgt] at hres;have HRS:=ac hres;clear hres;go_wp2_with fail;go_ret2;rw[← HRS.out];exact⟨_,3,rfl,q,rfl,by decide,HST.out.right⟩
   ·have hgt2:¬ (n:Int)<all.length:=by omega
    rw[if_neg hgt] at hres;have HRS:=ac hres;clear hres;go_wp2_with fail;go_ret2;rw[← HRS.out];exact⟨_,0,rfl,q,rfl,rfl,HST.out⟩
theorem tE {l:List Nat} {how:Nat} {W:List (List Nat)} (h:dd l how= .inr W):W.length=l.length:=by
 rw[dd] at h
 split at h
 ·cases h
 ·split at h
  ·cases h
  ·rename_i h0 _
   rcases yt (l.map fun(n:Nat)=>(n:Int)) with ⟨h1,_⟩ | ⟨l',h1,_,_,h2⟩
   ·exact absurd h1 h0
   ·rw[h2] at h;have:=Sum.inr.inj h;rw[← this];simp [aF];simpa using h1
theorem tF {t:List Nat} {l:List (Nat × Nat)} {i p q d:Nat} (h:dD t l i p= .inr (q,d)):p≤q:=by
 rw[dD] at h;cases e:l[i]? with
 | none=>rw[e] at h;cases h
 | some b=>
  rw[e] at h;simp only at h
  split at h
  ·cases h
  ·have:=(Prod.mk.inj (Sum.inr.inj h)).1;omega
theorem Gt {bs:List UInt8} {l:List (Nat × Nat)} (hl:∀ b∈l,b.1≤100000∧b.2≤13) {i p q d:Nat} (h:dD (ag true bs) l i p= .inr (q,d)):d≤200000:=by
 rw[dD] at h;cases e:l[i]? with
 | none=>rw[e] at h;cases h
 | some b=>
  rw[e] at h;simp only at h;have h1:=hl b (aI e)
  split at h
  ·cases h
  ·have h2:=(Prod.mk.inj (Sum.inr.inj h)).2;have h3:=jD bs p b.2;have h4:2^b.2≤2^13:=gj (by decide) h1.2;omega
theorem yz {t:List Nat} {B:List (List Nat)} {most n p q:Nat} {out o:List UInt8} (h:ja t B most n p out= .inr (q,o)):p≤q:=by
 rw[ja] at h
 split at h
 ·cases h
 ·split at h
  ·cases h
  ·rename_i e;have:=tF e
   split at h
   ·cases h
   ·split at h
    ·cases h
    ·have:=(Prod.mk.inj (Sum.inr.inj h)).1;omega
theorem nY {w0 w:World} {X A B C D F:SProp} (h:St w0 w (X*(A*(B*(C*(D*F)))))):St w0 w (X*F):=
 (h.perm (show _=A*(B*(C*(D*(X*F)))) by ac_rfl)).right.right.right.right
theorem yA {w0 w:World} {S Rb:Nat} {bs:List UInt8} {p:Nat} {out:List UInt8} {most:Nat} {F:SProp} (h:St w0 w (aS S Rb bs p out most*F)) (hom:out.length≤most) (hm:most≤10000000000000)
  (la lb:List Nat) (how:Nat) (hh:how≤2) (hla:la.length≤900) (hlb:lb.length≤900) (hla2:∀ n∈la,n≤1000) (hlb2:∀ n∈lb,n≤1000) {va vb:Value}
  (hva:Stb w0 F (fun w=>Reads w 1 va la.length (nvs la))) (hvb:Stb w0 F (fun w=>Reads w 1 vb lb.length (nvs lb))):
  Calls Tryz.prog 158 #[.pointer (some ⟨S,0,none⟩),va,vb,.int .i64 how] w fun e w'=>∃ (x p':Nat) (out':List UInt8),e= .returned (.int .i64 x)∧qj (hU (ag true bs) la lb how most p out) x p' out'∧out'.length≤most∧St w0 w' (aS S Rb bs p' out' most*F):=by
 obtain⟨aa,ca,rfl⟩:=(hva w h.right).sub;obtain⟨ab,cb,rfl⟩:=(hvb w h.right).sub;have C1:=tC h la 0 (by omega) hla hla2 (v:= .slice aa la.length ca) (fun w h=>hva w h.right);have HR:=ac (show hU (ag true bs) la lb how most p out=match dd la 0 with
  | .inl e=> .inl e
  | .inr A=>match dd lb how with
   | .inl e=> .inl e
   | .inr B=>eO (ag true bs) A B most ((ag true bs).length+1-p) p out from rfl)
 have HLA:=ac (fun W (h:dd la 0= .inr W)=>tE h);have HLB:=ac (fun W (h:dd lb how= .inr W)=>tE h);have HVB:=ac hvb;clear hvb hva;generalize dd la 0=ra at*
 have HC1:=ac C1;clear C1 h;go_enter Tryz.func158,Tryz.ntmps158;go_wp2_with fail;refine HC1.out.mono ?_;rintro e w2 hw;clear HC1;cases ra with
 | inl er=>
  obtain⟨hne,rfl,h2⟩:=hw;simp only at HR;have hne2:¬ (er:Int)=0:=by omega
  have H2:=ac h2;clear h2;go_wp2_with fail;go_ret;exact⟨er,p,out,rfl,by rw[HR.out];exact⟨rfl,hne⟩,hom,H2.out⟩
 | inr A=>
  obtain⟨Ba,rfl,h2⟩:=hw;simp only at HR;have hAl:=HLA.out A rfl;have C2:=tC h2 lb how hh hlb hlb2 (v:= .slice ab lb.length cb) (fun w h=>HVB.out w h.right.right);generalize dd lb how=rb at*
  have HC2:=ac C2;clear C2 h2;go_wp2_with fail;refine HC2.out.mono ?_;rintro e w3 hw;clear HC2;cases rb with
  | inl er=>
   obtain⟨hne,rfl,h3⟩:=hw;simp only at HR;have hne2:¬ (er:Int)=0:=by omega
   have H3:=ac h3.right;clear h3;go_wp2_with fail;go_ret;exact⟨er,p,out,rfl,by rw[HR.out];exact⟨rfl,hne⟩,hom,H3.out⟩
  | inr Bw=>
   obtain⟨Bb,rfl,h3⟩:=hw;simp only at HR;have hBl:=HLB.out Bw rfl;have hA9:A.length≤900:=by omega
   have hB9:Bw.length≤900:=by omega
   clear hAl hBl HLA HLB;have H3:=ac h3;clear h3;go_wp2_with fail;refine(tz H3.out).mono ?_;rintro e w4 ⟨v4,rfl,h4⟩;have H4:=ac h4;clear h4 H3;go_wp2_with fail;refine(tA H4.out).mono ?_;rintro e w5 ⟨v5,rfl,h5⟩;obtain⟨a5,c5,rfl⟩:=h5.reads.sub;obtain⟨a4,c4,rfl⟩:=h5.right.reads.sub;have h5:=h5.perm (show _=aS S Rb bs p out most*(bf Ba A*(bf Bb Bw*(own 283 2 (.slice a4 29 c4) 29 (aU bm)*(own 283 2 (.slice a5 30 c5) 30 (aU aR)*F)))) by ac_rfl);have hp:=ly h5;have H5:=ac h5;clear h5 H4;generalize hRES:eO (ag true bs) A Bw most ((ag true bs).length+1-p) p out=RES at*
   have HRES:=ac hRES;clear hRES;rw[bM] at HRES;go_wp2_with fail
   go_loopg [14] (8*bs.length+1-p) (fun g u wr=>∃ (q:Nat) (o:List UInt8),8*bs.length+1≤g+q∧o.length≤most∧eO (ag true bs) A Bw most g q o=RES∧
    St w0 wr (aS S Rb bs q o most*(bf Ba A*(bf Bb Bw*(own 283 2 (.slice a4 29 c4) 29 (aU bm)*(own 283 2 (.slice a5 30 c5) 30 (aU aR)*F))))))
   case atStart=>exact⟨p,out,by omega,hom,HRES.out,H5.out⟩
   case round=>
    clear H5 HRES hp;obtain⟨q,o,hg,hol,hres,hst⟩:=hrel;have hq:=ly hst;obtain⟨g,rfl⟩:∃ g,gk=g+1:=⟨gk-1,by omega⟩;rw[eO,gS] at hres;have c0:=kx hst;have hlen:=iT A ((ag true bs).drop q) [];have C:=yy hst;generalize aX A [] ((ag true bs).drop q)=r at*
    obtain⟨k,r⟩:=r;have HC:=ac C;clear C hst;have HRS:=ac hres;clear hres;have HG:=ac hg;clear hg;go_wp2_with fail;refine HC.out.mono ?_;rintro e w6 ⟨z,x,p1,rfl,hrd,h6⟩;clear HC;cases r with
    | inr er=>
     have her:=hlen.2.2.2.2 er rfl;obtain⟨rfl,hx⟩:=hrd;simp only at hx HRS;subst hx;have hx2:¬ (x:Int)=0:=by omega
     have H6:=ac h6;clear h6 hlen;go_wp2_with fail;go_ret;exact⟨x,q+k,o,rfl,by rw[HR.out,← HRS.out];exact⟨rfl,by omega⟩,hol,nY H6.out⟩
    | inl i=>
     obtain⟨hk1,hi⟩:=hlen.2.2.2.1 i rfl;obtain⟨rfl,hx,hz⟩:=hrd;subst hx hz;simp only[bI] at HRS h6 hk1;clear hlen
     by_cases hi256:i=256
     ·subst hi256;have hres:=HRS.out;rw[if_pos rfl] at hres;have HRX:=ac hres;clear hres HRS;have H6:=ac h6;clear h6;go_wp2_with fail;go_ret;exact⟨0,q+k,o,rfl,by rw[HR.out,← HRX.out];exact⟨rfl,rfl,rfl⟩,hol,nY H6.out⟩
     have hi256':¬ (i:Int)=256:=by omega
     have hres:=HRS.out;rw[if_neg hi256] at hres;clear HRS
     by_cases hlt:i<256
     ·have hlt2:(i:Int)<256:=by omega
      rw[if_pos hlt] at hres;obtain⟨ao,co,h7⟩:=gu h6;have d1:=h7.cell 1 rfl;have d2:=h7.cell 2 rfl
      by_cases hlim:most≤o.length
      ·rw[if_pos hlim] at hres;have HRX:=ac hres;clear hres;have hl2:(most:Int)≤o.length:=by omega
       have H6:=ac h6;clear h6 h7;go_wp2_with fail;go_quiet (fail);have h9:=H6.out.drewN nq;clear d1 d2;generalize w6.drewN nq=w9 at*
       have H9:=ac h9;clear h9 H6;go_wp2_with fail;go_ret;exact⟨8,q+k,o,rfl,by rw[HR.out,← HRX.out];exact⟨rfl,by decide⟩,hol,nY H9.out⟩
      ·rw[if_neg hlim] at hres;have HRX:=ac hres;clear hres;have hl2:¬ (most:Int)≤o.length:=by omega
       have H7:=ac h7;clear h6 h7;have hw8:=yx (c:=i);generalize UInt8.ofNat i=ch at*
       have T:=cP;generalize hFF:bf Ba A*(bf Bb Bw*(own 283 2 (.slice a4 29 c4) 29 (aU bm)*(own 283 2 (.slice a5 30 c5) 30 (aU aR)*F)))=FF at*
       have HFF:=ac hFF;clear hFF;go_wp2_with fail;go_quiet (fail);have h9:=H7.out.drewN nq;clear d1 d2 c0;generalize w6.drewN nq=w9 at*
       have d1:=h9.cell 1 rfl;have d1':(w9.alloc (.cells #[.int .u8 (ch.toNat:Int)] 5)).cell? ⟨S,1,none⟩=some (.slice ao o.length co):=by rw[World.cell?_alloc_lt _ _ _ h9.lt];exact d1
       have H9:=ac h9;clear h9 H7;go_wp2_with (at_builtin;apply ap);refine on (aG T rfl _ _ rfl rfl ((H9.out.drop_alloc (.cells #[.int .u8 (ch.toNat:Int)] 5)).perm (show _=own 5 1 (.slice ao o.length co) o.length (o.map bv)*(blk S (.cells #[.pointer (some ⟨Rb,0,none⟩),.slice ao o.length co,.int .i64 (most:Int)] 218)*(aq Rb bs (q+k) true*FF)) by ac_rfl)) rfl (yv w9 ch) (dN [ch]) ?_ ?_ ?_)
       ·unfold maxLen;omega
       ·omega
       intro v' w10 h10 _;obtain⟨a7,c7,rfl⟩:=h10.reads.sub;have e1:=h10.right.cell 1 rfl;have f1:=h10.right.free 1;have h11:=(h10.perm (ak _ _ _)).set 1 (.slice a7 (o.length+1:Nat) c7);have h12:=yw h11;have H11:=ac h12;clear h10 h11 h12 H9;go_wp2_with fail
       go_roundg g
       case measure=>omega
       case rel=>exact⟨q+k,o++[ch],by have:=HG.out;omega,by simp;omega,HRX.out,H11.out⟩
     ·have hlt2:¬ (i:Int)<256:=by omega
      rw[if_neg hlt] at hres;have hsub:(i:Int)-257=((i-257:Nat):Int):=by omega
      have C:=yr (h6.perm (show _=aS S Rb bs (q+k) o most*(own 283 2 (.slice a4 29 c4) 29 (aU bm)*(bf Ba A*(bf Bb Bw*(own 283 2 (.slice a5 30 c5) 30 (aU aR)*F)))) by ac_rfl)) rfl nW (i-257) (by omega);have HGE:=ac (fun q1 d=>tF (t:=ag true bs) (l:=bm) (i:=i-257) (p:=q+k) (q:=q1) (d:=d));have HLE:=ac (fun q1 d=>Gt (bs:=bs) nW (i:=i-257) (p:=q+k) (q:=q1) (d:=d));have HC:=ac C;clear C h6;have HRS:=ac hres;clear hres;generalize dD (ag true bs) bm (i-257) (q+k)=r at*
      have hnn:0≤((i-257:Nat):Int):=by omega
      generalize i-257=im at*
      go_wp2_with fail;refine HC.out.mono ?_;rintro e w7 ⟨z,x,p2,rfl,hnr,h7⟩;clear HC;have h7:=h7.perm (show _=aS S Rb bs p2 o most*(bf Ba A*(bf Bb Bw*(own 283 2 (.slice a4 29 c4) 29 (aU bm)*(own 283 2 (.slice a5 30 c5) 30 (aU aR)*F)))) by ac_rfl);cases r with
      | inl er=>
       obtain⟨hx,hne⟩:=hnr;subst hx;simp only at HRS;have hx2:¬ (x:Int)=0:=by omega
       have H7:=ac h7;clear h7;go_wp2_with fail;go_ret;exact⟨x,p2,o,rfl,by rw[HR.out,← HRS.out];exact⟨rfl,hne⟩,hol,nY H7.out⟩
      | inr qd=>
       obtain⟨q1,n⟩:=qd;obtain⟨hx,hq1,hz⟩:=hnr;subst hx hq1 hz;simp only at HRS;have hge:=HGE.out p2 n rfl;have hle:=HLE.out p2 n rfl;have C:=Gn (h7.perm (show _=aS S Rb bs p2 o most*(bf Bb Bw*(own 283 2 (.slice a5 30 c5) 30 (aU aR)*(bf Ba A*(own 283 2 (.slice a4 29 c4) 29 (aU bm)*F)))) by ac_rfl)) hol hm (by omega) n (by omega);have HGE2:=ac (fun q1 o1=>yz (t:=ag true bs) (B:=Bw) (most:=most) (n:=n) (p:=p2) (out:=o) (q:=q1) (o:=o1));have HC:=ac C;clear C h7 HGE HLE;generalize ja (ag true bs) Bw most n p2 o=r at*
       go_wp2_with fail;refine HC.out.mono ?_;rintro e w8 ⟨x,p3,o3,rfl,hcr,ho3,h8⟩;clear HC;have h8:=h8.perm (show _=aS S Rb bs p3 o3 most*(bf Ba A*(bf Bb Bw*(own 283 2 (.slice a4 29 c4) 29 (aU bm)*(own 283 2 (.slice a5 30 c5) 30 (aU aR)*F)))) by ac_rfl);cases r with
       | inl er=>
        obtain⟨hx,hne⟩:=hcr;subst hx;simp only at HRS;have hx2:¬ (x:Int)=0:=by omega
        have H8:=ac h8;clear h8;go_wp2_with fail;go_ret;exact⟨x,p3,o3,rfl,by rw[HR.out,← HRS.out];exact⟨rfl,hne⟩,ho3,nY H8.out⟩
       | inr qo=>
        obtain⟨q3,o4⟩:=qo;obtain⟨hx,hq3,ho4⟩:=hcr;subst hx hq3 ho4;simp only at HRS;have hge3:=HGE2.out p3 o3 rfl;have H8:=ac h8;clear h8 HGE2;go_wp2_with fail
        go_roundg g
        case measure=>omega
        case rel=>exact⟨p3,o3,by have:=HG.out;omega,ho3,HRS.out,H8.out⟩
theorem yB (t:List Nat) (p a b:Nat):vl t p (a+b)=vl t p a+vl t (p+a) b*2^a:=by
 induction b with
 | zero=>simp [vl,bT]
 | succ b ih=>
  have e1:vl t p (a+(b+1))=vl t p (a+b)+t.getD (p+(a+b)) 0*2^(a+b):=rfl;have e2:vl t (p+a) (b+1)=vl t (p+a) b+t.getD (p+a+b) 0*2^b:=rfl;rw[e1,e2,ih,kF,da,← da p a b,mT,iL,iM (2^b)]
theorem Gu (bs:List UInt8) (p:Nat):vl (ag true bs) p 5=vl (ag true bs) p 14%32∧vl (ag true bs) (p+5) 5=vl (ag true bs) p 14/32%32∧vl (ag true bs) (p+10) 4=vl (ag true bs) p 14/1024:=by
 have h1:=yB (ag true bs) p 5 9;have h2:=yB (ag true bs) (p+5) 5 4;have l1:=jD bs p 5;have l2:=jD bs (p+5) 5;rw[show p+5+5=p+10 from rfl] at h2;simp only[Nat.reduceAdd,Nat.reducePow] at h1 h2 l1 l2;omega
theorem yC (x:Nat) (h:x<4294967296):bits .and .u32 (x:Int) 31=((x%32:Nat):Int):=by
 have:=u32_and_nat x 31 h (by decide);rw[nat_mask5] at this;exact this
theorem Gv {t:List Nat} {W:List (List Nat)} {n:Nat}:∀ (f:Nat) (all:List Nat) (p q:Nat) (l:List Nat),dv t W n f all p= .inr (q,l)→(∀ x∈all,x≤15)→l.length=n∧∀ x∈l,x≤15:=by
 intro f
 induction f with
 | zero=>intro all p q l h;rw[dv] at h;cases h
 | succ f ih=>
  intro all p q l h hal;rw[dv] at h
  by_cases hln:all.length<n
  ·rw[if_pos hln] at h;generalize aX W [] (t.drop p)=r at h;obtain⟨k,r⟩:=r;cases r with
   | inr e=>cases h
   | inl v=>
    simp only at h
    by_cases h16:v<16
    ·rw[if_pos h16] at h;exact ih _ _ _ _ h (fun x hx=>by
      rcases cD.1 hx with hx | hx
      ·exact hal x hx
      ·rw[List.mem_singleton] at hx;omega)
    ·rw[if_neg h16] at h
     by_cases hb:v=16∧all=[]
     ·rw[if_pos hb] at h;cases h
     ·rw[if_neg hb] at h;have hval:(if v=16 then all.getD (all.length-1) 0 else 0)≤15:=by
       split
       ·rw[List.getD_eq_getElem?_getD];cases e:all[all.length-1]? with
        | none=>simp
        | some b=>exact hal b (aI e)
       ·omega
      generalize (if v=16 then all.getD (all.length-1) 0 else 0)=val at*
      generalize (if v=16 then 2 else if v=18 then 7 else 3)=wide at*
      generalize (if v=18 then 11 else 3)=least at*
      by_cases hc:t.length<p+k+wide
      ·rw[if_pos hc] at h;cases h
      ·rw[if_neg hc] at h;refine ih _ _ _ _ h (fun x hx=> ?_)
       rcases cD.1 hx with hx | hx
       ·exact hal x hx
       ·rw[mY] at hx;rw[hx.2];exact hval
  ·rw[if_neg hln] at h
   split at h
   ·cases h
   ·have:=(Prod.mk.inj (Sum.inr.inj h)).2;subst this;exact⟨by omega,hal⟩
theorem Reads.take {w:World} {g n cap:Nat} {xs:List Value} (h:Reads w 1 (.slice (some ⟨g,0,none⟩) n cap) n xs) {k:Nat} (hk:k≤n):Reads w 1 (.slice (some ⟨g,0,none⟩) k cap) k (xs.take k):=by
 obtain⟨hl,⟨h0,_⟩ | ⟨x,c,h1,h2,h3,h4⟩⟩:=h
 ·cases h0
 ·cases h1;refine⟨by rw[aL,hl];omega,.inr ⟨_,_,rfl,by omega,h3,fun j u hu=>h4 j u ?_⟩⟩;rw[fP] at hu
  split at hu
  ·exact hu
  ·cases hu
theorem Reads.drop {w:World} {g n cap:Nat} {xs:List Value} (h:Reads w 1 (.slice (some ⟨g,0,none⟩) n cap) n xs) {k:Nat} (hk:k≤n):Reads w 1 (.slice (some ⟨g,k,none⟩) (n-k) (cap-k)) (n-k) (xs.drop k):=by
 obtain⟨hl,⟨h0,_⟩ | ⟨x,c,h1,h2,h3,h4⟩⟩:=h
 ·cases h0
 ·cases h1;refine⟨by rw[a8,hl];omega,.inr ⟨_,_,rfl,by omega,by omega,fun j u hu=> ?_⟩⟩;rw[kI] at hu;have:=h4 (k+j) u hu;rw[Addr.add_lit,bA] at this;rw[Addr.add_lit];exact this
theorem Gw {n:Nat} (h:n<2^3):n≤7∧wrap64 (n:Int)=n:=by
 have:n<8:=h;exact⟨by omega,by unfold wrap64;omega⟩
theorem Gx:∀ x∈bo,x<19:=by decide
theorem Gy {w0 w:World} {S Rb:Nat} {bs:List UInt8} {p:Nat} {out:List UInt8} {most:Nat} {F:SProp} (h:St w0 w (aS S Rb bs p out most*F)) (hom:out.length≤most) (hm:most≤10000000000000):
  Calls Tryz.prog 159 #[.pointer (some ⟨S,0,none⟩)] w fun e w'=>∃ (x p':Nat) (out':List UInt8),e= .returned (.int .i64 x)∧qj (ie (ag true bs) most p out) x p' out'∧out'.length≤most∧St w0 w' (aS S Rb bs p' out' most*F):=by
 have c0:=kx h;have H:=ac h;clear h
 by_cases hcut:8*bs.length<p+14
 ·have HR:=ac (show ie (ag true bs) most p out= .inl 2 by rw[ie,if_pos (by rw[bM];exact hcut)]);go_enter Tryz.func159,Tryz.ntmps159;go_wp2_with fail;refine(mB H.out 14 rfl (by omega) hcut).mono ?_;rintro e w2 ⟨rfl,h2⟩;have H2:=ac h2;clear h2;go_wp2_with fail;go_ret;exact⟨2,p,out,rfl,by rw[HR.out];exact⟨rfl,by decide⟩,hom,H2.out⟩
 have HR:=ac (show ie (ag true bs) most p out=_ from by rw[ie,if_neg (by rw[bM];exact hcut)]);obtain⟨v1,v2,v3⟩:=Gu bs p;have hv:=jD bs p 14;rw[v1,v2,v3] at HR;have C:=mA H.out (j:=14) 14 rfl (by omega) (by omega);have HC:=ac C;clear C;generalize vl (ag true bs) p 14=hd at*
 clear v1 v2 v3;go_enter Tryz.func159,Tryz.ntmps159;go_wp2_with fail;refine HC.out.mono ?_;rintro e w2 ⟨rfl,h2⟩;have H2:=ac h2;clear h2 HC;go_upto_region 5 with (fail)
 have e5:wrap64 (wrap64 (bits .and .u32 (hd:Int) 31)+257)=((hd%32+257:Nat):Int):=by
  rw[yC _ (by omega)];unfold wrap64;omega
 have e6:wrap64 (wrap64 (bits .and .u32 ((hd:Int)/32) 31)+1)=((hd/32%32+1:Nat):Int):=by
  rw[show(hd:Int)/32=((hd/32:Nat):Int) by omega,yC _ (by omega)];unfold wrap64;omega
 have e7:(hd:Int)/1024+4=((hd/1024+4:Nat):Int):=by omega
 simp only[e5,e6,e7];have hlit:257≤hd%32+257:=by omega
 have hdis:1≤hd/32%32+1:=by omega
 have hmt:4≤hd/1024+4∧hd/1024+4≤19:=by omega
 generalize hd%32+257=lits at*
 generalize hd/32%32+1=dists at*
 generalize hd/1024+4=mt at*
 clear e5 e6 e7
 by_cases hbad:286<lits∨30<dists
 ·have hR:=HR.out;rw[if_pos hbad] at hR;have HRX:=ac hR;clear hR
  by_cases hb1:286<lits
  ·have hb2:286<(lits:Int):=by omega
   go_wp2_with fail;go_ret
   first | exact⟨3,p+14,out,rfl,by rw[HRX.out];exact⟨rfl,by decide⟩,hom,H2.out⟩ | exact⟨3,rfl,p+14,out,by rw[HRX.out];exact⟨rfl,by decide⟩,hom,H2.out⟩
  ·have hb2:¬ 286<(lits:Int):=by omega
   have hb3:30<(dists:Int):=by omega
   go_wp2_with fail;go_ret
   first | exact⟨3,p+14,out,rfl,by rw[HRX.out];exact⟨rfl,by decide⟩,hom,H2.out⟩ | exact⟨3,rfl,p+14,out,by rw[HRX.out];exact⟨rfl,by decide⟩,hom,H2.out⟩
 have hR:=HR.out;rw[if_neg hbad] at hR;have hb2:¬ 286<(lits:Int):=by omega
 have hb3:¬ 30<(dists:Int):=by omega
 have HRX:=ac hR;clear hR HR c0 H;have T:=eM;go_wp2_with (at_make;apply ap);refine on (gV T rfl _ _ rfl 19 rfl rfl rfl rfl H2.out (by decide) (by decide) ?_);intro v3 w3 h3;have h3':St w0 w3 (own 3 1 v3 19 (nvs (List.replicate 19 0))*(aS S Rb bs (p+14) out most*F)):=by
  have e:(madeCells (iv 0).cells (19*1)).toList=nvs (List.replicate 19 0):=by
   rw[gz];simp [iv,Value.cells,toList_madeCells_one,nvs];rfl
  rw[← e];exact h3
 obtain⟨a3,c3,rfl⟩:=h3'.reads.sub;obtain⟨g3,rfl⟩:=ce h3' (by omega);have H3:=ac h3';clear h3 h3' H2;go_wp2_with fail;refine(ym H3.out).mono ?_;rintro e w4 ⟨v4,rfl,h4⟩;have hcap:∃ g4 c4,v4= .slice (some ⟨g4,0,none⟩) 19 c4∧19≤c4:=by
  obtain⟨_,⟨_,h0,_⟩ | ⟨g',cap',cur,e1,e2,_⟩⟩:=h4.own_split
  ·omega
  ·exact⟨g',cap',e1,e2⟩
 obtain⟨g4,c4,rfl,hc4⟩:=hcap;have hmc:(mt:Int)≤c4:=by omega
 have hmc2:mt≤c4:=by omega
 have H4:=ac h4;clear h4 H3;go_wp2_with fail;have hHM:∃ RM,fW (ag true bs) (bo.take mt) (p+14) (List.replicate 19 0)=RM:=⟨_,rfl⟩;obtain⟨RM,hRM⟩:=hHM;rw[hRM] at HRX;have HRM:=ac hRM;clear hRM;have hotl:(bo.take mt).length=mt:=by rw[aL];exact j9 hmt.2
 have HOT:=ac hotl;clear hotl
 go_loopw [50] (fun vi wr=>∃ (j q:Nat) (lens:List Nat),j≤mt∧vi= .int .i64 j∧lens.length=19∧(∀ x∈lens,x≤7)∧fW (ag true bs) ((bo.take mt).drop j) q lens=RM∧
  St w0 wr (own 3 1 (.slice (some ⟨g4,0,none⟩) 19 c4) 19 (nvs bo)*(own 3 1 (.slice (some ⟨g3,0,none⟩) 19 c3) 19 (nvs lens)*(aS S Rb bs q out most*F)))) (fun vi _=>mt-(intOf vi).toNat)
 case atStart=>exact⟨0,p+14,List.replicate 19 0,by omega,rfl,by simp,(fun x hx=>by rw[mY] at hx;omega),HRM.out,H4.out⟩
 case round=>
  clear H4 HRM;obtain⟨j,q,lens,hj,rfl,hll,hl7,hmeta,hst⟩:=hrel
  by_cases hjm:j<mt
  ·have hjm2:(j:Int)<mt:=by omega
   have hjo:j<bo.length:=by show j<19;omega
   have hx:=au hjo;have hdrop:(bo.take mt).drop j=bo[j]::(bo.take mt).drop (j+1):=by
    rw[dX (by rw[HOT.out];exact hjm),AF]
   have hoc:=hst.own_cell (i:=j) (u:= .int .i64 (bo[j]:Nat)) (by rw[nvs,aC,hx];rfl);have hol:=Gx bo[j] (cT _);rw[hdrop,fW,bM] at hmeta;generalize bo[j]=oi at*
   clear hx hdrop hjo;have hst2:=hst.perm (show _=aS S Rb bs q out most*(own 3 1 (.slice (some ⟨g4,0,none⟩) 19 c4) 19 (nvs bo)*(own 3 1 (.slice (some ⟨g3,0,none⟩) 19 c3) 19 (nvs lens)*F)) by ac_rfl);have c0:=kx hst2;have H5:=ac hst2;clear hst hst2;have HME:=ac hmeta;clear hmeta
   by_cases hcut:8*bs.length<q+3
   ·have hme:=HME.out;rw[if_pos hcut] at hme;have HMX:=ac hme;clear hme HME;go_wp2_with fail;refine(mB H5.out 3 rfl (by omega) hcut).mono ?_;rintro e w5 ⟨rfl,h6⟩;have H6:=ac h6;clear h6;go_wp2_with fail;go_ret;have hrx:=HRX.out;rw[← HMX.out] at hrx
    first | exact⟨2,q,out,rfl,by rw[hrx];exact⟨rfl,by decide⟩,hom,(H6.out.perm (show _=own 3 1 _ 19 _*(own 3 1 _ 19 _*(aS S Rb bs q out most*F)) by ac_rfl)).right.right⟩ | exact⟨2,rfl,q,out,by rw[hrx];exact⟨rfl,by decide⟩,hom,(H6.out.perm (show _=own 3 1 _ 19 _*(own 3 1 _ 19 _*(aS S Rb bs q out most*F)) by ac_rfl)).right.right⟩
   ·have hme:=HME.out;rw[if_neg hcut] at hme;have hv3:=jD bs q 3;have HMX:=ac hme;clear hme HME;go_wp2_with fail;refine(mA H5.out 3 rfl (by omega) (by omega)).mono ?_;rintro e w5 ⟨rfl,h6⟩;generalize vl (ag true bs) q 3=n3 at*
    have h7:=h6.perm (show _=own 3 1 (.slice (some ⟨g3,0,none⟩) 19 c3) 19 (nvs lens)*(own 3 1 (.slice (some ⟨g4,0,none⟩) 19 c4) 19 (nvs bo)*(aS S Rb bs (q+3) out most*F)) by ac_rfl);obtain⟨u,hu⟩:∃ u,(nvs lens)[oi]? =some u:=⟨(nvs lens)[oi]'(by rw[F6,hll];exact hol),au _⟩;have x3:=h7.own_cell hu;have f3:=h7.own_free oi;have h8:=h7.own_set oi (.int .i64 (n3:Int));have e8:(nvs lens).set oi (.int .i64 (n3:Int))=nvs (lens.set oi n3):=by rw[nvs,nvs,ew];rfl
    rw[e8] at h8;have h9:=h8.perm (ak _ _ _);have H9:=ac h9;clear h6 h7 h8 h9 hu e8;obtain⟨hn7,hn3⟩:=Gw hv3;have HLL:=ac hll;have HL7:=ac hl7;clear hll hl7 hv3;have hol2:(oi:Int)<19:=by omega
    have hj19:j<19:=by omega
    clear hv hlit hdis hmt hbad hb2 hb3 hmc hmc2 hc4 hom hm hcut;go_wp2_with fail;have HLS:(lens.set oi n3).length=19:=by rw[eg];exact HLL.out
    have HL8:∀ x∈lens.set oi n3,x≤7:=fun x hx=>by
     rcases mX hx with h | h
     ·exact HL7.out x h
     ·rw[h];exact hn7
    exact⟨⟨j+1,q+3,lens.set oi n3,hjm,by go_num,HLS,HL8,HMX.out,H9.out⟩,by simp [intOf];omega⟩
  ·obtain rfl:j=mt:=by omega
   rw[AC (by rw[HOT.out];exact Nat.le_refl _),fW] at hmeta;have hrx:=HRX.out;rw[← hmeta] at hrx;simp only at hrx;have HRY:=ac hrx;clear hrx HRX hmeta;have h5:=hst.right;clear hst HOT;have C:=tC h5 lens 0 (by omega) (by omega) (fun n hn=>by have:=hl7 n hn;omega) (v:= .slice (some ⟨g3,0,none⟩) 19 c3) (by rw[hll];exact Stb.of_own);have HLN:=ac (fun W (h:dd lens 0= .inr W)=>tE h);generalize dd lens 0=ra at*
   have HC:=ac C;clear C h5;have hl19:lens.length≤1000:=by omega
   clear hl7 hll hmt hjm hj hv hbad hc4 hmc hmc2;go_wp2_with fail;refine HC.out.mono ?_;rintro e w5 hw;clear HC;cases ra with
   | inl er=>
    obtain⟨hne,rfl,h6⟩:=hw;simp only at HRY;have hne2:¬ (er:Int)=0:=by omega
    have H6:=ac h6.right;clear h6;go_wp2_with fail;go_ret
    first | exact⟨er,q,out,rfl,by rw[HRY.out];exact⟨rfl,hne⟩,hom,H6.out⟩ | exact⟨er,rfl,q,out,by rw[HRY.out];exact⟨rfl,hne⟩,hom,H6.out⟩
   | inr W=>
    obtain⟨Bw,rfl,h6⟩:=hw;simp only at HRY;have hWl:=HLN.out W rfl;have C:=Gs (h6.perm (show _=aS S Rb bs q out most*(bf Bw W*(own 3 1 (.slice (some ⟨g3,0,none⟩) 19 c3) 19 (nvs lens)*F)) by ac_rfl)) (lits+dists) (by omega) (by omega);have HLF:=ac (fun q' all (h:dv (ag true bs) W (lits+dists) (lits+dists+1) [] q= .inr (q',all))=>Gv (lits+dists+1) [] q q' all h (by simp));generalize dv (ag true bs) W (lits+dists) (lits+dists+1) [] q=rl at*
    obtain⟨nn,hnn⟩:∃ nn,nn=lits+dists:=⟨_,rfl⟩;rw[← hnn] at C HLF;have HC:=ac C;clear C h6 hWl HLN hl19;have hsum:(lits:Int)+dists=(nn:Int):=by omega
    have HNN:=ac hnn;clear hnn;go_wp2_with fail;refine HC.out.mono ?_;rintro e w6 ⟨v6,x,p6,rfl,hlr⟩;clear HC;cases rl with
    | inl er=>
     obtain⟨hx,hne,h7⟩:=hlr;subst hx;simp only at HRY;have hne2:¬ (x:Int)=0:=by omega
     have H7:=ac ((h7.perm (show _=bf Bw W*(own 3 1 (.slice (some ⟨g3,0,none⟩) 19 c3) 19 (nvs lens)*(aS S Rb bs p6 out most*F)) by ac_rfl)).right.right);clear h7;clear hsum;go_wp2_with fail;go_ret
     first | exact⟨x,p6,out,rfl,by rw[HRY.out];exact⟨rfl,hne⟩,hom,H7.out⟩ | exact⟨x,rfl,p6,out,by rw[HRY.out];exact⟨rfl,hne⟩,hom,H7.out⟩
    | inr qa=>
     obtain⟨q6,all⟩:=qa;obtain⟨hx,hq6,h7⟩:=hlr;subst hx hq6;simp only at HRY;obtain⟨hal,hal15⟩:=HLF.out p6 all rfl;rw[HNN.out] at hal;clear hsum;have h7:St w0 w6 (own 3 1 v6 all.length (nvs all)*(aS S Rb bs p6 out most*(bf Bw W*(own 3 1 (.slice (some ⟨g3,0,none⟩) 19 c3) 19 (nvs lens)*F)))):=h7;have h7:=(h7.perm (show _=bf Bw W*(own 3 1 (.slice (some ⟨g3,0,none⟩) 19 c3) 19 (nvs lens)*(aS S Rb bs p6 out most*(own 3 1 v6 all.length (nvs all)*F))) by ac_rfl)).right.right;obtain⟨a6,c6,rfl⟩:=(h7.right.reads).sub;have hown:∃ g6,a6=some ⟨g6,0,none⟩∧all.length≤c6:=by
      obtain⟨_,⟨_,h0,_⟩ | ⟨g',cap',cur,e1,e2,_⟩⟩:=h7.right.own_split
      ·omega
      ·cases e1;exact⟨g',rfl,e2⟩
     obtain⟨g6,rfl,hc6⟩:=hown;have h256:w6.cell? ⟨g6,256,none⟩=some (.int .i64 (all.getD 256 0:Nat)):=h7.right.own_cell (i:=256) (by
      rw[nvs,aC,List.getD_eq_getElem?_getD,au (by omega)];rfl)
     have hl256:(256:Int)<all.length:=by omega
     by_cases hz:all.getD 256 0=0
     ·rw[if_pos hz] at HRY;rw[hz] at h256;have H7:=ac ((h7.perm (ak _ _ _)).right);clear h7;clear hal hal15 hc6;go_wp2_with fail;go_ret
      first | exact⟨3,p6,out,rfl,by rw[HRY.out];exact⟨rfl,by decide⟩,hom,H7.out⟩ | exact⟨3,rfl,p6,out,by rw[HRY.out];exact⟨rfl,by decide⟩,hom,H7.out⟩
     ·rw[if_neg hz] at HRY;generalize all.getD 256 0=z256 at*
      have hz2:¬ (z256:Int)=0:=by omega
      have htk:(all.take lits).length=lits:=by rw[aL];omega
      have hdk:(all.drop lits).length=all.length-lits:=by rw[a8]
      have C:=yA h7.drew hom hm (all.take lits) (all.drop lits) 1 (by omega) (by rw[htk];omega) (by rw[hdk];omega) (fun n hn=>by have:=hal15 n (jf hn);omega) (fun n hn=>by have:=hal15 n (uq hn);omega)
       (va:= .slice (some ⟨g6,0,none⟩) lits c6) (vb:= .slice (some ⟨g6,lits,none⟩) (all.length-lits) (c6-lits))
       (by
        rw[htk];intro w h;have:=Reads.take h.reads (k:=lits) (by omega);rw[nvs,← jI] at this;exact this)
       (by
        rw[hdk];intro w h;have:=Reads.drop h.reads (k:=lits) (by omega);rw[nvs,← oE] at this;exact this)
      have HC:=ac C;clear C h7;have hls:(lits:Int)≤all.length:=by omega
      have hls2:lits≤all.length:=by omega
      have hls3:lits≤c6:=by omega
      have hls4:(lits:Int)≤c6:=by omega
      have hac:(all.length:Int)≤c6:=by omega
      have hcne:¬ c6=lits:=by omega
      have HAL:=ac hal;clear hal hal15 htk hdk HLF hz;go_upto_region 24 with (fail)
      go_region_with (first | (go_at_call 158;refine HC.out.mono ?_;rintro e w8 ⟨x,p8,o8,rfl,hres,ho8,h8⟩;have H9:=ac h8;clear h8))
      all_goals
       go_wp2_with fail
       all_goals
        go_ret;have h10:=(H9.out.perm (ak _ _ _)).right
        first | exact⟨x,p8,o8,rfl,by rw[HRY.out];exact hres,ho8,h10⟩ | exact⟨x,rfl,p8,o8,by rw[HRY.out];exact hres,ho8,h10⟩
theorem Gz {t:List Nat} {most:Nat}:∀ (n p q:Nat) (out o:List UInt8),fi t most n p out= .inr (q,o)→p≤q:=by
 intro n
 induction n with
 | zero=>intro p q out o h;rw[fi] at h;have:=(Prod.mk.inj (Sum.inr.inj h)).1;omega
 | succ n ih=>
  intro p q out o h;rw[fi] at h
  split at h
  ·cases h
  ·split at h
   ·cases h
   ·have:=ih _ _ _ _ h;omega
theorem GB {t:List Nat} {most p q:Nat} {out o:List UInt8} (h:jC t most p out= .inr (q,o)):p≤q:=by
 rw[jC] at h
 split at h
 ·cases h
 ·split at h
  ·cases h
  ·have:=Gz _ _ _ _ _ h;omega
theorem GC {t:List Nat} {A B:List (List Nat)} {most p q:Nat} {out o:List UInt8} {d:Bool} (h:gS t A B most p out= .inr (q,o,d)):p≤q:=by
 rw[gS] at h;generalize aX A [] (t.drop p)=r at h;obtain⟨k,r⟩:=r;cases r with
 | inr e=>cases h
 | inl v=>
  simp only at h
  by_cases h1:v=256
  ·rw[if_pos h1] at h;have:=(Prod.mk.inj (Sum.inr.inj h)).1;omega
  ·rw[if_neg h1] at h
   by_cases h2:v<256
   ·rw[if_pos h2] at h
    split at h
    ·cases h
    ·have:=(Prod.mk.inj (Sum.inr.inj h)).1;omega
   ·rw[if_neg h2] at h;cases e:dD t bm (v-257) (p+k) with
    | inl e'=>rw[e] at h;cases h
    | inr qn=>
     obtain⟨q1,n⟩:=qn;rw[e] at h;simp only at h;have h3:=tF e;cases e2:ja t B most n q1 out with
     | inl e'=>rw[e2] at h;cases h
     | inr qo=>
      obtain⟨q2,o2⟩:=qo;rw[e2] at h;simp only at h;have h4:=yz e2;have:=(Prod.mk.inj (Sum.inr.inj h)).1;omega
theorem GD {t:List Nat} {A B:List (List Nat)} {most:Nat}:∀ (f p q:Nat) (out o:List UInt8),eO t A B most f p out= .inr (q,o)→p≤q:=by
 intro f
 induction f with
 | zero=>intro p q out o h;rw[eO] at h;cases h
 | succ f ih=>
  intro p q out o h;rw[eO] at h;cases e:gS t A B most p out with
  | inl e'=>rw[e] at h;cases h
  | inr x=>
   obtain⟨q1,o1,d⟩:=x;rw[e] at h;have h1:=GC e;cases d with
   | true=>simp only at h;have:=(Prod.mk.inj (Sum.inr.inj h)).1;omega
   | false=>simp only at h;have:=ih _ _ _ _ h;omega
theorem yD {t:List Nat} {la lb:List Nat} {how most p q:Nat} {out o:List UInt8} (h:hU t la lb how most p out= .inr (q,o)):p≤q:=by
 rw[hU] at h
 split at h
 ·cases h
 ·split at h
  ·cases h
  ·exact GD _ _ _ _ _ h
theorem GE {t:List Nat}:∀ (l:List Nat) (p q:Nat) (a b:List Nat),fW t l p a= .inr (q,b)→p≤q:=by
 intro l
 induction l with
 | nil=>intro p q a b h;rw[fW] at h;have:=(Prod.mk.inj (Sum.inr.inj h)).1;omega
 | cons i l ih=>
  intro p q a b h;rw[fW] at h
  split at h
  ·cases h
  ·have:=ih _ _ _ _ h;omega
theorem GF {t:List Nat} {W:List (List Nat)} {n:Nat}:∀ (f:Nat) (all:List Nat) (p q:Nat) (l:List Nat),dv t W n f all p= .inr (q,l)→p≤q:=by
 intro f
 induction f with
 | zero=>intro all p q l h;rw[dv] at h;cases h
 | succ f ih=>
  intro all p q l h;rw[dv] at h
  by_cases hln:all.length<n
  ·rw[if_pos hln] at h;generalize aX W [] (t.drop p)=r at h;obtain⟨k,r⟩:=r;cases r with
   | inr e=>cases h
   | inl v=>
    simp only at h
    by_cases h16:v<16
    ·rw[if_pos h16] at h;have:=ih _ _ _ _ h;omega
    ·rw[if_neg h16] at h
     by_cases hb:v=16∧all=[]
     ·rw[if_pos hb] at h;cases h
     ·rw[if_neg hb] at h;generalize (if v=16 then all.getD (all.length-1) 0 else 0)=val at*
      generalize (if v=16 then 2 else if v=18 then 7 else 3)=wide at*
      generalize (if v=18 then 11 else 3)=least at*
      by_cases hc:t.length<p+k+wide
      ·rw[if_pos hc] at h;cases h
      ·rw[if_neg hc] at h;have:=ih _ _ _ _ h;omega
  ·rw[if_neg hln] at h
   split at h
   ·cases h
   ·have:=(Prod.mk.inj (Sum.inr.inj h)).1;omega
theorem GG {t:List Nat} {most p q:Nat} {out o:List UInt8} (h:ie t most p out= .inr (q,o)):p≤q:=by
 rw[ie] at h
 split at h
 ·cases h
 ·simp only at h
  split at h
  ·cases h
  ·split at h
   ·cases h
   ·rename_i e1;have h1:=GE _ _ _ _ _ e1
    split at h
    ·cases h
    ·split at h
     ·cases h
     ·rename_i e2;have h2:=GF _ _ _ _ _ e2
      split at h
      ·cases h
      ·have:=yD h;omega
def fY (bs:List UInt8) (most:Int):Nat ⊕ (List UInt8 × Nat):=
 if most<0 then .inl 1
 else match inflF (ag true bs) most.toNat (8*bs.length+1) 0 [] with
  | .inl e=> .inl e
  | .inr (q,o)=> .inr (o,(q+7)/8)
def yE (r:Nat ⊕ (List UInt8 × Nat)) (v:Value) (n x:Nat) (w0 w':World) (F:SProp):Prop:=
 match r with
 | .inl e=>v= .slice none 0 0∧n=0∧x=e∧e≠0∧St w0 w' F
 | .inr (o,k)=>n=k∧x=0∧St w0 w' (own 5 1 v o.length (o.map bv)*F)
theorem GH:∀ n∈dR,n≤1000:=by decide
theorem GI:∀ n∈d7,n≤1000:=by decide
theorem jY:dR.length=288:=by simp [dR]
theorem jZ:d7.length=30:=by simp [d7]
theorem GJ {w0 w:World} {F:SProp} (h:St w0 w F) (bs:List UInt8) (most:Int) (hl:bs.length≤1000000000) (hm:most≤10000000000000) {vb:Value} (hv:Stb w0 F (fun w=>Reads w 1 vb bs.length (bs.map bv))):
  Calls Tryz.prog 120 #[vb,.int .i64 most] w fun e w'=>∃ (v:Value) (n x:Nat),e= .returned (.tuple #[v,.int .i64 n,.int .i64 x])∧yE (fY bs most) v n x w0 w' F:=by
 by_cases hneg:most<0
 ·have HR:=ac (show fY bs most= .inl 1 by rw[fY,if_pos hneg]);have H:=ac h;clear h hv;go_enter Tryz.func120,Tryz.ntmps120;go_wp2_with fail
  go_ret3
  rw[HR.out];exact⟨_,0,1,rfl,rfl,rfl,rfl,by decide,H.out⟩
 obtain⟨M,rfl⟩:∃ M:Nat,most=M:=⟨most.toNat,by omega⟩;have HR:=ac (show fY bs M=(match inflF (ag true bs) M (8*bs.length+1) 0 [] with | .inl e=> .inl e | .inr (q,o)=> .inr (o,(q+7)/8)) by rw[fY,if_neg hneg,eT]);generalize hRES:inflF (ag true bs) M (8*bs.length+1) 0 []=RES at*
 have HRES:=ac hRES;clear hRES;have hM:M≤10000000000000:=by omega
 obtain⟨ab,cb,rfl⟩:=(hv w h).sub;have H:=ac h;have HV:=ac hv;clear hv;go_enter Tryz.func120,Tryz.ntmps120;go_wp2_with fail;refine(lV h HV.out (by omega)).mono ?_;rintro e w2 ⟨Rb,rfl,h2⟩;have h3:St w0 (w2.alloc (.cells #[] 5)) (own 5 1 (.slice (some ⟨w2.heap.size,0,none⟩) 0 0) 0 ([].map bv)*(aq Rb bs 0 true*F)):=St.own_blk (e:=5) (size:=1) (n:=0) (cap:=0) (xs:=[]) (h2.alloc (.cells #[] 5)) (Nat.le_refl _) (Nat.zero_le _) rfl rfl;have h4:=h3.alloc (.cells #[.pointer (some ⟨Rb,0,none⟩),.slice (some ⟨w2.heap.size,0,none⟩) 0 0,.int .i64 (M:Int)] 218);have hS:(w2.alloc (.cells #[] 5)).heap.size=w2.heap.size+1:=by
  show(w2.heap.push _).size=_;exact jK _
 rw[hS] at h4;have h5:=jb (out:=[]) (h4.perm (show _=blk _ (.cells #[.pointer (some ⟨Rb,0,none⟩),.slice (some ⟨w2.heap.size,0,none⟩) 0 0,.int .i64 (M:Int)] 218)*(aq Rb bs 0 true*(own 5 1 (.slice (some ⟨w2.heap.size,0,none⟩) 0 0) 0 ([].map bv)*F)) by ac_rfl));have H5:=ac h5;clear h2 h3 h4 h5 H h hS;go_wp2_with fail;generalize w2.heap.size+1=S at*
 generalize (w2.alloc (.cells #[] 5)).alloc (.cells #[.pointer (some ⟨Rb,0,none⟩),.slice (some ⟨w2.heap.size,0,none⟩) 0 0,.int .i64 (M:Int)] 218)=w3 at*
 go_loopg [8] (8*bs.length+1) (fun g u wr=>∃ (q:Nat) (o:List UInt8),8*bs.length+1≤g+q∧o.length≤M∧inflF (ag true bs) M g q o=RES∧St w0 wr (aS S Rb bs q o M*F))
 case atStart=>exact⟨0,[],by omega,by simp,HRES.out,H5.out⟩
 case round=>
  clear H5 HRES;obtain⟨q,o,hg,hol,hres,hst⟩:=hrel;have hq:=ly hst;obtain⟨g,rfl⟩:∃ g,gk=g+1:=⟨gk-1,by omega⟩;rw[inflF,bM] at hres;have c0:=kx hst;have HST:=ac hst;clear hst;have HG:=ac hg;clear hg
  by_cases hcut:8*bs.length<q+3
  ·rw[if_pos hcut] at hres;have HRS:=ac hres;clear hres;go_wp2_with fail;refine(mB HST.out 3 rfl (by omega) hcut).mono ?_;rintro e w4 ⟨rfl,h6⟩;have H6:=ac h6;clear h6;go_wp2_with fail
   go_ret3
   rw[HR.out,← HRS.out]
   first | exact⟨_,0,2,rfl,rfl,rfl,rfl,by decide,H6.out.right⟩ | exact⟨_,0,rfl,2,rfl,rfl,rfl,by decide,H6.out.right⟩
  ·rw[if_neg hcut] at hres;have hv3:=jD bs q 3;have HRS:=ac hres;clear hres;go_wp2_with fail;refine(mA HST.out 3 rfl (by omega) (by omega)).mono ?_;rintro e w4 ⟨rfl,h6⟩;generalize vl (ag true bs) q 3=hd at*
   have hd8:hd<8:=hv3;have hand:=rq hd (by omega);have hdv:(hd:Int)/2=((hd/2:Nat):Int):=by omega
   have hcs:hd/2=0∨hd/2=1∨hd/2=2∨hd/2=3:=by omega
   have hb1:hd%2=0∨hd%2=1:=by omega
   clear hv3 hcut;have H6:=ac h6;clear h6
   rcases hcs with h0 | h0 | h0 | h0
   ·have hres:=HRS.out;rw[fX,if_pos h0] at hres;rw[h0] at hdv;have C:=Gq H6.out hol hM;have HGE:=ac (fun q1 o1=>GB (t:=ag true bs) (most:=M) (p:=q+3) (out:=o) (q:=q1) (o:=o1));generalize jC (ag true bs) M (q+3) o=r at*
    have HC:=ac C;clear C;have HRT:=ac hres;clear hres HRS;go_wp2_with fail;refine HC.out.mono ?_;rintro e w5 ⟨x,q5,o5,rfl,hr,ho5,h7⟩;clear HC;cases r with
    | inl er=>
     obtain⟨hx,hne⟩:=hr;subst hx;have hres:=HRT.out;simp only at hres;have HRX:=ac hres;clear hres HRT;have hne2:¬ (x:Int)=0:=by omega
     have H7:=ac h7;clear h7;go_wp2_with fail
     go_ret3
     rw[HR.out,← HRX.out]
     first | exact⟨_,0,x,rfl,rfl,rfl,rfl,hne,H7.out.right⟩ | exact⟨_,0,rfl,x,rfl,rfl,rfl,hne,H7.out.right⟩
    | inr qo=>
     obtain⟨q6,o6⟩:=qo;obtain⟨hx,hq6,ho6⟩:=hr;subst hx hq6 ho6;have hge:=HGE.out q5 o5 rfl;have hres:=HRT.out;simp only at hres
     rcases hb1 with hb1 | hb1
     ·rw[if_neg (by omega)] at hres;rw[hb1] at hand;have hne:(bits .and .u32 (hd:Int) 1==1)=false:=by rw[hand];rfl
      have HRX:=ac hres;clear hres HRT hand;have H7:=ac h7;clear h7;go_wp2_with fail
      go_roundg g
      case measure=>omega
      case rel=>exact⟨q5,o5,by have:=HG.out;omega,ho5,HRX.out,H7.out⟩
     ·rw[if_pos hb1] at hres;rw[hb1] at hand;have hne:(bits .and .u32 (hd:Int) 1==1)=true:=by rw[hand];rfl
      have HRX:=ac hres;clear hres HRT hand;obtain⟨a5,c5,h8⟩:=gu h7;have d0:=h8.cell 0 rfl;have d1:=h8.cell 1 rfl;have HQ:=ac (fun n=>Calls.quiet_of_same ((rA (kV ((h8.drewN n).perm (ak _ _ _)))).mono fun e w'' h=>(⟨h.1,h.2.symm⟩:e= .returned (.int .i64 (q5:Int))∧w''=w5.drewN n)));have hq7:((q5:Int)+7)/8=(((q5+7)/8:Nat):Int):=by omega
      have hq5:=ly h7;have H7:=ac h8;clear h7 h8;go_wp2_with fail;go_quiet (first | (go_at_call 160;exact HQ.out _));have h9:=H7.out.drewN nq;clear d0 d1;generalize w5.drewN nq=w9 at*
      have H9:=ac h9;clear h9 H7 HQ;go_wp2_with fail
      go_ret3
      rw[HR.out,← HRX.out];have h10:=(H9.out.right.right)
      first | exact⟨_,(q5+7)/8,0,rfl,rfl,rfl,h10⟩ | exact⟨_,(q5+7)/8,rfl,0,rfl,rfl,h10⟩ | (refine⟨_,(q5+7)/8,0,?_,rfl,rfl,h10⟩;first | rfl | (rw[hq7];rfl))
   ·have hres:=HRS.out;rw[fX,if_neg (by omega),if_pos h0] at hres;rw[h0] at hdv;have HGE:=ac (fun q1 o1=>yD (t:=ag true bs) (la:=dR) (lb:=d7) (how:=2) (most:=M) (p:=q+3) (out:=o) (q:=q1) (o:=o1));go_wp2_with fail;refine(tw H6.out).mono ?_;rintro e w45 ⟨va,vb,rfl,h65⟩;obtain⟨aa,ca,rfl⟩:=h65.reads.sub;obtain⟨ab5,cb5,rfl⟩:=h65.right.reads.sub;have h66:=h65.perm (show _=aS S Rb bs (q+3) o M*(own 3 1 (.slice aa 288 ca) 288 (nvs dR)*(own 3 1 (.slice ab5 30 cb5) 30 (nvs d7)*F)) by ac_rfl);have C:=yA h66 hol hM dR d7 2 (by omega) (by rw[jY];omega) (by rw[jZ];omega) GH GI (va:= .slice aa 288 ca) (vb:= .slice ab5 30 cb5) (by rw[jY];exact Stb.of_own) (by rw[jZ];exact fun w h=>h.right.reads);clear h65 h66;generalize hU (ag true bs) dR d7 2 M (q+3) o=r at*
    have HC:=ac C;clear C;have HRT:=ac hres;clear hres HRS;go_wp2_with fail;refine HC.out.mono ?_;rintro e w5 ⟨x,q5,o5,rfl,hr,ho5,h7⟩;clear HC;have h7:=(h7.perm (show _=own 3 1 (.slice aa 288 ca) 288 (nvs dR)*(own 3 1 (.slice ab5 30 cb5) 30 (nvs d7)*(aS S Rb bs q5 o5 M*F)) by ac_rfl)).right.right;cases r with
    | inl er=>
     obtain⟨hx,hne⟩:=hr;subst hx;have hres:=HRT.out;simp only at hres;have HRX:=ac hres;clear hres HRT;have hne2:¬ (x:Int)=0:=by omega
     have H7:=ac h7;clear h7;go_wp2_with fail
     go_ret3
     rw[HR.out,← HRX.out]
     first | exact⟨_,0,x,rfl,rfl,rfl,rfl,hne,H7.out.right⟩ | exact⟨_,0,rfl,x,rfl,rfl,rfl,hne,H7.out.right⟩
    | inr qo=>
     obtain⟨q6,o6⟩:=qo;obtain⟨hx,hq6,ho6⟩:=hr;subst hx hq6 ho6;have hge:=HGE.out q5 o5 rfl;have hres:=HRT.out;simp only at hres
     rcases hb1 with hb1 | hb1
     ·rw[if_neg (by omega)] at hres;rw[hb1] at hand;have hne:(bits .and .u32 (hd:Int) 1==1)=false:=by rw[hand];rfl
      have HRX:=ac hres;clear hres HRT hand;have H7:=ac h7;clear h7;go_wp2_with fail
      go_roundg g
      case measure=>omega
      case rel=>exact⟨q5,o5,by have:=HG.out;omega,ho5,HRX.out,H7.out⟩
     ·rw[if_pos hb1] at hres;rw[hb1] at hand;have hne:(bits .and .u32 (hd:Int) 1==1)=true:=by rw[hand];rfl
      have HRX:=ac hres;clear hres HRT hand;obtain⟨a5,c5,h8⟩:=gu h7;have d0:=h8.cell 0 rfl;have d1:=h8.cell 1 rfl;have HQ:=ac (fun n=>Calls.quiet_of_same ((rA (kV ((h8.drewN n).perm (ak _ _ _)))).mono fun e w'' h=>(⟨h.1,h.2.symm⟩:e= .returned (.int .i64 (q5:Int))∧w''=w5.drewN n)));have hq7:((q5:Int)+7)/8=(((q5+7)/8:Nat):Int):=by omega
      have hq5:=ly h7;have H7:=ac h8;clear h7 h8;go_wp2_with fail;go_quiet (first | (go_at_call 160;exact HQ.out _));have h9:=H7.out.drewN nq;clear d0 d1;generalize w5.drewN nq=w9 at*
      have H9:=ac h9;clear h9 H7 HQ;go_wp2_with fail
      go_ret3
      rw[HR.out,← HRX.out];have h10:=(H9.out.right.right)
      first | exact⟨_,(q5+7)/8,0,rfl,rfl,rfl,h10⟩ | exact⟨_,(q5+7)/8,rfl,0,rfl,rfl,h10⟩ | (refine⟨_,(q5+7)/8,0,?_,rfl,rfl,h10⟩;first | rfl | (rw[hq7];rfl))
   ·have hres:=HRS.out;rw[fX,if_neg (by omega),if_neg (by omega),if_pos h0] at hres;rw[h0] at hdv;have C:=Gy H6.out hol hM;have HGE:=ac (fun q1 o1=>GG (t:=ag true bs) (most:=M) (p:=q+3) (out:=o) (q:=q1) (o:=o1));generalize ie (ag true bs) M (q+3) o=r at*
    have HC:=ac C;clear C;have HRT:=ac hres;clear hres HRS;go_wp2_with fail;refine HC.out.mono ?_;rintro e w5 ⟨x,q5,o5,rfl,hr,ho5,h7⟩;clear HC;cases r with
    | inl er=>
     obtain⟨hx,hne⟩:=hr;subst hx;have hres:=HRT.out;simp only at hres;have HRX:=ac hres;clear hres HRT;have hne2:¬ (x:Int)=0:=by omega
     have H7:=ac h7;clear h7;go_wp2_with fail
     go_ret3
     rw[HR.out,← HRX.out]
     first | exact⟨_,0,x,rfl,rfl,rfl,rfl,hne,H7.out.right⟩ | exact⟨_,0,rfl,x,rfl,rfl,rfl,hne,H7.out.right⟩
    | inr qo=>
     obtain⟨q6,o6⟩:=qo;obtain⟨hx,hq6,ho6⟩:=hr;subst hx hq6 ho6;have hge:=HGE.out q5 o5 rfl;have hres:=HRT.out;simp only at hres
     rcases hb1 with hb1 | hb1
     ·rw[if_neg (by omega)] at hres;rw[hb1] at hand;have hne:(bits .and .u32 (hd:Int) 1==1)=false:=by rw[hand];rfl
      have HRX:=ac hres;clear hres HRT hand;have H7:=ac h7;clear h7;go_wp2_with fail
      go_roundg g
      case measure=>omega
      case rel=>exact⟨q5,o5,by have:=HG.out;omega,ho5,HRX.out,H7.out⟩
     ·rw[if_pos hb1] at hres;rw[hb1] at hand;have hne:(bits .and .u32 (hd:Int) 1==1)=true:=by rw[hand];rfl
      have HRX:=ac hres;clear hres HRT hand;obtain⟨a5,c5,h8⟩:=gu h7;have d0:=h8.cell 0 rfl;have d1:=h8.cell 1 rfl;have HQ:=ac (fun n=>Calls.quiet_of_same ((rA (kV ((h8.drewN n).perm (ak _ _ _)))).mono fun e w'' h=>(⟨h.1,h.2.symm⟩:e= .returned (.int .i64 (q5:Int))∧w''=w5.drewN n)));have hq7:((q5:Int)+7)/8=(((q5+7)/8:Nat):Int):=by omega
      have hq5:=ly h7;have H7:=ac h8;clear h7 h8;go_wp2_with fail;go_quiet (first | (go_at_call 160;exact HQ.out _));have h9:=H7.out.drewN nq;clear d0 d1;generalize w5.drewN nq=w9 at*
      have H9:=ac h9;clear h9 H7 HQ;go_wp2_with fail
      go_ret3
      rw[HR.out,← HRX.out];have h10:=(H9.out.right.right)
      first | exact⟨_,(q5+7)/8,0,rfl,rfl,rfl,h10⟩ | exact⟨_,(q5+7)/8,rfl,0,rfl,rfl,h10⟩ | (refine⟨_,(q5+7)/8,0,?_,rfl,rfl,h10⟩;first | rfl | (rw[hq7];rfl))
   ·have hres:=HRS.out;rw[fX,if_neg (by omega),if_neg (by omega),if_neg (by omega)] at hres;rw[h0] at hdv;simp only at hres;have HRX:=ac hres;clear hres HRS;go_wp2_with fail
    go_ret3
    rw[HR.out,← HRX.out]
    first | exact⟨_,0,3,rfl,rfl,rfl,rfl,by decide,H6.out.right⟩ | exact⟨_,0,rfl,3,rfl,rfl,rfl,by decide,H6.out.right⟩
structure TokD where
 lit:UInt8
 len:Int
 dist:Int
 deriving Inhabited
def gw (L:List (Nat × Nat)) (n:Nat):Nat→Nat
 | 0=>0
 | i+1=>if(L.getD (i+1) (0,0)).1≤n then i+1 else gw L n i
def aY (far:Bool) (n:Nat):Nat:=gw (cond far aR bm) n ((cond far aR bm).length-1)
def aZ (far:Bool) (n:Nat):Nat × Nat:=(cond far aR bm).getD (aY far n) (0,0)
def jE (far:Bool) (n:Nat):List Nat:=(aE (n-(aZ far n).1) (aZ far n).2).reverse
def cM (A B:List (List Nat)) (k:TokD):List Nat:=
 if k.len=0 then A.getD k.lit.toNat [] else A.getD (257+aY false k.len.toNat) []++(jE false k.len.toNat++(B.getD (aY true k.dist.toNat) []++jE true k.dist.toNat))
def bZ (A B:List (List Nat)) (l:List TokD):List Nat:=l.flatMap (cM A B)++A.getD 256 []
theorem nZ (L:List (Nat × Nat)) (n:Nat):∀ i,gw L n i≤i:=by
 intro i
 induction i with
 | zero=>exact Nat.le_refl _
 | succ i ih=>
  rw[gw]
  split
  ·exact Nat.le_refl _
  ·omega
theorem yF (L:List (Nat × Nat)) (n:Nat) (h0:(L.getD 0 (0,0)).1≤n):∀ i,(L.getD (gw L n i) (0,0)).1≤n:=by
 intro i
 induction i with
 | zero=>exact h0
 | succ i ih=>
  rw[gw]
  split
  ·assumption
  ·exact ih
theorem yG (L:List (Nat × Nat)) (n:Nat):∀ i,gw L n i<i→n<(L.getD (gw L n i+1) (0,0)).1:=by
 intro i
 induction i with
 | zero=>intro h;exact absurd h (Nat.not_lt_zero _)
 | succ i ih=>
  intro h;rw[gw] at h ⊢
  split at h
  ·omega
  ·rename_i hn;rw[if_neg hn]
   by_cases he:gw L n i=i
   ·rw[he];omega
   ·exact ih (by have:=nZ L n i;omega)
theorem GK:∀ i,i<28→(bm.getD (i+1) (0,0)).1≤(bm.getD i (0,0)).1+2^(bm.getD i (0,0)).2:=by decide
theorem GL:∀ i,i<29→(aR.getD (i+1) (0,0)).1≤(aR.getD i (0,0)).1+2^(aR.getD i (0,0)).2:=by decide
theorem ky {n:Nat} (h3:3≤n) (h258:n≤258):aY false n≤28∧(aZ false n).1≤n∧n-(aZ false n).1<2^(aZ false n).2:=by
 have h1:aY false n≤28:=nZ bm n 28;have h2:(aZ false n).1≤n:=yF bm n h3 28;refine⟨h1,h2,?_⟩
 by_cases he:aY false n=28
 ·have e:aZ false n=(258,0):=by rw[aZ,he];rfl
  rw[e];simp;omega
 ·have h4:n<(bm.getD (aY false n+1) (0,0)).1:=yG bm n 28 (by have:gw bm n 28≠28:=he;have:=nZ bm n 28;omega);have h5:=GK (aY false n) (by omega);have e:aZ false n=bm.getD (aY false n) (0,0):=rfl;rw[e] at h2 ⊢;omega
theorem lz {n:Nat} (h1:1≤n) (h9:n≤32768):aY true n≤29∧(aZ true n).1≤n∧n-(aZ true n).1<2^(aZ true n).2:=by
 have h2:aY true n≤29:=nZ aR n 29;have h3:(aZ true n).1≤n:=yF aR n h1 29;refine⟨h2,h3,?_⟩
 by_cases he:aY true n=29
 ·have e:aZ true n=(24577,13):=by rw[aZ,he];rfl
  rw[e];simp;omega
 ·have h4:n<(aR.getD (aY true n+1) (0,0)).1:=yG aR n 29 (by have:gw aR n 29≠29:=he;have:=nZ aR n 29;omega);have h5:=GL (aY true n) (by omega);have e:aZ true n=aR.getD (aY true n) (0,0):=rfl;rw[e] at h3 ⊢;omega
theorem mC {far:Bool} {n:Nat} (h:aY far n<(cond far aR bm).length):(cond far aR bm)[aY far n]? =some ((aZ far n).1,(aZ far n).2):=by
 rw[aZ,List.getD_eq_getElem?_getD,au h];rfl
theorem kz (far:Bool) (n:Nat):(jE far n).length=(aZ far n).2:=by simp [jE]
theorem GM {t u:List Nat} {p:Nat} (h:t.drop p=u) (i:Nat):t.getD (p+i) 0=u.getD i 0:=by
 rw[← h,List.getD_eq_getElem?_getD,List.getD_eq_getElem?_getD,kI]
theorem cg {t u:List Nat} {p:Nat} (h:t.drop p=u) (hu:u≠[]∨p≤t.length):t.length=p+u.length:=by
 have:=congrArg List.length h;rw[a8] at this
 rcases hu with hu | hu
 ·have:u.length≠0:=fun h0=>hu (bG h0)
  omega
 ·omega
theorem fZ {t r:List Nat} {p v n:Nat} (h:t.drop p=(aE v n).reverse++r) (hv:v<2^n):vl t p n=v:=by
 refine rQ true v n hv _ fun i hi=> ?_
 rw[GM h,List.getD_eq_getElem?_getD,bK (by simp;exact hi)];rw[List.getD_eq_getElem?_getD];rfl
theorem tG {t r:List Nat} {p i f e v:Nat} {L:List (Nat × Nat)} (hi:L[i]? =some (f,e)) (hp:p≤t.length) (h:t.drop p=(aE v e).reverse++r) (hv:v<2^e):dD t L i p= .inr (p+e,f+v):=by
 have hl:=cg h (.inr hp);rw[dD,hi];simp only;rw[if_neg (by rw[hl];simp),fZ h hv]
theorem yH {t r:List Nat} {p i f e:Nat} {L:List (Nat × Nat)} (hi:L[i]? =some (f,e)) (hp:p≤t.length) (h:t.drop p=r) (hr:r.length<e):dD t L i p= .inl 2:=by
 have hl:=cg h (.inr hp);rw[dD,hi];simp only;rw[if_pos (by omega)]
theorem n9 {W:List (List Nat)} (pf:PF W) {i:Nat} {w:List Nat} (hi:W[i]? =some w):
  ∀ (r s q:List Nat),s++(r++q)=w→q≠[]→aX W s r=(s.length+r.length,.inr 2):=by
 intro r
 induction r with
 | nil=>intro s q _ _;rw[aX];rfl
 | cons c r ih=>
  intro s q hs hq;have hs':(s++[c])++(r++q)=w:=by rw[← hs];simp
  have hno:∀ j:Nat,W[j]? ≠some (s++[c]):=fun j hj=>by
   have hpre:(s++[c]) <+:w:=⟨r++q,hs'⟩
   by_cases hji:j=i
   ·subst hji;rw[hi] at hj;have e:w=s++[c]:=fv hj;rw[← hs'] at e;have:=congrArg List.length e;have hq2:q.length≠0:=fun h0=>hq (bG h0)
    simp at this;exact hq this.2
   ·exact pf j i _ _ hji hj hi km hpre
  have e2:W.any (fun w=>(s++[c]).isPrefixOf w)=true:=uA.2 ⟨w,aI hi,oK.2 ⟨r++q,hs'⟩⟩;rw[aX,pH hno,e2];simp only[if_true];rw[ih (s++[c]) q hs' hq];simp;omega
structure GoodW (A B:List (List Nat)):Prop where
 pa:PF A
 pb:PF B
 la:∀ i,i<288→∃ w,A[i]? =some w∧w≠[]
 lb:∀ i,i<30→∃ w,B[i]? =some w∧w≠[]
theorem getD_some {W:List (List Nat)} {i:Nat} {w:List Nat} (h:W[i]? =some w):W.getD i []=w:=by
 rw[List.getD_eq_getElem?_getD,h];rfl
theorem kA {W:List (List Nat)} (pf:PF W) {i:Nat} {w r:List Nat} (hi:W[i]? =some w) (hw:w≠[]):aX W [] (w++r)=(w.length,.inl i):=wG pf hi w [] r rfl hw
theorem cC {t a b:List Nat} {p:Nat} (h:t.drop p=a++b):t.drop (p+a.length)=b:=by
 rw[← kP,h,lO]
def okT (k:TokD) (out:List UInt8):Prop:=k.len=0∨(3≤k.len∧k.len≤258∧1≤k.dist∧k.dist≤out.length∧k.dist≤32768)
def putT (k:TokD) (out:List UInt8):List UInt8:=if k.len=0 then out++[k.lit] else fL k.dist.toNat k.len.toNat out
theorem yI (c:UInt8):UInt8.ofNat c.toNat=c:=UInt8.ofNat_toNat
theorem eP {a b u:List Nat} (h:u <+:a++b):(∃ q,q≠[]∧u++q=a)∨∃ v,u=a++v∧v <+:b:=by
 obtain⟨z,hz⟩:=h
 rcases List.append_eq_append_iff.1 hz with ⟨c,hc,hd⟩ | ⟨c,hc,hd⟩
 ·by_cases h0:c=[]
  ·subst h0;rw[cy] at hc;exact .inr ⟨[],by rw[cy];exact hc.symm,List.nil_prefix⟩
  ·exact .inl ⟨c,h0,hc.symm⟩
 ·exact .inr ⟨c,hc,⟨z,hd.symm⟩⟩
theorem oc (A B:List (List Nat)) (k:TokD) (l:List TokD):bZ A B (k::l)=cM A B k++bZ A B l:=by
 rw[bZ,bZ,fR,List.append_assoc]
def FA:List (List Nat):=aF dR
def FB:List (List Nat):=aF d7
theorem qp:OkC dR:=by decide +kernel
theorem qq:OkC d7:=by decide +kernel
theorem GN:dJ (dR.map fun(n:Nat)=>(n:Int))=dR:=by decide +kernel
theorem GO:dJ (d7.map fun(n:Nat)=>(n:Int))=d7:=by decide +kernel
theorem GP:fullC dR=true:=by decide +kernel
theorem qr:∀ n∈dR,n≤30:=by decide +kernel
theorem qs:∀ n∈d7,n≤30:=by decide +kernel
theorem GQ:∀ n∈dR,0<n:=by decide +kernel
theorem GR:∀ n∈d7,0<n:=by decide +kernel
theorem GS:du (dR.map fun(n:Nat)=>(n:Int))=(FA,true,0):=by
 rw[du,GN,if_neg,if_pos qp,GP];rfl;rintro⟨x,hx,h⟩;obtain⟨n,hn,rfl⟩:=cu.1 hx;have:=qr n hn;omega
theorem GT:∃ b,du (d7.map fun(n:Nat)=>(n:Int))=(FB,b,0):=by
 rw[du,GO,if_neg,if_pos qq];exact⟨_,rfl⟩;rintro⟨x,hx,h⟩;obtain⟨n,hn,rfl⟩:=cu.1 hx;have:=qs n hn;omega
theorem yJ (how:Nat):dd dR how= .inr FA:=by
 rw[dd,GS,if_neg (by simp),if_neg (by simp)]
theorem yK:dd d7 2= .inr FB:=by
 obtain⟨b,hb⟩:=GT;rw[dd,hb,if_neg (by simp),if_neg (by simp)]
theorem iG:GoodW FA FB:=by
 refine⟨lj qp qr,lj qq qs,fun i hi=> ?_,fun i hi=> ?_⟩
 ·have hl:i<dR.length:=by rw[jY];exact hi
  refine⟨_,sC hl,fun h0=> ?_⟩;have:=congrArg List.length h0;rw[iU,List.getD_eq_getElem?_getD,au hl] at this;have h2:=GQ _ (cT hl);simp at this;omega
 ·have hl:i<d7.length:=by rw[jZ];exact hi
  refine⟨_,sC hl,fun h0=> ?_⟩;have:=congrArg List.length h0;rw[iU,List.getD_eq_getElem?_getD,au hl] at this;have h2:=GR _ (cT hl);simp at this;omega
theorem yL:∀ v∈FA,Bit v:=ju dR
theorem GU:∀ v∈FB,Bit v:=ju d7
theorem tH (c:UInt8) (r:List UInt8):ag true (c::r)=(aE c.toNat 8).reverse++ag true r:=by simp [ag,jN]
theorem GV {t r:List Nat} {p:Nat} (c:UInt8) (h:t.drop p=(aE c.toNat 8).reverse++r):vl t p 8=c.toNat:=fZ h (bR c)
theorem GW {t r:List Nat} {most:Nat}:∀ (x:List UInt8) (p:Nat) (out:List UInt8),p≤t.length→t.drop p=ag true x++r→out.length≤most→
  fi t most x.length p out=if most<out.length+x.length then .inl 8 else .inr (p+8*x.length,out++x):=by
 intro x
 induction x with
 | nil=>intro p out hp h ho;rw[bI,fi,if_neg (by omega)];simp
 | cons c x ih=>
  intro p out hp h ho;rw[tH,List.append_assoc] at h;have hl:=cg h (.inr hp);rw[ae,show(aE c.toNat 8).reverse.length=8 by simp] at hl;rw[aO,fi,if_neg (by omega)]
  by_cases hm:most≤out.length
  ·rw[if_pos hm,if_pos (by omega)]
  ·rw[if_neg hm,GV c h,yI];have h2:=cC h;rw[show(aE c.toNat 8).reverse.length=8 by simp] at h2;rw[ih (p+8) (out++[c]) (by omega) h2 (by simp;omega),ae,eI,List.append_assoc,show p+8+8*x.length=p+8*(x.length+1) by omega,show out.length+1+x.length=out.length+(x.length+1) by omega];rfl
theorem GX {k:TokD}:Bit (cM FA FB k):=by
 have hA:∀ i,Bit (FA.getD i []):=fun i=>by
  rw[List.getD_eq_getElem?_getD];cases e:FA[i]? with
  | none=>intro b hb;simp at hb
  | some w=>exact yL w (aI e)
 have hB:∀ i,Bit (FB.getD i []):=fun i=>by
  rw[List.getD_eq_getElem?_getD];cases e:FB[i]? with
  | none=>intro b hb;simp at hb
  | some w=>exact GU w (aI e)
 unfold cM
 split
 ·exact hA _
 ·exact(hA _).append ((dp _ _).reverse.append ((hB _).append (dp _ _).reverse))
theorem GY (l:List TokD):Bit (bZ FA FB l):=by
 induction l with
 | nil=>
  rw[bZ];obtain⟨w,hw,_⟩:=iG.la 256 (by omega);rw[getD_some hw];exact yL w (aI hw)
 | cons k l ih=>rw[oc];exact GX.append ih
theorem GZ (bs:List UInt8) (m:Nat):ag true (bs.take m)=(ag true bs).take (8*m):=by
 conv=>rhs;rw[← ez m bs,ke]
 by_cases h:m≤bs.length
 ·rw[mW (by rw[bM,aL,j9 h])]
 ·rw[AC (by omega),cW (l:=bs) (by omega)];rw[show ag true []=[] from rfl,cy,cW (by rw[bM];omega)]
theorem G2 (b:List UInt8):∀ (n i d:Nat),1≤d→d≤i→i+n≤b.length→(∀ t,t<n→b[i+t]? =b[i+t-d]?)→fL d n (b.take i)=b.take (i+n):=by
 intro n
 induction n with
 | zero=>intro i d _ _ _ _;rfl
 | succ n ih=>
  intro i d h1 h2 h3 h;have hl:(b.take i).length=i:=by rw[aL];omega
  have hi:i<b.length:=by omega
  have h0:=h 0 (by omega);rw[fQ,au hi] at h0;have e:(b.take i).getD (i-d) 0=b[i]:=by
   rw[List.getD_eq_getElem?_getD,fP,if_pos (by omega),← h0];rfl
  rw[fL,hl,e,← List.take_succ_eq_append_getElem hi,ih (i+1) d h1 (by omega) (by omega) (fun t ht=>by
   have:=h (t+1) (by omega);rw[show i+1+t=i+(t+1) by omega];exact this)]
  congr 1;omega
def dU (A B:List (List Nat)) (k:TokD):Prop:=
 if k.len=0 then ∃ w,A[k.lit.toNat]? =some w∧w≠[] else(∃ w,A[257+aY false k.len.toNat]? =some w∧w≠[])∧∃ w,B[aY true k.dist.toNat]? =some w∧w≠[]
structure GoodU (A B:List (List Nat)):Prop where
 pa:PF A
 pb:PF B
 eob:∃ w,A[256]? =some w∧w≠[]
theorem yM {t r:List Nat} {A B:List (List Nat)} (G:GoodU A B) {k:TokD} (hus:dU A B k) {out:List UInt8} (hk:okT k out) {p most:Nat} (hp:p≤t.length) (h:t.drop p=cM A B k++r):
  gS t A B most p out=if most<(putT k out).length then .inl 8 else .inr (p+(cM A B k).length,putT k out,false):=by
 unfold cM at h ⊢;unfold putT;rw[gS];unfold dU at hus
 by_cases h0:k.len=0
 ·rw[if_pos h0] at h ⊢;rw[if_pos h0];have hlt:=bR k.lit;have hlt:k.lit.toNat<256:=hlt;rw[if_pos h0] at hus;obtain⟨w,hw,hne⟩:=hus;rw[getD_some hw] at h ⊢;rw[h,kA G.pa hw hne];simp only;rw[if_neg (by omega),if_pos hlt,yI]
  by_cases hm:most≤out.length
  ·rw[if_pos hm,if_pos (by simp;omega)]
  ·rw[if_neg hm,if_neg (by simp;omega)]
 ·obtain⟨h1,h2,h3,h4,h5⟩:=hk.resolve_left h0;rw[if_neg h0] at h ⊢;rw[if_neg h0];obtain⟨n,hn⟩:∃ n:Nat,k.len=n:=⟨k.len.toNat,by omega⟩;obtain⟨d,hd⟩:∃ d:Nat,k.dist=d:=⟨k.dist.toNat,by omega⟩;rw[hn] at h h1 h2 ⊢;rw[hd] at h h3 h4 h5 ⊢;simp only[eT] at h ⊢;obtain⟨p1,p2,p3⟩:=ky (n:=n) (by omega) (by omega);obtain⟨q1,q2,q3⟩:=lz (n:=d) (by omega) (by omega);rw[if_neg h0,hn,hd] at hus;simp only[eT] at hus;obtain⟨⟨w,hw,hne⟩,u,hu,hne'⟩:=hus;rw[getD_some hw,getD_some hu] at h ⊢;rw[List.append_assoc,List.append_assoc,List.append_assoc] at h;rw[h,kA G.pa hw hne];simp only;rw[if_neg (by omega),if_neg (by omega),show 257+aY false n-257=aY false n by omega];have e1:=cC h;have l1:p+w.length≤t.length:=by have:=cg h (.inr hp);rw[ae] at this;omega
  have g1:bm[aY false n]? =some ((aZ false n).1,(aZ false n).2):=mC (far:=false) (by show _<29;omega);rw[tG g1 l1 e1 p3];simp only;have e2:=cC e1;rw[kz] at e2;have l2:p+w.length+(aZ false n).2≤t.length:=by have:=cg e1 (.inr l1);rw[ae,kz] at this;omega
  have e3:=cC e2;have l3:p+w.length+(aZ false n).2+u.length≤t.length:=by have:=cg e2 (.inr l2);rw[ae] at this;omega
  have g2:aR[aY true d]? =some ((aZ true d).1,(aZ true d).2):=mC (far:=true) (by show _<30;omega);rw[ja,e2,kA G.pb hu hne'];simp only;rw[tG g2 l3 e3 q3];simp only;rw[show(aZ true d).1+(d-(aZ true d).1)=d by omega,show(aZ false n).1+(n-(aZ false n).1)=n by omega,if_neg (by omega),qk]
  by_cases hm:most<out.length+n
  ·rw[if_pos hm,if_pos hm]
  ·rw[if_neg hm,if_neg hm];simp only[ae,kz]
   congr 2
   omega
theorem G3 {t u:List Nat} {A B:List (List Nat)} (G:GoodU A B) {k:TokD} (hus:dU A B k) {out:List UInt8} (hk:okT k out) {p most:Nat} (hp:p≤t.length) (h:t.drop p=u) (hu:∃ q,q≠[]∧u++q=cM A B k):
  gS t A B most p out= .inl 2:=by
 obtain⟨q,hq,hu⟩:=hu;unfold cM at hu;rw[gS,h];unfold dU at hus
 by_cases h0:k.len=0
 ·rw[if_pos h0] at hu;have hlt:k.lit.toNat<256:=bR k.lit;rw[if_pos h0] at hus;obtain⟨w,hw,hne⟩:=hus;rw[getD_some hw] at hu;rw[n9 G.pa hw u [] q (by rw[bH];exact hu) hq]
 ·obtain⟨h1,h2,h3,h4,h5⟩:=hk.resolve_left h0;rw[if_neg h0] at hu;obtain⟨n,hn⟩:∃ n:Nat,k.len=n:=⟨k.len.toNat,by omega⟩;obtain⟨d,hd⟩:∃ d:Nat,k.dist=d:=⟨k.dist.toNat,by omega⟩;rw[hn] at hu h1 h2;rw[hd] at hu h3 h4 h5;simp only[eT] at hu;obtain⟨p1,p2,p3⟩:=ky (n:=n) (by omega) (by omega);obtain⟨q1,q2,q3⟩:=lz (n:=d) (by omega) (by omega);rw[if_neg h0,hn,hd] at hus;simp only[eT] at hus;obtain⟨⟨w,hw,hne⟩,v,hv,hne'⟩:=hus;rw[getD_some hw,getD_some hv] at hu;have g1:bm[aY false n]? =some ((aZ false n).1,(aZ false n).2):=mC (far:=false) (by show _<29;omega);have g2:aR[aY true d]? =some ((aZ true d).1,(aZ true d).2):=mC (far:=true) (by show _<30;omega)
  rcases eP ⟨q,hu⟩ with ⟨q',hq',hu'⟩ | ⟨u1,rfl,hu1⟩
  ·rw[n9 G.pa hw u [] q' (by rw[bH];exact hu') hq']
  rw[kA G.pa hw hne];simp only;rw[if_neg (by omega),if_neg (by omega),show 257+aY false n-257=aY false n by omega];have e1:=cC h;have l1:p+w.length≤t.length:=by have:=cg h (.inr hp);rw[ae] at this;omega
  rw[List.append_assoc] at hu;have hu:=eh hu
  rcases eP ⟨q,hu⟩ with ⟨q',hq',hu'⟩ | ⟨u2,rfl,hu2⟩
  ·have hl:=congrArg List.length hu';have hq2:q'.length≠0:=fun h0=>hq' (bG h0)
   rw[ae,kz] at hl;rw[yH g1 l1 e1 (by omega)]
  rw[tG g1 l1 e1 p3];simp only;rw[List.append_assoc] at hu;have hu:=eh hu;have e2:=cC e1;rw[kz] at e2;have l2:p+w.length+(aZ false n).2≤t.length:=by have:=cg e1 (.inr l1);rw[ae,kz] at this;omega
  rw[ja,e2]
  rcases eP ⟨q,hu⟩ with ⟨q',hq',hu'⟩ | ⟨u3,rfl,hu3⟩
  ·rw[n9 G.pb hv u2 [] q' (by rw[bH];exact hu') hq']
  rw[kA G.pb hv hne'];simp only;rw[List.append_assoc] at hu;have hu:=eh hu;have e3:=cC e2;have l3:p+w.length+(aZ false n).2+v.length≤t.length:=by have:=cg e2 (.inr l2);rw[ae] at this;omega
  have hl:=congrArg List.length hu;have hq2:q.length≠0:=fun h0=>hq (bG h0)
  rw[ae,kz] at hl;rw[yH g2 l3 e3 (by omega)]
theorem yN {A B:List (List Nat)} (G:GoodU A B) {k:TokD} (hus:dU A B k) {out:List UInt8} (hk:okT k out):1≤(cM A B k).length:=by
 unfold cM;have pos:∀ w:List Nat,w≠[]→1≤w.length:=fun w hw=>by
  have:w.length≠0:=fun h0=>hw (bG h0)
  omega
 unfold dU at hus
 by_cases h0:k.len=0
 ·rw[if_pos h0];have hlt:k.lit.toNat<256:=bR k.lit;rw[if_pos h0] at hus;obtain⟨w,hw,hne⟩:=hus;rw[getD_some hw];exact pos w hne
 ·obtain⟨h1,h2,h3,h4,h5⟩:=hk.resolve_left h0;rw[if_neg h0];obtain⟨p1,p2,p3⟩:=ky (n:=k.len.toNat) (by omega) (by omega);rw[if_neg h0] at hus;obtain⟨⟨w,hw,hne⟩,_⟩:=hus;rw[getD_some hw,ae];have:=pos w hne;omega
structure StepT (b:List UInt8) (i:Nat) (k:TokD) (j:Nat):Prop where
 lt:i<j
 le:j≤b.length
 ok:okT k (b.take i)
 put:putT k (b.take i)=b.take j
def TellsTo (b:List UInt8):Nat→List TokD→Nat→Prop
 | i,[],j=>i=j
 | i,k::r,j=>∃ m,StepT b i k m∧TellsTo b m r j
theorem TellsTo.le {b:List UInt8}:∀ {l:List TokD} {i j:Nat},TellsTo b i l j→i≤b.length→i≤j∧j≤b.length∧l.length≤j-i:=by
 intro l
 induction l with
 | nil=>intro i j h hi;cases h;simp;exact hi
 | cons k r ih=>
  rintro i j ⟨m,h1,h2⟩ hi;obtain⟨g1,g2,g3⟩:=ih h2 h1.le;have:=h1.lt;rw[aO];omega
theorem TellsTo.app {b:List UInt8}:∀ {l r:List TokD} {i j m:Nat},TellsTo b i l j→TellsTo b j r m→TellsTo b i (l++r) m:=by
 intro l
 induction l with
 | nil=>intro r i j m h h';cases h;exact h'
 | cons k l ih=>rintro r i j m ⟨x,h1,h2⟩ h';exact⟨x,h1,ih h2 h'⟩
theorem TellsTo.split {b:List UInt8}:∀ (n:Nat) {l:List TokD} {i m:Nat},TellsTo b i l m→∃ j,TellsTo b i (l.take n) j∧TellsTo b j (l.drop n) m:=by
 intro n
 induction n with
 | zero=>intro l i m h;exact⟨i,rfl,h⟩
 | succ n ih=>
  intro l i m h;cases l with
  | nil=>cases h;exact⟨i,rfl,rfl⟩
  | cons k l=>
   obtain⟨x,h1,h2⟩:=h;obtain⟨j,h3,h4⟩:=ih h2;exact⟨j,⟨x,h1,h3⟩,h4⟩
theorem mD {b:List UInt8} {j:Nat} (h:j≤b.length):(b.take j).length=j:=by rw[aL];omega
theorem yO {t r:List Nat} {A B:List (List Nat)} (G:GoodU A B) {most:Nat} {b:List UInt8}:∀ (l:List TokD) (f p i j:Nat),TellsTo b i l j→(∀ k∈l,dU A B k)→i≤b.length→p≤t.length→t.drop p=bZ A B l++r→l.length<f→i≤most→
  eO t A B most f p (b.take i)=if most<j then .inl 8 else .inr (p+(bZ A B l).length,b.take j):=by
 intro l
 induction l with
 | nil=>
  intro f p i j h _ hi hp ht hf hom;obtain⟨f,rfl⟩:∃ g,f=g+1:=⟨f-1,by simp at hf;omega⟩;cases h;obtain⟨w,hw,hne⟩:=G.eob;have e:bZ A B []=w:=by rw[bZ,getD_some hw];rfl
  rw[e] at ht ⊢;rw[eO,gS,ht,kA G.pa hw hne];simp only;rw[if_pos trivial,if_neg (by omega)]
 | cons k l ih=>
  intro f p i j h hu hi hp ht hf hom;obtain⟨f,rfl⟩:∃ g,f=g+1:=⟨f-1,by simp at hf;omega⟩;obtain⟨m,h1,h2⟩:=h;obtain⟨g1,g2,_⟩:=h2.le h1.le;rw[oc,List.append_assoc] at ht;rw[eO,yM G (hu k (by simp)) h1.ok hp ht,h1.put,mD h1.le]
  by_cases hm:most<m
  ·rw[if_pos hm,if_pos (by omega)]
  ·rw[if_neg hm];simp only;have l1:p+(cM A B k).length≤t.length:=by have:=cg ht (.inr hp);rw[ae] at this;omega
   rw[ih f (p+(cM A B k).length) m j h2 (fun k hk=>hu k (by simp [hk])) h1.le l1 (cC ht) (by simp at hf;omega) (by omega),oc,show(cM A B k++bZ A B l).length=(cM A B k).length+(bZ A B l).length from ae,da]
theorem yP {t:List Nat} {A B:List (List Nat)} (G:GoodU A B) {most:Nat} {b:List UInt8}:∀ (l:List TokD) (f p i j:Nat) (u:List Nat),TellsTo b i l j→(∀ k∈l,dU A B k)→i≤b.length→j≤most→p≤t.length→t.drop p=u→(∃ q,q≠[]∧u++q=bZ A B l)→u.length<f→
  eO t A B most f p (b.take i)= .inl 2:=by
 intro l
 induction l with
 | nil=>
  intro f p i j u h _ _ _ hp ht hu hf;obtain⟨f,rfl⟩:∃ g,f=g+1:=⟨f-1,by omega⟩;obtain⟨q,hq,hu⟩:=hu;obtain⟨w,hw,hne⟩:=G.eob;have e:bZ A B []=w:=by rw[bZ,getD_some hw];rfl
  rw[e] at hu;rw[eO,gS,ht,n9 G.pa hw u [] q (by rw[bH];exact hu) hq]
 | cons k l ih=>
  intro f p i j u h hus hi hj hp ht hu hf;obtain⟨f,rfl⟩:∃ g,f=g+1:=⟨f-1,by omega⟩;obtain⟨m,h1,h2⟩:=h;obtain⟨g1,g2,_⟩:=h2.le h1.le;obtain⟨q,hq,hu⟩:=hu;rw[oc] at hu
  rcases eP ⟨q,hu⟩ with ⟨q',hq',hu'⟩ | ⟨u1,rfl,hu1⟩
  ·rw[eO,G3 G (hus k (by simp)) h1.ok hp ht ⟨q',hq',hu'⟩]
  ·have htp:=yN G (hus k (by simp)) h1.ok;rw[eO,yM G (hus k (by simp)) h1.ok hp ht,h1.put,mD h1.le,if_neg (by omega)];simp only;have l1:p+(cM A B k).length≤t.length:=by have:=cg ht (.inr hp);rw[ae] at this;omega
   rw[List.append_assoc] at hu;rw[ae] at hf;exact ih f _ m j u1 h2 (fun k hk=>hus k (by simp [hk])) h1.le hj l1 (cC ht) ⟨q,hq,eh hu⟩ (by omega)
theorem yQ {A B:List (List Nat)} (G:GoodU A B) {b:List UInt8}:∀ (l:List TokD) (i j:Nat),TellsTo b i l j→(∀ k∈l,dU A B k)→l.length<(bZ A B l).length:=by
 intro l
 induction l with
 | nil=>
  intro i j h _;obtain⟨w,hw,hne⟩:=G.eob;have e:bZ A B []=w:=by rw[bZ,getD_some hw];rfl
  rw[e];have:w.length≠0:=fun h0=>hne (bG h0)
  simp;omega
 | cons k l ih=>
  rintro i j ⟨m,h1,h2⟩ hu;have:=ih _ _ h2 fun k hk=>hu k (by simp [hk])
  have:=yN G (hu k (by simp)) h1.ok;rw[oc,ae,aO];omega
structure PreS (b:List UInt8) (x:List Nat) (j n:Nat):Prop where
 bit:Bit x
 le:n≤x.length
 jle:j≤b.length
 all:∀ (r:List Nat) (most f:Nat),inflF (x++r) most (n+f) 0 []=if most<j then .inl 8 else inflF (x++r) most f x.length (b.take j)
 cut:∀ (u:List Nat) (most f:Nat),(∃ q,q≠[]∧u++q=x)→j≤most→u.length<f→inflF u most f 0 []= .inl 2
structure BlkS (b:List UInt8) (p i j:Nat) (last:Bool) (x:List Nat):Prop where
 bit:Bit x
 pos:1≤x.length
 lo:i≤j
 jle:j≤b.length
 all:∀ (t r:List Nat) (most f:Nat),p≤t.length→t.drop p=x++r→i≤most→
  inflF t most (f+1) p (b.take i)=if most<j then .inl 8 else if last then .inr (p+x.length,b.take j) else inflF t most f (p+x.length) (b.take j)
 cut:∀ (t u:List Nat) (most f:Nat),p≤t.length→t.drop p=u→(∃ q,q≠[]∧u++q=x)→j≤most→inflF t most (f+1) p (b.take i)= .inl 2
structure DoneS (b:List UInt8) (x:List Nat) (n:Nat):Prop where
 bit:Bit x
 le:n≤x.length
 all:∀ (r:List Nat) (most f:Nat),n≤f→inflF (x++r) most f 0 []=if most<b.length then .inl 8 else .inr (x.length,b)
 cut:∀ (u:List Nat) (most f:Nat),(∃ q,q≠[]∧u++q=x)→b.length≤most→u.length<f→inflF u most f 0 []= .inl 2
theorem PreS.nil (b:List UInt8):PreS b [] 0 0:=
 ⟨fun _ h=>by simp at h,by simp,by simp,fun r most f=>by simp,fun u most f ⟨q,hq,hu⟩ _ _=>by
  have:=uE.1 hu;exact absurd this.2 hq⟩
theorem PreS.more {b:List UInt8} {x y:List Nat} {i j n:Nat} (h:PreS b x i n) (k:BlkS b x.length i j false y):PreS b (x++y) j (n+1):=by
 have h1:=h.le;have h2:=k.pos;have h3:=k.lo;refine⟨h.bit.append k.bit,by rw[ae];omega,k.jle,fun r most f=> ?_,fun u most f hu hj hf=> ?_⟩
 ·rw[List.append_assoc,show n+1+f=n+(f+1) by omega,h.all]
  by_cases hm:most<i
  ·rw[if_pos hm,if_pos (by omega)]
  ·rw[if_neg hm,k.all (x++(y++r)) r most f (by simp) (by simp) (by omega)];simp only[ae,AL,if_false]
 ·obtain⟨q,hq,hu⟩:=hu
  rcases eP ⟨q,hu⟩ with ⟨q',hq',hu'⟩ | ⟨v,rfl,hv⟩
  ·exact h.cut u most f ⟨q',hq',hu'⟩ (by omega) (by omega)
  ·rw[ae] at hf;obtain⟨f,rfl⟩:∃ g,f=n+(g+1):=⟨f-n-1,by omega⟩;rw[List.append_assoc] at hu;rw[h.all,if_neg (by omega)];exact k.cut _ v most f (by simp) (by simp) ⟨q,hq,eh hu⟩ hj
theorem PreS.last {b:List UInt8} {x y:List Nat} {i j n:Nat} (h:PreS b x i n) (k:BlkS b x.length i j true y) (hj:j=b.length):DoneS b (x++y) (n+1):=by
 subst hj;have h1:=h.le;have h2:=k.pos;have h3:=k.lo;refine⟨h.bit.append k.bit,by rw[ae];omega,fun r most f hf=> ?_,fun u most f hu hj hf=> ?_⟩
 ·obtain⟨f,rfl⟩:∃ g,f=n+(g+1):=⟨f-n-1,by omega⟩;rw[List.append_assoc,h.all]
  by_cases hm:most<i
  ·rw[if_pos hm,if_pos (by omega)]
  ·rw[if_neg hm,k.all (x++(y++r)) r most f (by simp) (by simp) (by omega)];simp only[ae,if_true,cS]
 ·obtain⟨q,hq,hu⟩:=hu
  rcases eP ⟨q,hu⟩ with ⟨q',hq',hu'⟩ | ⟨v,rfl,hv⟩
  ·exact h.cut u most f ⟨q',hq',hu'⟩ (by omega) (by omega)
  ·rw[ae] at hf;obtain⟨f,rfl⟩:∃ g,f=n+(g+1):=⟨f-n-1,by omega⟩;rw[List.append_assoc] at hu;rw[h.all,if_neg (by omega)];exact k.cut _ v most f (by simp) (by simp) ⟨q,hq,eh hu⟩ hj
theorem qt (low:Bool) (l:List Nat):(az low l).length=(l.length+7)/8:=by simp [az]
theorem DoneS.infl {b:List UInt8} {x:List Nat} {n:Nat} (h:DoneS b x n) (ex:List UInt8) (most:Int):
  fY (az true x++ex) most=if most<0 then .inl 1 else if most.toNat<b.length then .inl 8 else .inr (b,(az true x).length):=by
 obtain⟨z,hz⟩:=xf true h.bit;have hn:=h.le;unfold fY
 by_cases h0:most<0
 ·rw[if_pos h0,if_pos h0]
 ·rw[if_neg h0,if_neg h0,ke,hz,List.append_assoc,h.all _ _ _ (by rw[ae,qt];omega)]
  by_cases hm:most.toNat<b.length
  ·rw[if_pos hm,if_pos hm]
  ·rw[if_neg hm,if_neg hm,qt]
theorem DoneS.short {b:List UInt8} {x:List Nat} {n:Nat} (h:DoneS b x n) {m:Nat} (hm:m<(az true x).length) (most:Int) (hb:(b.length:Int)≤most):
  fY ((az true x).take m) most= .inl 2:=by
 obtain⟨z,hz⟩:=xf true h.bit;have hn:=h.le;rw[qt] at hm;have hlen:8*m<x.length:=by omega
 have e:ag true ((az true x).take m)=x.take (8*m):=by
  rw[GZ,hz,K8 (by omega)]
 unfold fY;rw[if_neg (by omega),e];have hne:x.drop (8*m)≠[]:=fun h0=>by
  have:=congrArg List.length h0;rw[a8,bI] at this;omega
 have hf:(x.take (8*m)).length<8*((az true x).take m).length+1:=by
  rw[aL,aL,qt];omega
 rw[h.cut (x.take (8*m)) most.toNat _ ⟨x.drop (8*m),hne,ez _ _⟩ (by omega) hf]
def headL (last:Bool) (kind:Nat):List Nat:=(aE (2*kind+last.toNat) 3).reverse
theorem gx (last:Bool) (kind:Nat):(headL last kind).length=3:=by simp [headL]
theorem tI {b:List UInt8} {p i j kind:Nat} {last:Bool} {x:List Nat} (hk:kind<4) (hb:Bit x) (lo:i≤j) (hj:j≤b.length)
  (all:∀ (t r:List Nat) (most:Nat),p+3≤t.length→t.drop (p+3)=x++r→i≤most→fX t most kind (p+3) (b.take i)=if most<j then .inl 8 else .inr (p+3+x.length,b.take j))
  (cut:∀ (t u:List Nat) (most:Nat),p+3≤t.length→t.drop (p+3)=u→(∃ q,q≠[]∧u++q=x)→j≤most→fX t most kind (p+3) (b.take i)= .inl 2):BlkS b p i j last (headL last kind++x):=by
 have hl3:=gx last kind;have hlast:last.toNat≤1:=by cases last <;> simp
 have hv:2*kind+last.toNat<2^3:=by omega
 refine⟨(dp _ _).reverse.append hb,by rw[ae,hl3];omega,lo,hj,fun t r most f hp h hi=> ?_,fun t u most f hp h hu hm=> ?_⟩
 ·rw[List.append_assoc] at h;have hlen:=cg h (.inr hp);rw[ae,hl3] at hlen;have hvl:vl t p 3=2*kind+last.toNat:=fZ h hv;have h2:=cC h;rw[hl3] at h2;rw[inflF,if_neg (by omega),hvl,show(2*kind+last.toNat)/2=kind by omega,all t r most (by omega) h2 hi]
  by_cases hm:most<j
  ·rw[if_pos hm,if_pos hm]
  ·rw[if_neg hm,if_neg hm,ae,hl3];simp only;cases last with
   | true=>simp [show(2*kind+1)%2=1 by omega];omega
   | false=>simp [da]
 ·obtain⟨q,hq,hu⟩:=hu;rw[inflF]
  rcases eP ⟨q,hu⟩ with ⟨q',hq',hu'⟩ | ⟨v,rfl,hv'⟩
  ·have hl:=congrArg List.length hu';rw[ae,hl3] at hl;have hq2:q'.length≠0:=fun h0=>hq' (bG h0)
   have:=cg h (.inr hp);rw[if_pos (by omega)]
  ·have hlen:=cg h (.inr hp);rw[ae,hl3] at hlen;have hvl:vl t p 3=2*kind+last.toNat:=fZ h hv;have h2:=cC h;rw[hl3] at h2;rw[List.append_assoc] at hu;rw[if_neg (by omega),hvl,show(2*kind+last.toNat)/2=kind by omega,cut t v most (by omega) h2 ⟨q,hq,eh hu⟩ hm]
theorem tJ:GoodU FA FB:=⟨iG.pa,iG.pb,iG.la 256 (by omega)⟩
theorem G4 {k:TokD} {out:List UInt8} (h:okT k out):dU FA FB k:=by
 unfold dU
 by_cases h0:k.len=0
 ·rw[if_pos h0];exact iG.la _ (by have:=bR k.lit;omega)
 ·rw[if_neg h0];obtain⟨h1,h2,h3,h4,h5⟩:=h.resolve_left h0;exact⟨iG.la _ (by have:=(ky (n:=k.len.toNat) (by omega) (by omega)).1;omega),iG.lb _ (by have:=(lz (n:=k.dist.toNat) (by omega) (by omega)).1;omega)⟩
theorem G5 {b:List UInt8} {A B:List (List Nat)} (hu:∀ (k:TokD) (out:List UInt8),okT k out→dU A B k):∀ {l:List TokD} {i j:Nat},TellsTo b i l j→∀ k∈l,dU A B k:=by
 intro l
 induction l with
 | nil=>intro i j _ k hk;cases hk
 | cons x l ih=>
  rintro i j ⟨m,h1,h2⟩ k hk
  rcases List.mem_cons.1 hk with rfl | hk
  ·exact hu _ _ h1.ok
  ·exact ih h2 k hk
theorem G6 {b:List UInt8} {i j p:Nat} {last:Bool} {l:List TokD} (h:TellsTo b i l j) (hi:i≤b.length):BlkS b p i j last (headL last 1++bZ FA FB l):=by
 obtain⟨g1,g2,_⟩:=h.le hi;have hus:=G5 (A:=FA) (B:=FB) (fun k out=>G4) h;have hlen:=yQ tJ l i j h hus;refine tI (by omega) (GY l) g1 g2 (fun t r most hp ht hm=> ?_) (fun t u most hp ht hu hm=> ?_)
 ·have hl:=cg ht (.inr hp);rw[ae] at hl;rw[fX,if_neg (by omega),if_pos rfl,hU,yJ];simp only;rw[yK];simp only;rw[yO tJ l _ _ i j h hus hi hp ht (by omega) hm]
 ·have hl:=cg ht (.inr hp);rw[fX,if_neg (by omega),if_pos rfl,hU,yJ];simp only;rw[yK];simp only;exact yP tJ l _ _ i j u h hus hi hm hp ht hu (by omega)
theorem G7 {t:List Nat} {most:Nat}:∀ (x:List UInt8) (p:Nat) (u q:List Nat) (out:List UInt8),p≤t.length→t.drop p=u→u++q=ag true x→q≠[]→out.length+x.length≤most→
  fi t most x.length p out= .inl 2:=by
 intro x
 induction x with
 | nil=>
  intro p u q out hp h hu hq;exact absurd (uE.1 hu).2 hq
 | cons c x ih=>
  intro p u q out hp h hu hq ho;have hl:=cg h (.inr hp);rw[aO] at ho;rw[tH] at hu;rw[aO,fi]
  rcases eP ⟨q,hu⟩ with ⟨q',hq',hu'⟩ | ⟨v,rfl,hv⟩
  ·have hl2:=congrArg List.length hu';rw[ae,show(aE c.toNat 8).reverse.length=8 by simp] at hl2;have hq2:q'.length≠0:=fun h0=>hq' (bG h0)
   rw[if_pos (by omega)]
  ·rw[ae,show(aE c.toNat 8).reverse.length=8 by simp] at hl;rw[if_neg (by omega),if_neg (by omega)];have h2:=cC h;rw[show(aE c.toNat 8).reverse.length=8 by simp] at h2;rw[List.append_assoc] at hu;exact ih (p+8) v q _ (by omega) h2 (eh hu) hq (by simp;omega)
def storedL (p:Nat) (x:List UInt8):List Nat:=
 List.replicate ((8-p%8)%8) 0++((aE x.length 16).reverse++((aE (65535-x.length) 16).reverse++ag true x))
theorem yR {b:List UInt8} {i j p:Nat} {last:Bool} (hij:i≤j) (hj:j≤b.length) (h64:j-i≤65535):BlkS b p i j last (headL last 0++storedL (p+3) ((b.drop i).take (j-i))):=by
 obtain⟨x,hx⟩:∃ x,(b.drop i).take (j-i)=x:=⟨_,rfl⟩;have hxl:x.length=j-i:=by rw[← hx,aL,a8];omega
 have hbx:b.take i++x=b.take j:=by
  rw[← hx,show b.take j=b.take (i+(j-i)) by congr 1;omega,q8]
 rw[hx];have hbit:Bit (storedL (p+3) x):=(lT _).append ((dp _ _).reverse.append ((dp _ _).reverse.append (oT _ _)));have hq:p+3+(8-(p+3)%8)%8=(p+3+7)/8*8:=by omega
 have hn:x.length<2^16:=by omega
 have hm16:65535-x.length<2^16:=by omega
 have hrl:(List.replicate ((8-(p+3)%8)%8) 0:List Nat).length=(8-(p+3)%8)%8:=by simp
 have hwl:∀ v,(aE v 16).reverse.length=16:=fun v=>by simp
 have hbl:(ag true x).length=8*x.length:=bM _ _;refine tI (by omega) hbit hij hj (fun t r most hp ht hm=> ?_) (fun t u most hp ht hu hm=> ?_)
 ·unfold storedL at ht ⊢;rw[List.append_assoc] at ht;have h1:=cC ht;rw[hrl,hq,List.append_assoc] at h1;have l1:(p+3+7)/8*8≤t.length:=by have:=cg ht (.inr hp);rw[ae,hrl] at this;omega
  have h2:=cC h1;rw[hwl,List.append_assoc] at h2;have l2:=cg h1 (.inr l1);rw[ae,hwl,ae,ae,hwl] at l2;have h3:=cC h2;rw[hwl] at h3;have v1:vl t ((p+3+7)/8*8) 16=x.length:=fZ h1 hn;have v2:vl t ((p+3+7)/8*8+16) 16=65535-x.length:=fZ h2 hm16;rw[fX,if_pos rfl,jC]
  (try simp only)
  rw[if_neg (by omega),v1,v2,if_neg (by omega),show(p+3+7)/8*8+32=(p+3+7)/8*8+16+16 by omega,GW x _ _ (by omega) h3 (by rw[mD (by omega)];exact hm),mD (by omega),hbx]
  by_cases hm2:most<j
  ·rw[if_pos (by omega),if_pos hm2]
  ·rw[if_neg (by omega),if_neg hm2];simp only[ae,hrl,hwl,hbl]
   congr 2
   omega
 ·obtain⟨q,hq',hu⟩:=hu;unfold storedL at hu;have hq2:q.length≠0:=fun h0=>hq' (bG h0)
  have hul:=congrArg List.length hu;simp only[ae,hrl,hwl,hbl] at hul;have htl:=cg ht (.inr hp);rw[fX,if_pos rfl,jC]
  (try simp only)
  by_cases hs:t.length<(p+3+7)/8*8+32
  ·rw[if_pos hs]
  ·rw[if_neg hs];have hge:(8-(p+3)%8)%8+32≤u.length:=by omega
   obtain⟨u3,rfl⟩:∃ u3,u=List.replicate ((8-(p+3)%8)%8) 0++((aE x.length 16).reverse++((aE (65535-x.length) 16).reverse++u3)):=by
    rcases eP ⟨q,hu⟩ with ⟨q1,_,e1⟩ | ⟨v1,rfl,e1⟩
    ·have:=congrArg List.length e1;rw[ae,hrl] at this;omega
    ·rw[List.append_assoc] at hu;have hu:=eh hu;rw[ae,hrl] at hge
     rcases eP ⟨q,hu⟩ with ⟨q2,_,e2⟩ | ⟨v2,rfl,e2⟩
     ·have:=congrArg List.length e2;rw[ae,hwl] at this;omega
     ·rw[List.append_assoc] at hu;have hu:=eh hu;rw[ae,hwl] at hge
      rcases eP ⟨q,hu⟩ with ⟨q3,hq3,e3⟩ | ⟨v3,rfl,e3⟩
      ·have hz3:q3.length≠0:=fun h0=>hq3 (bG h0)
       have:=congrArg List.length e3;rw[ae,hwl] at this;omega
      ·exact⟨v3,rfl⟩
   have hu3:u3++q=ag true x:=by
    rw[List.append_assoc] at hu;have hu:=eh hu;rw[List.append_assoc] at hu;have hu:=eh hu;rw[List.append_assoc] at hu;exact eh hu
   have h1:=cC ht;rw[hrl,hq] at h1;have l1:(p+3+7)/8*8≤t.length:=by omega
   have h2:=cC h1;rw[hwl] at h2;have h3:=cC h2;rw[hwl] at h3;have v1:vl t ((p+3+7)/8*8) 16=x.length:=fZ h1 hn;have v2:vl t ((p+3+7)/8*8+16) 16=65535-x.length:=fZ h2 hm16;rw[v1,v2,if_neg (by omega),show(p+3+7)/8*8+32=(p+3+7)/8*8+16+16 by omega];exact G7 x _ _ q _ (by omega) h3 hu3 hq' (by rw[mD (by omega)];omega)
end Go.Proofs.YtboflbdniogcdaaGreatDoor
