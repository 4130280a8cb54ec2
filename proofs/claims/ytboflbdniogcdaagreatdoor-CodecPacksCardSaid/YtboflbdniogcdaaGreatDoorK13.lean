/-
  Parts of a proof.
-/
import Derived.Deep.RegionHeld3
import Derived.Test.YtboflbdniogcdaaGreatDoorK09
import Derived.Test.YtboflbdniogcdaaGreatDoorK12
set_option linter.unusedVariables false
set_option linter.unusedSimpArgs false
set_option maxRecDepth 100000
set_option maxHeartbeats 100000000
namespace Go.Proofs.YtboflbdniogcdaaGreatDoor
open Go.RowKit Go.Mz
def RunK (b:List UInt8) (n:Nat):Prop:=n≤b.length∧n≤128∧(∀ t,t<n→b.getD t 0=b.getD 0 0)∧(0<b.length→1≤n)
theorem ur {w:World} {v:Value} {b:List UInt8} (h:Reads w 1 v b.length (b.map bv)) (hl:b.length≤1000000000):
  Calls Tryz.prog 87 #[v] w fun e w'=>∃ n,e= .returned (.int .i64 (n:Nat))∧RunK b n∧∃ m,w'=w.drewN m:=by
 obtain⟨a,cap,rfl⟩:=h.sub;have HR:=ac h;clear h;obtain⟨L,hL⟩:∃ L,b.length=L:=⟨_,rfl⟩;rw[hL] at HR hl ⊢;have HL:=ac hL;clear hL;go_enter Tryz.func87,Tryz.ntmps87;go_wp2_with fail
 go_loopw [3] (fun vn wr=>∃ n:Nat,vn= .int .i64 n∧n≤128∧n≤L∧(∀ t,t<n→b.getD t 0=b.getD 0 0)∧∃ m,wr=w.drewN m) (fun vn _=>128-(intOf vn).toNat)
 case atStart=>exact⟨0,rfl,by omega,by omega,(fun t ht=>by omega),0,rfl⟩
 case round=>
  obtain⟨n,rfl,hn,hin,heq,m,rfl⟩:=hrel;have HEQ:=ac heq;clear heq
  by_cases h2:n<L
  ·have h2i:(n:Int)<L:=by omega
   have h2d:decide ((n:Int)<L)=true:=decide_eq_true h2i
   by_cases h1:n<128
   ·have h1i:(n:Int)<128:=by omega
    have h1d:decide ((n:Int)<128)=true:=decide_eq_true h1i;obtain⟨x,y,rfl,hc⟩:=(show Reads (w.drewN m) 1 (.slice a L cap) L (b.map bv) from HR.out).at_ h2;obtain⟨x',y',e,hc'⟩:=(show Reads (w.drewN m) 1 (.slice (some ⟨x,y,none⟩) L cap) L (b.map bv) from HR.out).at_ (show 0<L by omega);cases e;have g1:(b.map bv)[n]? =some (bv (b.getD n 0)):=by rw[au,List.getD_eq_getElem?_getD,ai (by rw[HL.out];exact h2)];rfl
    have g2:(b.map bv)[0]? =some (bv (b.getD 0 0)):=by rw[au,List.getD_eq_getElem?_getD,ai (by rw[HL.out];omega)];rfl
    rw[g1] at hc;rw[g2] at hc';clear g1 g2;simp only[bv] at hc hc';have HCC:=ac (show b.getD n 0=b.getD 0 0↔(b.getD n 0).toNat=(b.getD 0 0).toNat from⟨fun h=>by rw[h],fun h=>lc.1 h⟩);generalize hx1:(b.getD n 0).toNat=x1 at*
    generalize hx2:(b.getD 0 0).toNat=x2 at*
    have hL0:(0:Int)<L:=by omega
    have hL0':0<L:=by omega
    clear hx1 hx2;have hc:w.cell? ⟨x,y+n,none⟩=some (.int .u8 (x1:Int)):=hc;have hc':w.cell? ⟨x,y,none⟩=some (.int .u8 (x2:Int)):=hc'
    by_cases h3:x1=x2
    ·have h3b:((x1:Int)==x2)=true:=by simp [h3]
     have h3d:decide ((x1:Int)=x2)=true:=by simp [h3]
     have h3i:(x1:Int)=x2:=by omega
     go_wp2_with fail;go_quiet (fail);go_wp2_with fail;refine⟨⟨n+1,by go_num,by omega,by omega,?_,_,rfl⟩,by simp [intOf];omega⟩;intro t ht
     rcases cf t n with h | h
     ·exact HEQ.out t h
     ·obtain rfl:t=n:=by omega
      exact HCC.out.2 h3
    ·have h3b:((x1:Int)==x2)=false:=by simp;omega
     have h3d:decide ((x1:Int)=x2)=false:=by simp;omega
     have h3i:¬ (x1:Int)=x2:=by omega
     go_wp2_with fail;go_quiet (fail);go_wp2_with fail;go_ret;exact⟨n,rfl,⟨by rw[HL.out];omega,by omega,HEQ.out,fun _=>by
      rcases fM n with h | h
      ·subst h;exact absurd (HCC.out.1 rfl) h3
      ·exact h⟩,_,by rw[World.drewN_drewN]⟩
   ·have h1i:¬ (n:Int)<128:=by omega
    have h1d:decide ((n:Int)<128)=false:=decide_eq_false h1i;go_wp2_with fail;go_quiet (fail);go_wp2_with fail;go_ret;exact⟨n,rfl,⟨by rw[HL.out];omega,by omega,HEQ.out,fun _=>by omega⟩,_,by rw[World.drewN_drewN]⟩
  ·have h2i:¬ (n:Int)<L:=by omega
   have h2d:decide ((n:Int)<L)=false:=decide_eq_false h2i;go_wp2_with fail;go_quiet (fail);go_wp2_with fail;go_ret;exact⟨n,rfl,⟨by rw[HL.out];omega,by omega,HEQ.out,fun h=>by rw[HL.out] at h;omega⟩,_,by rw[World.drewN_drewN]⟩
def BI:Value→Nat
 | .slice _ n _=>n
 | _=>0
theorem lw {w0 w:World} {A B:SProp} (h:StL w0 w [A,B]):St w0 w (A*B):=St.perm h (by simp only[dj];rw[fx B di,eG])
theorem lx {w0 w:World} {A B:SProp} (h:St w0 w (A*B)):StL w0 w [A,B]:=St.perm h (by simp only[dj];rw[fx B di,eG])
theorem mC {w:World} {b off n c:Nat} {bs:List UInt8} (h:Reads w 1 (.slice (some ⟨b,off,none⟩) n c) n (bs.map bv)) (hn:bs.length=n) {k:Nat} (hk:k≤n):Reads w 1 (.slice (if c=k then some ⟨b,off,none⟩ else some ⟨b,off+k,none⟩) (n-k) (c-k)) (n-k) ((bs.drop k).map bv):=by
 have hc:=(jz h).1
 by_cases e:c=k
 ·rw[if_pos e];obtain rfl:k=n:=by omega
  subst e;rw[du,iD (by omega)];exact nJ _ _
 ·rw[if_neg e];have:=kz h hk (Nat.le_refl n);rw[bU (by rw[bH,bI];omega),← nw] at this;have e2:(⟨b,off,none⟩:Addr).add k=⟨b,off+k,none⟩:=by
   cases k <;> simp [Addr.add]
  rwa [e2] at this
theorem qV {w:World} {b off n c:Nat} {bs:List UInt8} (h:Reads w 1 (.slice (some ⟨b,off,none⟩) n c) n (bs.map bv)) {k:Nat} (hk:k≤n):Reads w 1 (.slice (some ⟨b,off,none⟩) k c) k ((bs.take k).map bv):=by
 have:=kz h (Nat.zero_le k) hk;rw[jO,← kn] at this;have e2:(⟨b,off,none⟩:Addr).add 0=⟨b,off,none⟩:=by simp [Addr.add]
 rw[e2] at this;simpa only[jP] using this
theorem RunK.take {b:List UInt8} {n:Nat} (h:RunK b n):b.take n=List.replicate n (b.getD 0 0):=by
 apply iA;intro t
 by_cases ht:t<n
 ·rw[jn,if_pos ht,eb,if_pos ht];have hb:t<b.length:=by have:=h.1;omega
  have e:b.getD t 0=b[t]:=by rw[List.getD_eq_getElem?_getD,ai hb];rfl
  rw[ai hb];exact congrArg some (e.symm.trans (h.2.2.1 t ht))
 ·rw[bg (by rw[aJ];omega),bg (by simp;omega)]
def PbTo (pre Z:List UInt8):Prop:=∀ r z,PbS r z→PbS (pre++r) (Z++z)
theorem PbTo.nil:PbTo [] []:=fun r z h=>h
theorem PbTo.run {pre Z b:List UInt8} {n:Nat} (h:PbTo pre Z) (hr:RunK b n) (h2:2≤n):PbTo (pre++b.take n) (Z++[UInt8.ofNat (257-n),b.getD 0 0]):=fun r z hz=>by
 rw[List.append_assoc,List.append_assoc,hr.take];exact h _ _ (PbS.run n _ r z h2 hr.2.1 hz)
theorem PbTo.lit {pre Z b:List UInt8} {n:Nat} (h:PbTo pre Z) (h1:1≤n) (h2:n≤128) (hn:n≤b.length):PbTo (pre++b.take n) (Z++[UInt8.ofNat (n-1)]++b.take n):=fun r z hz=>by
 have e:(b.take n).length=n:=by rw[aJ];omega
 have:=h _ _ (PbS.lit (b.take n) r z (by omega) (by omega) hz);rw[e] at this;simpa [List.append_assoc] using this
theorem BJ {w0 w:World} {F:SProp} (h:St w0 w F) {bs:List UInt8} {v:Value} (hv:Stb w0 F (fun w=>Reads w 1 v bs.length (bs.map bv))) (hl:bs.length≤1000000):
  Calls Tryz.prog 39 #[v] w fun e w'=>∃ v' z,e= .returned v'∧PbS bs z∧St w0 w' (own 5 1 v' z.length (z.map bv)*F):=by
 obtain⟨a0,c0,rfl⟩:=(hv w h).sub;have HV:=ac hv;have H:=ac h;obtain⟨nl,hnl⟩:∃ nl,bs.length=nl:=⟨_,rfl⟩;rw[hnl] at hl HV ⊢;have HNL:=ac hnl;clear hv h hnl;have T:=eh;go_enter Tryz.func39,Tryz.ntmps39;go_wp2_with fail;have h1:=H.out.lit #[] 5 0 rfl (by decide);have H1:=ac (show St w0 _ (own 5 1 (.slice (some ⟨w.heap.size,0,none⟩) 0 0) 0 []*F) from h1);clear h1;generalize w.heap.size=g0 at*
 go_loopw [0,3] (fun v0 vo wr=>∃ (m zl:Nat) (rest pre Z:List UInt8) (a ao:Option Addr) (c co:Nat),v0= .slice a m c∧vo= .slice ao zl co∧RowKit.Hid (bs=pre++rest∧rest.length=m∧Z.length=zl∧PbTo pre Z)∧m≤nl∧zl≤2*(nl-m)∧RowKit.Hid (Stb w0 F (fun w=>Reads w 1 (.slice a m c) m (rest.map bv)))∧St w0 wr (own 5 1 (.slice ao zl co) zl (Z.map bv)*F)) (fun v0 _ _=>BI v0)
 case atStart=>exact⟨nl,0,bs,[],[],a0,_,c0,0,rfl,rfl,ac ⟨rfl,HNL.out,rfl,PbTo.nil⟩,Nat.le_refl _,by omega,HV,H1.out⟩
 case round=>
  clear H1 H HV;obtain⟨m,zl,rest,pre,Z,a,ao,c,co,rfl,rfl,hQ,hm,hz,HR,hst⟩:=hrel
  by_cases hm0:0<m
  ·have hmI:(0:Int)<m:=by omega
   obtain⟨b,off,rfl,_⟩:=(HR.out _ hst.right).at_ hm0;have HRUN:=ac (fun w h=>ur (by have:=HR.out w h;rw[hQ.out.2.1];exact this) (by rw[hQ.out.2.1];omega));have HST:=ac hst;clear hst;go_wp2_with (go_at_call 87;apply ag);refine on ((HRUN.out _ HST.out.right).mono ?_);rintro e w2 ⟨n,rfl,hrk,q,rfl⟩;have hn1:1≤n:=hrk.2.2.2 (by rw[hQ.out.2.1];exact hm0);have hn2:n≤128:=hrk.2.1;have hn3:n≤m:=by have:=hrk.1;rw[hQ.out.2.1] at this;exact this
   have HK:=ac hrk;have HW:=ac (HST.out.drewN q);clear hrk HST;generalize wr.drewN q=WW at*
   have hcap:=(jz (HR.out _ HW.out.right)).1
   by_cases h2:2≤n
   ·have h2I:(2:Int)≤n:=by omega
    obtain⟨b',off',e,hc⟩:=(HR.out _ HW.out.right).at_ (show 0<m from hm0);cases e;have g1:(rest.map bv)[0]? =some (bv (rest.getD 0 0)):=by rw[au,List.getD_eq_getElem?_getD,ai (by rw[hQ.out.2.1];exact hm0)];rfl
    rw[g1] at hc;have hc:WW.cell? ⟨b,off,none⟩=some (bv (rest.getD 0 0)):=hc;have HP:=ac (hQ.out.2.2.2.run HK.out h2);generalize rest.getD 0 0=c8 at*
    simp only[bv] at hc;obtain⟨k8,hk8⟩:∃ k8,k8=257-n:=⟨_,rfl⟩;have hs8:(257:Int)-n=(k8:Int):=by omega
    have hk256:k8<256:=by omega
    have hw8:(k8:Int)%256=k8:=by omega
    have hwi:IntKind.i64.wrap (k8:Int)=k8:=IntWalk.i64_in _ (by omega);have hwu:IntKind.u8.wrap (k8:Int)=k8:=IntWalk.u8_in _ (by omega);have E8:=ac (show(.int .u8 (k8:Int):Value)=bv (UInt8.ofNat (257-n)) by rw[bv,← hk8];congr 1;simp;omega);have h5:=HW.out.lit #[.int .u8 (k8:Int),.int .u8 (c8.toNat:Int)] 5 2 rfl (by decide);have H5:=ac h5;clear hk8;clear g1 h5;go_wp2_with (at_builtin;apply ag);refine on (aC T rfl _ _ rfl rfl (H5.out.perm (af _ _ _)) rfl H5.out.reads (by intro u hu;rcases List.mem_cons.1 hu with rfl | hu;rfl;rw[List.mem_singleton.1 hu];rfl) (by unfold maxLen;omega) (by omega) ?_);intro v3 w3 h3 _;have h4:St w0 w3 (own 5 1 v3 (zl+2) ((Z++[UInt8.ofNat (257-n),c8]).map bv)*F):=by
     have h6:=(h3.perm (af _ _ _)).right;rw[List.map_append];rw[show([UInt8.ofNat (257-n),c8]).map bv=[.int .u8 (k8:Int),.int .u8 (c8.toNat:Int)] by rw[E8.out];rfl];exact h6
    obtain⟨a3,c3,rfl⟩:=h4.reads.sub;have HZL:=ac (show(Z++[UInt8.ofNat (257-n),c8]).length=zl+2 by rw[ae,hQ.out.2.2.1];rfl);generalize Z++[UInt8.ofNat (257-n),c8]=Z2 at*
    have H4:=ac h4;clear h3 h4 H5 hs8 hw8 HW;have hnc:(n:Int)≤c:=by omega
    have hnm:(n:Int)≤m:=by omega
    go_wp2_with fail;exact⟨⟨m-n,zl+2,rest.drop n,pre++rest.take n,Z2,_,_,c-n,c3,rfl,rfl,ac ⟨by rw[List.append_assoc,eQ];exact hQ.out.1,by rw[bH,hQ.out.2.1],HZL.out,HP.out⟩,by omega,by omega,ac fun w h=>mC (HR.out w h) hQ.out.2.1 hn3,H4.out⟩,by show m-n<m;omega⟩
   ·have h2I:¬ (2:Int)≤n:=by omega
    have hn1':n=1:=by omega
    subst hn1';clear HK;go_wp2_with fail
    go_loopw [5] (fun vj wj=>∃ (j q:Nat),1≤j∧j≤m∧j≤128∧vj= .int .i64 j∧wj=WW.drewN q) (fun vj _=>m-(intOf vj).toNat)
    case atStart=>exact⟨1,0,by omega,by omega,by omega,rfl,rfl⟩
    case round=>
     obtain⟨j,q,hj1,hjm',hj128,rfl,rfl⟩:=hrel;have HJ:=ac (HW.out.drewN q);generalize hWJ:WW.drewN q=WJ at*
     have HWJ:=ac hWJ;clear hWJ HW
     by_cases hjm2:j<m
     ·have hjI:(j:Int)<m:=by omega
      by_cases hj2:j<128
      ·have hj2I:(j:Int)<128:=by omega
       have hcj:¬ c=j:=by omega
       have hjc0:(j:Int)≤c:=by omega
       have hjm0:(j:Int)≤m:=by omega
       have HRUN2:=ac (fun w h=>ur (v:= .slice (some ⟨b,off+j,none⟩) (m-j) (c-j)) (b:=rest.drop j) (by
        have h1:=mC (HR.out w h) hQ.out.2.1 hjm';rw[if_neg hcj] at h1;rw[bH,hQ.out.2.1];exact h1) (by rw[bH,hQ.out.2.1];omega))
       go_wp2_with (go_at_call 87;apply ag);refine on ((HRUN2.out _ HJ.out.right).mono ?_);rintro e w3 ⟨n2,rfl,hrk2,q2,rfl⟩;clear hrk2 HRUN2
       by_cases h3:n2<3
       ·have h3I:(n2:Int)<3:=by omega
        go_wp2_with fail;exact⟨⟨j+1,q+q2,by omega,by omega,by omega,by go_num,by rw[← HWJ.out,World.drewN_drewN]⟩,by simp [intOf];omega⟩
       ·have h3I:¬ (n2:Int)<3:=by omega
        have HJ:=ac (HJ.out.drewN q2);generalize WJ.drewN q2=WJ at*
        clear hcj hjc0 hjm0 hjI hj2I;obtain⟨k8,hk8⟩:∃ k8,k8=j-1:=⟨_,rfl⟩;have hs8:(j:Int)-1=(k8:Int):=by omega
        have hw8:(k8:Int)%256=k8:=by omega
        have hwi:IntKind.i64.wrap (k8:Int)=k8:=IntWalk.i64_in _ (by omega);have hwu:IntKind.u8.wrap (k8:Int)=k8:=IntWalk.u8_in _ (by omega);have E8:=ac (show(.int .u8 (k8:Int):Value)=bv (UInt8.ofNat (j-1)) by rw[bv,← hk8];congr 1;simp;omega);have HP:=ac (hQ.out.2.2.2.lit (b:=rest) (n:=j) (by omega) (by omega) (by rw[hQ.out.2.1];omega));have HT:=ac (fun w h=>qV (HR.out w h) (k:=j) (by omega));have hjc:(j:Int)≤c:=by omega
        have hjm:(j:Int)≤m:=by omega
        clear hk8;go_upto_region 10 with (fail)
        refine wp_region_noPanic ?_;refine gB (S:=fun _=>True) (k:=9) (by kernel_rfl) ?_;have hS:(fun _:World=>True) WJ:=trivial;refine cM 7 [0,1,2,3,6,7,8] (by kernel_rfl) (fun _ _ _ h=>h) (by assumption) ?_
        iterate 7
         refine cL rfl rfl ⟨?_,fun w=> ?_,?_⟩;rotate_left
         ·(go_simp;try with_reducible rfl)
         simp only[Act.put,sA,sZ,sS]
        refine cK ?_;refine aW (i:=4) (by kernel_rfl) ?_;refine wpOp_step (by rfl) fun K hK=> ?_
        have h4:=(HJ.out.lit #[.int .u8 (k8:Int)] 5 1 rfl (by decide)).drew;go_simp;refine hK _ _ ⟨fun e=>trivial,?_⟩;clear hK K;have h5:=h4.perm (af _ _ _);refine aW (i:=5) (by kernel_rfl) ?_;refine wpOp_step (by rfl) fun K hK=> ?_
        refine iX eh rfl _ _ rfl rfl (lx h5) 0 rfl (x:= .slice (some ⟨WJ.heap.size,0,none⟩) 1 1) rfl (m:=1) (news:=[.int .u8 (k8:Int)]) h4.reads (by intro u hu;rw[List.mem_singleton.1 hu];rfl) (by unfold maxLen;omega) (by omega) fun v7 W7 h70 _=> ?_
        have h7:=lw h70;refine hK _ _ ⟨fun e=>trivial,?_⟩;clear hK K h70 h5 h4;refine aW (i:=9) (by kernel_rfl) ?_;refine wpOp_step (by rfl) fun K hK=> ?_
        refine iX eh rfl _ _ rfl rfl (lx h7) 0 rfl (x:= .slice (some ⟨b,off,none⟩) j c) rfl (m:=j) (news:=(rest.take j).map bv) (HT.out _ h7.right.right) (gx _) (by unfold maxLen;omega) (by omega) fun v8 W8 h80 _=> ?_
        have h8:=lw h80;refine hK _ _ ⟨fun e=>trivial,?_⟩;clear hK K h80 h7 hS;have hS:(fun _:World=>True) W8:=trivial;refine jA 10 rfl (by kernel_rfl) rfl (fun _ _ _ h=>h) (by assumption) ⟨?_,fun w=> ?_,?_⟩;rotate_left
        ·(go_simp;try with_reducible rfl)
        simp only[Act.put,sA,sZ,sS];refine⟨by kernel_rfl,NoPanic.normal ?_⟩;have h9:St w0 W8 (own 5 1 v8 (zl+1+j) ((Z++[UInt8.ofNat (j-1)]++rest.take j).map bv)*F):=by
         have h6:=(h8.perm (af _ _ _)).right;rw[List.map_append,List.map_append];rw[show([UInt8.ofNat (j-1)]).map bv=[.int .u8 (k8:Int)] by rw[E8.out];rfl];exact h6
        obtain⟨a3,c3,rfl⟩:=h9.reads.sub;have HZL:=ac (show(Z++[UInt8.ofNat (j-1)]++rest.take j).length=zl+1+j by rw[ae,ae,hQ.out.2.2.1,aJ,hQ.out.2.1,lP (by omega)];rfl);generalize Z++[UInt8.ofNat (j-1)]++rest.take j=Z2 at*
        have H9:=ac h9;clear h8 h9 HJ hs8 hw8 hS;go_wp2_with fail;exact⟨⟨m-j,zl+1+j,rest.drop j,pre++rest.take j,Z2,_,_,c-j,c3,rfl,rfl,ac ⟨by rw[List.append_assoc,eQ];exact hQ.out.1,by rw[bH,hQ.out.2.1],HZL.out,HP.out⟩,by omega,by omega,ac fun w h=>(by have h1:=mC (HR.out w h) hQ.out.2.1 (k:=j) (by omega);first | exact h1 | (rw[if_neg (by omega)] at h1;exact h1)),H9.out⟩,by show m-j<m;omega⟩
      ·have hj2I:¬ (j:Int)<128:=by omega
       obtain⟨k8,hk8⟩:∃ k8,k8=j-1:=⟨_,rfl⟩;have hs8:(j:Int)-1=(k8:Int):=by omega
       have hw8:(k8:Int)%256=k8:=by omega
       have hwi:IntKind.i64.wrap (k8:Int)=k8:=IntWalk.i64_in _ (by omega);have hwu:IntKind.u8.wrap (k8:Int)=k8:=IntWalk.u8_in _ (by omega);have E8:=ac (show(.int .u8 (k8:Int):Value)=bv (UInt8.ofNat (j-1)) by rw[bv,← hk8];congr 1;simp;omega);have HP:=ac (hQ.out.2.2.2.lit (b:=rest) (n:=j) (by omega) (by omega) (by rw[hQ.out.2.1];omega));have HT:=ac (fun w h=>qV (HR.out w h) (k:=j) (by omega));have hjc:(j:Int)≤c:=by omega
       have hjm:(j:Int)≤m:=by omega
       clear hk8;go_upto_region 10 with (fail)
       refine wp_region_noPanic ?_;refine gB (S:=fun _=>True) (k:=9) (by kernel_rfl) ?_;have hS:(fun _:World=>True) WJ:=trivial;refine cM 7 [0,1,2,3,6,7,8] (by kernel_rfl) (fun _ _ _ h=>h) (by assumption) ?_
       iterate 7
        refine cL rfl rfl ⟨?_,fun w=> ?_,?_⟩;rotate_left
        ·(go_simp;try with_reducible rfl)
        simp only[Act.put,sA,sZ,sS]
       refine cK ?_;refine aW (i:=4) (by kernel_rfl) ?_;refine wpOp_step (by rfl) fun K hK=> ?_
       have h4:=(HJ.out.lit #[.int .u8 (k8:Int)] 5 1 rfl (by decide)).drew;go_simp;refine hK _ _ ⟨fun e=>trivial,?_⟩;clear hK K;have h5:=h4.perm (af _ _ _);refine aW (i:=5) (by kernel_rfl) ?_;refine wpOp_step (by rfl) fun K hK=> ?_
       refine iX eh rfl _ _ rfl rfl (lx h5) 0 rfl (x:= .slice (some ⟨WJ.heap.size,0,none⟩) 1 1) rfl (m:=1) (news:=[.int .u8 (k8:Int)]) h4.reads (by intro u hu;rw[List.mem_singleton.1 hu];rfl) (by unfold maxLen;omega) (by omega) fun v7 W7 h70 _=> ?_
       have h7:=lw h70;refine hK _ _ ⟨fun e=>trivial,?_⟩;clear hK K h70 h5 h4;refine aW (i:=9) (by kernel_rfl) ?_;refine wpOp_step (by rfl) fun K hK=> ?_
       refine iX eh rfl _ _ rfl rfl (lx h7) 0 rfl (x:= .slice (some ⟨b,off,none⟩) j c) rfl (m:=j) (news:=(rest.take j).map bv) (HT.out _ h7.right.right) (gx _) (by unfold maxLen;omega) (by omega) fun v8 W8 h80 _=> ?_
       have h8:=lw h80;refine hK _ _ ⟨fun e=>trivial,?_⟩;clear hK K h80 h7 hS;have hS:(fun _:World=>True) W8:=trivial;refine jA 10 rfl (by kernel_rfl) rfl (fun _ _ _ h=>h) (by assumption) ⟨?_,fun w=> ?_,?_⟩;rotate_left
       ·(go_simp;try with_reducible rfl)
       simp only[Act.put,sA,sZ,sS];refine⟨by kernel_rfl,NoPanic.normal ?_⟩;have h9:St w0 W8 (own 5 1 v8 (zl+1+j) ((Z++[UInt8.ofNat (j-1)]++rest.take j).map bv)*F):=by
        have h6:=(h8.perm (af _ _ _)).right;rw[List.map_append,List.map_append];rw[show([UInt8.ofNat (j-1)]).map bv=[.int .u8 (k8:Int)] by rw[E8.out];rfl];exact h6
       obtain⟨a3,c3,rfl⟩:=h9.reads.sub;have HZL:=ac (show(Z++[UInt8.ofNat (j-1)]++rest.take j).length=zl+1+j by rw[ae,ae,hQ.out.2.2.1,aJ,hQ.out.2.1,lP (by omega)];rfl);generalize Z++[UInt8.ofNat (j-1)]++rest.take j=Z2 at*
       have H9:=ac h9;clear h8 h9 HJ hs8 hw8 hS;go_wp2_with fail;exact⟨⟨m-j,zl+1+j,rest.drop j,pre++rest.take j,Z2,_,_,c-j,c3,rfl,rfl,ac ⟨by rw[List.append_assoc,eQ];exact hQ.out.1,by rw[bH,hQ.out.2.1],HZL.out,HP.out⟩,by omega,by omega,ac fun w h=>(by have h1:=mC (HR.out w h) hQ.out.2.1 (k:=j) (by omega);first | exact h1 | (rw[if_neg (by omega)] at h1;exact h1)),H9.out⟩,by show m-j<m;omega⟩
     ·have hjI:¬ (j:Int)<m:=by omega
      obtain⟨k8,hk8⟩:∃ k8,k8=j-1:=⟨_,rfl⟩;have hs8:(j:Int)-1=(k8:Int):=by omega
      have hw8:(k8:Int)%256=k8:=by omega
      have hwi:IntKind.i64.wrap (k8:Int)=k8:=IntWalk.i64_in _ (by omega);have hwu:IntKind.u8.wrap (k8:Int)=k8:=IntWalk.u8_in _ (by omega);have E8:=ac (show(.int .u8 (k8:Int):Value)=bv (UInt8.ofNat (j-1)) by rw[bv,← hk8];congr 1;simp;omega);have HP:=ac (hQ.out.2.2.2.lit (b:=rest) (n:=j) (by omega) (by omega) (by rw[hQ.out.2.1];omega));have HT:=ac (fun w h=>qV (HR.out w h) (k:=j) (by omega));have hjc:(j:Int)≤c:=by omega
      have hjm:(j:Int)≤m:=by omega
      clear hk8;go_upto_region 10 with (fail)
      refine wp_region_noPanic ?_;refine gB (S:=fun _=>True) (k:=9) (by kernel_rfl) ?_;have hS:(fun _:World=>True) WJ:=trivial;refine cM 7 [0,1,2,3,6,7,8] (by kernel_rfl) (fun _ _ _ h=>h) (by assumption) ?_
      iterate 7
       refine cL rfl rfl ⟨?_,fun w=> ?_,?_⟩;rotate_left
       ·(go_simp;try with_reducible rfl)
       simp only[Act.put,sA,sZ,sS]
      refine cK ?_;refine aW (i:=4) (by kernel_rfl) ?_;refine wpOp_step (by rfl) fun K hK=> ?_
      have h4:=(HJ.out.lit #[.int .u8 (k8:Int)] 5 1 rfl (by decide)).drew;go_simp;refine hK _ _ ⟨fun e=>trivial,?_⟩;clear hK K;have h5:=h4.perm (af _ _ _);refine aW (i:=5) (by kernel_rfl) ?_;refine wpOp_step (by rfl) fun K hK=> ?_
      refine iX eh rfl _ _ rfl rfl (lx h5) 0 rfl (x:= .slice (some ⟨WJ.heap.size,0,none⟩) 1 1) rfl (m:=1) (news:=[.int .u8 (k8:Int)]) h4.reads (by intro u hu;rw[List.mem_singleton.1 hu];rfl) (by unfold maxLen;omega) (by omega) fun v7 W7 h70 _=> ?_
      have h7:=lw h70;refine hK _ _ ⟨fun e=>trivial,?_⟩;clear hK K h70 h5 h4;refine aW (i:=9) (by kernel_rfl) ?_;refine wpOp_step (by rfl) fun K hK=> ?_
      refine iX eh rfl _ _ rfl rfl (lx h7) 0 rfl (x:= .slice (some ⟨b,off,none⟩) j c) rfl (m:=j) (news:=(rest.take j).map bv) (HT.out _ h7.right.right) (gx _) (by unfold maxLen;omega) (by omega) fun v8 W8 h80 _=> ?_
      have h8:=lw h80;refine hK _ _ ⟨fun e=>trivial,?_⟩;clear hK K h80 h7 hS;have hS:(fun _:World=>True) W8:=trivial;refine jA 10 rfl (by kernel_rfl) rfl (fun _ _ _ h=>h) (by assumption) ⟨?_,fun w=> ?_,?_⟩;rotate_left
      ·(go_simp;try with_reducible rfl)
      simp only[Act.put,sA,sZ,sS];refine⟨by kernel_rfl,NoPanic.normal ?_⟩;have h9:St w0 W8 (own 5 1 v8 (zl+1+j) ((Z++[UInt8.ofNat (j-1)]++rest.take j).map bv)*F):=by
       have h6:=(h8.perm (af _ _ _)).right;rw[List.map_append,List.map_append];rw[show([UInt8.ofNat (j-1)]).map bv=[.int .u8 (k8:Int)] by rw[E8.out];rfl];exact h6
      obtain⟨a3,c3,rfl⟩:=h9.reads.sub;have HZL:=ac (show(Z++[UInt8.ofNat (j-1)]++rest.take j).length=zl+1+j by rw[ae,ae,hQ.out.2.2.1,aJ,hQ.out.2.1,lP (by omega)];rfl);generalize Z++[UInt8.ofNat (j-1)]++rest.take j=Z2 at*
      have H9:=ac h9;clear h8 h9 HJ hs8 hw8 hS;go_wp2_with fail;exact⟨⟨m-j,zl+1+j,rest.drop j,pre++rest.take j,Z2,_,_,c-j,c3,rfl,rfl,ac ⟨by rw[List.append_assoc,eQ];exact hQ.out.1,by rw[bH,hQ.out.2.1],HZL.out,HP.out⟩,by omega,by omega,ac fun w h=>(by have h1:=mC (HR.out w h) hQ.out.2.1 (k:=j) (by omega);first | exact h1 | (rw[if_neg (by omega)] at h1;exact h1)),H9.out⟩,by show m-j<m;omega⟩
  ·obtain rfl:m=0:=by omega
   have HST:=ac hst;clear hst;go_wp2_with fail;go_ret;have hr:rest=[]:=List.length_eq_zero_iff.1 hQ.out.2.1;have hp:=hQ.out.2.2.2 [] [] PbS.nil;rw[bE,bE] at hp;have hb:=hQ.out.1;rw[hr,bE] at hb;refine⟨_,Z,rfl,by rw[hb];exact hp,?_⟩;rw[hQ.out.2.2.1];exact HST.out
theorem PbS.cases3 {r y:List UInt8} (h:PbS r y):(r=[]∧y=[])∨(∃ n c r' z',2≤n∧n≤128∧PbS r' z'∧r=List.replicate n c++r'∧y=UInt8.ofNat (257-n)::c::z')∨
  (∃ l r' z',1≤l.length∧l.length≤128∧PbS r' z'∧r=l++r'∧y=UInt8.ofNat (l.length-1)::(l++z')):=by
 cases h with
 | nil=>exact .inl ⟨rfl,rfl⟩
 | run n c r z h1 h2 h=>exact .inr (.inl ⟨n,c,r,z,h1,h2,h,rfl,rfl⟩)
 | lit l r z h1 h2 h=>exact .inr (.inr ⟨l,r,z,h1,h2,h,rfl,rfl⟩)
theorem BK {w:World} {b off n c:Nat} {l:List UInt8} (h:Reads w 1 (.slice (some ⟨b,off,none⟩) n c) n (l.map bv)) {i k:Nat} (hk:i+k≤n):Reads w 1 (.slice (some ⟨b,off+i,none⟩) k (c-i)) k (((l.drop i).take k).map bv):=by
 have:=kz h (i:=i) (j:=i+k) (p9 _ _) hk;rw[pX,← nw,← kn] at this;have e2:(⟨b,off,none⟩:Addr).add i=⟨b,off+i,none⟩:=by cases i <;> simp [Addr.add]
 rwa [e2] at this
theorem kE (l:List UInt8) (i j:Nat):(⟨l.toArray⟩:ByteArray).extract i j=⟨((l.drop i).take (j-i)).toArray⟩:=ByteArray.extract_mk l i j
theorem qW (c:UInt8) (l:List UInt8):¬ (⟨(c::l).toArray⟩:ByteArray).toList=[]∧(⟨(c::l).toArray⟩:ByteArray).toList.isEmpty=false:=by
 have h:¬ (⟨(c::l).toArray⟩:ByteArray).toList=[]:=by rw[ByteArray.toList_eq];exact List.cons_ne_nil _ _
 refine⟨h,?_⟩;cases hq:(⟨(c::l).toArray⟩:ByteArray).toList with
 | nil=>exact absurd hq h
 | cons _ _=>rfl
theorem BL {w0 w:World} {F:SProp} (h:St w0 w F) {n:Nat} {c:UInt8} {r:List UInt8} (hn2:2≤n) (hn:n≤128) (hl:r.length≤10000000) {s:ByteArray} (hs:s=⟨(UInt8.ofNat (257-n)::c::r).toArray⟩):
  Calls Tryz.prog 65 #[.string s] w fun e w'=>e= .returned (.tuple #[.string ⟨(List.replicate n c).toArray⟩,.string ⟨r.toArray⟩,.bool true])∧St w0 w' F:=by
 have hb8:(UInt8.ofNat (257-n)).toNat=257-n:=by simp;omega
 obtain⟨L,hL⟩:∃ L,r.length=L:=⟨_,rfl⟩;have hsz:s.size=L+2:=by rw[hs,← hL];rfl
 have hz0:∀ hh,(s[0]'hh).toNat=257-n:=fun hh=>by subst hs;exact hb8
 obtain⟨rb,hrb⟩:∃ rb:ByteArray,rb=⟨(c::r).toArray⟩:=⟨_,rfl⟩;have hex:s.extract 1 (L+2)=rb:=by rw[hs,hrb,kE];simp [← hL]
 obtain⟨hne,hne2⟩:=qW (UInt8.ofNat (257-n)) (c::r);rw[← hs] at hne hne2;obtain⟨hre,hre2⟩:=qW c r;rw[← hrb] at hre hre2;have hrz:rb.size=L+1:=by rw[hrb,← hL];rfl
 have hr1:rb.extract 0 1=⟨#[c]⟩:=by rw[hrb,kE];rfl
 have hr2:rb.extract 1 (L+1)=⟨r.toArray⟩:=by rw[hrb,kE];simp [← hL]
 obtain⟨k8,hk8⟩:∃ k8,257-n=k8:=⟨_,rfl⟩;rw[hk8] at hz0;have hk1:129≤k8:=by omega
 have hk2:k8≤255:=by omega
 have hkn:k8=257-n:=hk8.symm;rw[hL] at hl;have H:=ac h;clear hs hrb hb8 hL h hk8;generalize (⟨r.toArray⟩:ByteArray)=rr at*
 go_enter Tryz.func65,Tryz.ntmps65;go_upto_region 3 with (fail)
 go_quiet (fail);have H':=ac (H.out.drewN nq);generalize w.drewN nq=wq at*
 clear H hz0 hex hsz hne hne2;go_wp2_with fail
 go_loopw [7,8] (fun vo vi wr=>∃ k:Nat,k≤n∧vi= .int .i64 (k:Int)∧vo= .string ⟨(List.replicate k c).toArray⟩∧St w0 wr F) (fun _ vi _=>n-(intOf vi).toNat)
 case atStart=>exact⟨0,Nat.zero_le _,rfl,rfl,H'.out⟩
 case round=>
  clear H';obtain⟨k,hk,rfl,rfl,hst⟩:=hrel;have HST:=ac hst;clear hst
  by_cases hkn':k<n
  ·go_wp2_with fail;refine⟨⟨k+1,by omega,by go_num,?_,HST.out⟩,by simp [intOf];omega⟩;rw[ft];exact congrArg Value.string (ByteArray.mk_append_mk _ _)
  ·obtain rfl:k=n:=by omega
   go_upto_region 17 with (fail)
   go_quiet (fail);have H2:=ac (HST.out.drewN nq);generalize wr.drewN nq=w2 at*
   clear HST;go_wp2_with fail
   go_ret3
   exact⟨rfl,H2.out⟩
theorem BM {w0 w:World} {F:SProp} (h:St w0 w F) {l r:List UInt8} (hl1:1≤l.length) (hl2:l.length≤128) (hl:r.length≤10000000) {s:ByteArray} (hs:s=⟨(UInt8.ofNat (l.length-1)::(l++r)).toArray⟩):
  Calls Tryz.prog 65 #[.string s] w fun e w'=>e= .returned (.tuple #[.string ⟨l.toArray⟩,.string ⟨r.toArray⟩,.bool true])∧St w0 w' F:=by
 obtain⟨k,hk⟩:∃ k,l.length=k+1:=⟨l.length-1,by omega⟩;have hb8:(UInt8.ofNat (l.length-1)).toNat=k:=by rw[hk];simp;omega
 obtain⟨L,hL⟩:∃ L,r.length=L:=⟨_,rfl⟩;have hsz:s.size=k+L+2:=by rw[hs,← hL];show(UInt8.ofNat (l.length-1)::(l++r)).length=_;rw[aK,ae,hk];omega
 have hz0:∀ hh,(s[0]'hh).toNat=k:=fun hh=>by subst hs;exact hb8
 obtain⟨rb,hrb⟩:∃ rb:ByteArray,rb=⟨(l++r).toArray⟩:=⟨_,rfl⟩;have hex:s.extract 1 (k+L+2)=rb:=by
  rw[hs,hrb,kE,List.drop_succ_cons,jO,bU (by rw[ae,hk,hL];omega)]
 obtain⟨hne,hne2⟩:=qW (UInt8.ofNat (l.length-1)) (l++r);rw[← hs] at hne hne2;have hrz:rb.size=k+1+L:=by rw[hrb,← hL,← hk];show(l++r).length=_;rw[ae]
 have hr1:rb.extract 0 (k+1)=⟨l.toArray⟩:=by rw[hrb,kE,jO,jP,lf hk]
 have hr2:rb.extract (k+1) (k+1+L)=⟨r.toArray⟩:=by rw[hrb,kE,s6 hk,bU (by omega)]
 have hkb:k≤127:=by omega
 have hlt:¬ ((k+1+L:Nat):Int)≤(k:Int):=by omega
 rw[hL] at hl;have H:=ac h;clear hs hrb hb8 hL h hk hl1 hl2;generalize (⟨r.toArray⟩:ByteArray)=rr at*
 generalize (⟨l.toArray⟩:ByteArray)=ll at*
 go_enter Tryz.func65,Tryz.ntmps65;go_upto_region 3 with (fail)
 go_quiet (fail);have H':=ac (H.out.drewN nq);generalize w.drewN nq=wq at*
 clear H hz0 hex hsz hne hne2;go_upto_region 9 with (fail)
 go_quiet (fail);have H2:=ac (H'.out.drewN nq);generalize wq.drewN nq=w2 at*
 clear H';go_wp2_with fail
 go_ret3
 exact⟨rfl,H2.out⟩
def ut:Value→Nat
 | .string s=>s.size
 | _=>0
theorem BN {w0 w:World} {F:SProp} (h:St w0 w F) {b z t:List UInt8} (hz:PbS b z) (hbl:b.length≤1000000) (htl:t.length≤1000000) {s:ByteArray} (hs:s=⟨(z++t).toArray⟩):
  Calls Tryz.prog 31 #[.string s,.int .i64 (b.length:Int)] w fun e w'=>e= .returned (.tuple #[.string ⟨b.toArray⟩,.int .i64 (z.length:Int),.int .i64 0])∧St w0 w' F:=by
 have hzl:=hz.len;obtain⟨bl,hbe⟩:∃ bl,b.length=bl:=⟨_,rfl⟩;have hsz:s.size=z.length+t.length:=by rw[hs];exact ae
 have hbl0:¬ ((bl:Nat):Int)<0:=by omega
 have HBE:=ac hbe;have HZ:=ac hz;have HS:=ac hs;have H:=ac h;rw[hbe] at hzl hbl ⊢;obtain⟨zl,hze⟩:∃ zl,z.length=zl:=⟨_,rfl⟩;obtain⟨tl,hte⟩:∃ tl,t.length=tl:=⟨_,rfl⟩;rw[hze] at hzl ⊢;rw[hze,hte] at hsz;rw[hte] at htl;have HZE:=ac hze;have HTE:=ac hte;clear hbe hz hs h hze hte;go_enter Tryz.func31,Tryz.ntmps31;go_wp2_with fail
 go_loopw [7,8] (fun vo vr wr=>∃ (O r y:List UInt8),vo= .string ⟨O.toArray⟩∧vr= .string ⟨(y++t).toArray⟩∧RowKit.Hid (b=O++r∧PbS r y)∧O.length≤bl∧St w0 wr F) (fun vo _ _=>bl-ut vo)
 case atStart=>exact⟨[],b,z,rfl,by rw[HS.out],ac ⟨rfl,HZ.out⟩,Nat.zero_le _,H.out⟩
 case round=>
  clear H;obtain⟨O,r,y,rfl,rfl,hQ,hO,hst⟩:=hrel;have hyl:=hQ.out.2.len;have hrl:O.length+r.length=bl:=by rw[← HBE.out,hQ.out.1,ae]
  have HST:=ac hst;clear hst
  by_cases hob:O.length<bl
  ·obtain⟨P,r',z',hP1,hPC,hb,hp⟩:∃ P r' z',1≤P.length∧(∀ w,St w0 w F→Calls Tryz.prog 65 #[.string ⟨(y++t).toArray⟩] w fun e w'=>e= .returned (.tuple #[.string ⟨P.toArray⟩,.string ⟨(z'++t).toArray⟩,.bool true])∧St w0 w' F)∧r=P++r'∧PbS r' z':=by
    rcases hQ.out.2.cases3 with ⟨rfl,rfl⟩ | ⟨n,c,r',z',hn2,hn128,hp,rfl,rfl⟩ | ⟨l,r',z',hl1,hl128,hp,rfl,rfl⟩
    ·simp only[bD] at hrl;omega
    ·simp only[ae,dK,aK] at hyl hrl;exact⟨List.replicate n c,r',z',by rw[dK];omega,fun w h=>BL h hn2 hn128 (by rw[ae,HTE.out];omega) rfl,rfl,hp⟩
    ·simp only[ae,aK] at hyl hrl;exact⟨l,r',z',hl1,fun w h=>BM h hl1 hl128 (by rw[ae,HTE.out];omega) (by rw[dB,List.append_assoc]),rfl,hp⟩
   subst hb;rw[ae] at hrl;have HPC:=ac hPC;have hcmp:(O.length:Int)<(bl:Int):=by omega
   have HQN:=ac (show b=(O++P)++r'∧PbS r' z' from⟨by rw[List.append_assoc];exact hQ.out.1,hp⟩);have hcat:(⟨O.toArray⟩:ByteArray)++⟨P.toArray⟩=⟨(O++P).toArray⟩:=ByteArray.mk_append_mk _ _;have hosz:(⟨O.toArray⟩:ByteArray).size=O.length:=rfl;have hpsz:(⟨P.toArray⟩:ByteArray).size=P.length:=rfl;have hc2:(⟨(O++P).toArray⟩:ByteArray).size=O.length+P.length:=ae;have hle:O.length+P.length≤bl:=by omega
   have HLE:=ac (show(O++P).length≤bl by rw[ae];exact hle);obtain⟨ol,hol⟩:∃ ol,O.length=ol:=⟨_,rfl⟩;obtain⟨pl,hpl⟩:∃ pl,P.length=pl:=⟨_,rfl⟩;rw[hol] at hob hcmp hosz hc2 hle;rw[hpl] at hP1 hpsz hc2 hle;clear hQ hyl hp hPC hrl hol hpl hO;generalize hOB:(⟨O.toArray⟩:ByteArray)=OB at*
   generalize hPB:(⟨P.toArray⟩:ByteArray)=PB at*
   generalize hOP:(⟨(O++P).toArray⟩:ByteArray)=OP at*
   generalize hYT:(⟨(y++t).toArray⟩:ByteArray)=YT at*
   generalize hZT:(⟨(z'++t).toArray⟩:ByteArray)=ZT at*
   have HOP:=ac hOP;have HZT:=ac hZT;have HOS:=ac hosz;have HC2:=ac hc2;clear hOB hPB hOP hYT hZT;have hgt:¬ ((ol:Int)+(pl:Int)) > (bl:Int):=by omega
   go_wp2_with (go_at_call 65;refine(HPC.out _ HST.out).mono ?_;rintro e w2 ⟨rfl,h2⟩;have H2:=ac h2;clear h2 HPC HST);exact⟨⟨O++P,r',z',by rw[HOP.out],by rw[HZT.out],HQN,HLE.out,H2.out⟩,by simp only[ut,HOS.out,HC2.out];omega⟩
  ·have hob':O.length=bl:=by omega
   have hr0:r=[]:=bC (by omega);subst hr0;obtain rfl:y=[]:=by
    have:=hyl;simp only[bD] at this;exact bC (by omega)
   have HBO:=ac (show b=O by rw[hQ.out.1,bE]);have hts:(⟨([]++t).toArray⟩:ByteArray).size=tl:=HTE.out;have hosz:(⟨O.toArray⟩:ByteArray).size=bl:=hob';have hcmp:¬ (bl:Int)<(bl:Int):=by omega
   have hsub:((zl:Int)+(tl:Int))-(tl:Int)=(zl:Int):=by omega
   clear hQ hyl hrl hob hob' hO HBE;generalize (⟨([]++t).toArray⟩:ByteArray)=tb at*
   generalize hOB:(⟨O.toArray⟩:ByteArray)=OB at*
   have HOB:=ac hOB;clear hOB;go_wp2_with fail
   go_ret3
   refine⟨?_,HST.out⟩;rw[HBO.out,HOB.out];rfl
end Go.Proofs.YtboflbdniogcdaaGreatDoor
