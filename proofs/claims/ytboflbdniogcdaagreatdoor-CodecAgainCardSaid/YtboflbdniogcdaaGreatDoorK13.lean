/-
  Parts of a proof.
-/
import Derived.Test.YtboflbdniogcdaaGreatDoorK00
import Derived.Test.YtboflbdniogcdaaGreatDoorK02
import Derived.Test.YtboflbdniogcdaaGreatDoorK07
import Derived.Deep.RegionHeld3
import Derived.Deep.QuietTactic
import Derived.BigQuiet
set_option linter.unusedVariables false
set_option linter.unusedSimpArgs false
set_option maxRecDepth 100000
set_option maxHeartbeats 100000000
namespace Go.Proofs.YtboflbdniogcdaaGreatDoor
open Go.RowKit Go.Mz
def RunK (b:List UInt8) (n:Nat):Prop:=n≤b.length∧n≤128∧(∀ t,t<n→b.getD t 0=b.getD 0 0)∧(0<b.length→1≤n)
theorem wh {w:World} {v:Value} {b:List UInt8} (h:Reads w 1 v b.length (b.map bv)) (hl:b.length≤1000000000):
  Calls Tryz.prog 87 #[v] w fun e w'=>∃ n,e= .returned (.int .i64 (n:Nat))∧RunK b n∧∃ m,w'=w.drewN m:=by
 obtain⟨a,cap,rfl⟩:=h.sub;have HR:=ac h;clear h;obtain⟨L,hL⟩:∃ L,b.length=L:=⟨_,rfl⟩;rw[hL] at HR hl ⊢;have HL:=ac hL;clear hL;go_enter Tryz.func87,Tryz.ntmps87;go_wp2_with fail
 go_loopw [3] (fun vn wr=>∃ n:Nat,vn= .int .i64 n∧n≤128∧n≤L∧(∀ t,t<n→b.getD t 0=b.getD 0 0)∧∃ m,wr=w.drewN m) (fun vn _=>128-(intOf vn).toNat)
 case atStart=>exact⟨0,rfl,by omega,by omega,(fun t ht=>by omega),0,rfl⟩
 case round=>
  obtain⟨n,rfl,hn,hin,heq,m,rfl⟩:=hrel;have HEQ:=ac heq;clear heq
  by_cases h2:n<L
  ·have h2i:(n:Int)<L:=by omega
   have h2d:decide ((n:Int)<L)=true:=decide_eq_true h2i
   by_cases h1:n<128
   ·have h1i:(n:Int)<128:=by omega
    have h1d:decide ((n:Int)<128)=true:=decide_eq_true h1i;obtain⟨x,y,rfl,hc⟩:=(show Reads (w.drewN m) 1 (.slice a L cap) L (b.map bv) from HR.out).at_ h2;obtain⟨x',y',e,hc'⟩:=(show Reads (w.drewN m) 1 (.slice (some ⟨x,y,none⟩) L cap) L (b.map bv) from HR.out).at_ (show 0<L by omega);cases e;have g1:(b.map bv)[n]? =some (bv (b.getD n 0)):=by rw[aC,List.getD_eq_getElem?_getD,au (by rw[HL.out];exact h2)];rfl
    have g2:(b.map bv)[0]? =some (bv (b.getD 0 0)):=by rw[aC,List.getD_eq_getElem?_getD,au (by rw[HL.out];omega)];rfl
    rw[g1] at hc;rw[g2] at hc';clear g1 g2;simp only[bv] at hc hc';have HCC:=ac (show b.getD n 0=b.getD 0 0↔(b.getD n 0).toNat=(b.getD 0 0).toNat from⟨fun h=>by rw[h],fun h=>oG.1 h⟩);generalize hx1:(b.getD n 0).toNat=x1 at*
    generalize hx2:(b.getD 0 0).toNat=x2 at*
    have hL0:(0:Int)<L:=by omega
    have hL0':0<L:=by omega
    clear hx1 hx2;have hc:w.cell? ⟨x,y+n,none⟩=some (.int .u8 (x1:Int)):=hc;have hc':w.cell? ⟨x,y,none⟩=some (.int .u8 (x2:Int)):=hc'
    by_cases h3:x1=x2
    ·have h3b:((x1:Int)==x2)=true:=by simp [h3]
     have h3d:decide ((x1:Int)=x2)=true:=by simp [h3]
     have h3i:(x1:Int)=x2:=by omega
     go_wp2_with fail;go_quiet (fail);go_wp2_with fail;refine⟨⟨n+1,by go_num,by omega,by omega,?_,_,rfl⟩,by simp [intOf];omega⟩;intro t ht
     rcases bV t n with h | h
     ·exact HEQ.out t h
     ·obtain rfl:t=n:=by omega
      exact HCC.out.2 h3
    ·have h3b:((x1:Int)==x2)=false:=by simp;omega
     have h3d:decide ((x1:Int)=x2)=false:=by simp;omega
     have h3i:¬ (x1:Int)=x2:=by omega
     go_wp2_with fail;go_quiet (fail);go_wp2_with fail;go_ret;exact⟨n,rfl,⟨by rw[HL.out];omega,by omega,HEQ.out,fun _=>by
      rcases gm n with h | h
      ·subst h;exact absurd (HCC.out.1 rfl) h3
      ·exact h⟩,_,by rw[World.drewN_drewN]⟩
   ·have h1i:¬ (n:Int)<128:=by omega
    have h1d:decide ((n:Int)<128)=false:=decide_eq_false h1i;go_wp2_with fail;go_quiet (fail);go_wp2_with fail;go_ret;exact⟨n,rfl,⟨by rw[HL.out];omega,by omega,HEQ.out,fun _=>by omega⟩,_,by rw[World.drewN_drewN]⟩
  ·have h2i:¬ (n:Int)<L:=by omega
   have h2d:decide ((n:Int)<L)=false:=decide_eq_false h2i;go_wp2_with fail;go_quiet (fail);go_wp2_with fail;go_ret;exact⟨n,rfl,⟨by rw[HL.out];omega,by omega,HEQ.out,fun h=>by rw[HL.out] at h;omega⟩,_,by rw[World.drewN_drewN]⟩
def pF:Value→Nat
 | .slice _ n _=>n
 | _=>0
theorem mb {w0 w:World} {A B:SProp} (h:StL w0 w [A,B]):St w0 w (A*B):=St.perm h (by simp only[cX];rw[fS B bw,cV])
theorem mf {w0 w:World} {A B:SProp} (h:St w0 w (A*B)):StL w0 w [A,B]:=St.perm h (by simp only[cX];rw[fS B bw,cV])
theorem mg {w:World} {b off n c:Nat} {bs:List UInt8} (h:Reads w 1 (.slice (some ⟨b,off,none⟩) n c) n (bs.map bv)) (hn:bs.length=n) {k:Nat} (hk:k≤n):Reads w 1 (.slice (if c=k then some ⟨b,off,none⟩ else some ⟨b,off+k,none⟩) (n-k) (c-k)) (n-k) ((bs.drop k).map bv):=by
 have hc:=(iq h).1
 by_cases e:c=k
 ·rw[if_pos e];obtain rfl:k=n:=by omega
  subst e;rw[b8,lM (by omega)];exact m9 _ _
 ·rw[if_neg e];have:=kg h hk (Nat.le_refl n);rw[cW (by rw[a8,bS];omega),← oE] at this;have e2:(⟨b,off,none⟩:Addr).add k=⟨b,off+k,none⟩:=by
   cases k <;> simp [Addr.add]
  rwa [e2] at this
theorem sf {w:World} {b off n c:Nat} {bs:List UInt8} (h:Reads w 1 (.slice (some ⟨b,off,none⟩) n c) n (bs.map bv)) {k:Nat} (hk:k≤n):Reads w 1 (.slice (some ⟨b,off,none⟩) k c) k ((bs.take k).map bv):=by
 have:=kg h (Nat.zero_le k) hk;rw[mV,← jI] at this;have e2:(⟨b,off,none⟩:Addr).add 0=⟨b,off,none⟩:=by simp [Addr.add]
 rw[e2] at this;simpa only[rc] using this
theorem RunK.take {b:List UInt8} {n:Nat} (h:RunK b n):b.take n=List.replicate n (b.getD 0 0):=by
 apply gD;intro t
 by_cases ht:t<n
 ·rw[fP,if_pos ht,dx,if_pos ht];have hb:t<b.length:=by have:=h.1;omega
  have e:b.getD t 0=b[t]:=by rw[List.getD_eq_getElem?_getD,au hb];rfl
  rw[au hb];exact congrArg some (e.symm.trans (h.2.2.1 t ht))
 ·rw[bh (by rw[aL];omega),bh (by simp;omega)]
def PbTo (pre Z:List UInt8):Prop:=∀ r z,PbS r z→PbS (pre++r) (Z++z)
theorem PbTo.nil:PbTo [] []:=fun r z h=>h
theorem PbTo.run {pre Z b:List UInt8} {n:Nat} (h:PbTo pre Z) (hr:RunK b n) (h2:2≤n):PbTo (pre++b.take n) (Z++[UInt8.ofNat (257-n),b.getD 0 0]):=fun r z hz=>by
 rw[List.append_assoc,List.append_assoc,hr.take];exact h _ _ (PbS.run n _ r z h2 hr.2.1 hz)
theorem PbTo.lit {pre Z b:List UInt8} {n:Nat} (h:PbTo pre Z) (h1:1≤n) (h2:n≤128) (hn:n≤b.length):PbTo (pre++b.take n) (Z++[UInt8.ofNat (n-1)]++b.take n):=fun r z hz=>by
 have e:(b.take n).length=n:=by rw[aL];omega
 have:=h _ _ (PbS.lit (b.take n) r z (by omega) (by omega) hz);rw[e] at this;simpa [List.append_assoc] using this
theorem Dk {w0 w:World} {F:SProp} (h:St w0 w F) {bs:List UInt8} {v:Value} (hv:Stb w0 F (fun w=>Reads w 1 v bs.length (bs.map bv))) (hl:bs.length≤1000000):
  Calls Tryz.prog 39 #[v] w fun e w'=>∃ v' z,e= .returned v'∧PbS bs z∧St w0 w' (own 5 1 v' z.length (z.map bv)*F):=by
 obtain⟨a0,c0,rfl⟩:=(hv w h).sub;have HV:=ac hv;have H:=ac h;obtain⟨nl,hnl⟩:∃ nl,bs.length=nl:=⟨_,rfl⟩;rw[hnl] at hl HV ⊢;have HNL:=ac hnl;clear hv h hnl;have T:=cP;go_enter Tryz.func39,Tryz.ntmps39;go_wp2_with fail;have h1:=H.out.lit #[] 5 0 rfl (by decide);have H1:=ac (show St w0 _ (own 5 1 (.slice (some ⟨w.heap.size,0,none⟩) 0 0) 0 []*F) from h1);clear h1;generalize w.heap.size=g0 at*
 go_loopw [0,3] (fun v0 vo wr=>∃ (m zl:Nat) (rest pre Z:List UInt8) (a ao:Option Addr) (c co:Nat),v0= .slice a m c∧vo= .slice ao zl co∧RowKit.Hid (bs=pre++rest∧rest.length=m∧Z.length=zl∧PbTo pre Z)∧m≤nl∧zl≤2*(nl-m)∧RowKit.Hid (Stb w0 F (fun w=>Reads w 1 (.slice a m c) m (rest.map bv)))∧St w0 wr (own 5 1 (.slice ao zl co) zl (Z.map bv)*F)) (fun v0 _ _=>pF v0)
 case atStart=>exact⟨nl,0,bs,[],[],a0,_,c0,0,rfl,rfl,ac ⟨rfl,HNL.out,rfl,PbTo.nil⟩,Nat.le_refl _,by omega,HV,H1.out⟩
 case round=>
  clear H1 H HV;obtain⟨m,zl,rest,pre,Z,a,ao,c,co,rfl,rfl,hQ,hm,hz,HR,hst⟩:=hrel
  by_cases hm0:0<m
  ·have hmI:(0:Int)<m:=by omega
   obtain⟨b,off,rfl,_⟩:=(HR.out _ hst.right).at_ hm0;have HRUN:=ac (fun w h=>wh (by have:=HR.out w h;rw[hQ.out.2.1];exact this) (by rw[hQ.out.2.1];omega));have HST:=ac hst;clear hst;go_wp2_with (go_at_call 87;apply ap);refine on ((HRUN.out _ HST.out.right).mono ?_);rintro e w2 ⟨n,rfl,hrk,q,rfl⟩;have hn1:1≤n:=hrk.2.2.2 (by rw[hQ.out.2.1];exact hm0);have hn2:n≤128:=hrk.2.1;have hn3:n≤m:=by have:=hrk.1;rw[hQ.out.2.1] at this;exact this
   have HK:=ac hrk;have HW:=ac (HST.out.drewN q);clear hrk HST;generalize wr.drewN q=WW at*
   have hcap:=(iq (HR.out _ HW.out.right)).1
   by_cases h2:2≤n
   ·have h2I:(2:Int)≤n:=by omega
    obtain⟨b',off',e,hc⟩:=(HR.out _ HW.out.right).at_ (show 0<m from hm0);cases e;have g1:(rest.map bv)[0]? =some (bv (rest.getD 0 0)):=by rw[aC,List.getD_eq_getElem?_getD,au (by rw[hQ.out.2.1];exact hm0)];rfl
    rw[g1] at hc;have hc:WW.cell? ⟨b,off,none⟩=some (bv (rest.getD 0 0)):=hc;have HP:=ac (hQ.out.2.2.2.run HK.out h2);generalize rest.getD 0 0=c8 at*
    simp only[bv] at hc;obtain⟨k8,hk8⟩:∃ k8,k8=257-n:=⟨_,rfl⟩;have hs8:(257:Int)-n=(k8:Int):=by omega
    have hk256:k8<256:=by omega
    have hw8:(k8:Int)%256=k8:=by omega
    have hwi:IntKind.i64.wrap (k8:Int)=k8:=IntWalk.i64_in _ (by omega);have hwu:IntKind.u8.wrap (k8:Int)=k8:=IntWalk.u8_in _ (by omega);have E8:=ac (show(.int .u8 (k8:Int):Value)=bv (UInt8.ofNat (257-n)) by rw[bv,← hk8];congr 1;simp;omega);have h5:=HW.out.lit #[.int .u8 (k8:Int),.int .u8 (c8.toNat:Int)] 5 2 rfl (by decide);have H5:=ac h5;clear hk8;clear g1 h5;go_wp2_with (at_builtin;apply ap);refine on (aG T rfl _ _ rfl rfl (H5.out.perm (ak _ _ _)) rfl H5.out.reads (by intro u hu;rcases List.mem_cons.1 hu with rfl | hu;rfl;rw[List.mem_singleton.1 hu];rfl) (by unfold maxLen;omega) (by omega) ?_);intro v3 w3 h3 _;have h4:St w0 w3 (own 5 1 v3 (zl+2) ((Z++[UInt8.ofNat (257-n),c8]).map bv)*F):=by
     have h6:=(h3.perm (ak _ _ _)).right;rw[List.map_append];rw[show([UInt8.ofNat (257-n),c8]).map bv=[.int .u8 (k8:Int),.int .u8 (c8.toNat:Int)] by rw[E8.out];rfl];exact h6
    obtain⟨a3,c3,rfl⟩:=h4.reads.sub;have HZL:=ac (show(Z++[UInt8.ofNat (257-n),c8]).length=zl+2 by rw[ae,hQ.out.2.2.1];rfl);generalize Z++[UInt8.ofNat (257-n),c8]=Z2 at*
    have H4:=ac h4;clear h3 h4 H5 hs8 hw8 HW;have hnc:(n:Int)≤c:=by omega
    have hnm:(n:Int)≤m:=by omega
    go_wp2_with fail;exact⟨⟨m-n,zl+2,rest.drop n,pre++rest.take n,Z2,_,_,c-n,c3,rfl,rfl,ac ⟨by rw[List.append_assoc,ez];exact hQ.out.1,by rw[a8,hQ.out.2.1],HZL.out,HP.out⟩,by omega,by omega,ac fun w h=>mg (HR.out w h) hQ.out.2.1 hn3,H4.out⟩,by show m-n<m;omega⟩
   ·have h2I:¬ (2:Int)≤n:=by omega
    have hn1':n=1:=by omega
    subst hn1';clear HK;go_wp2_with fail
    go_loopw [5] (fun vj wj=>∃ (j q:Nat),1≤j∧j≤m∧j≤128∧vj= .int .i64 j∧wj=WW.drewN q) (fun vj _=>m-(intOf vj).toNat)
    case atStart=>exact⟨1,0,by omega,by omega,by omega,rfl,rfl⟩
    case round=>
     obtain⟨j,q,hj1,hjm',hj128,rfl,rfl⟩:=hrel;have HJ:=ac (HW.out.drewN q);generalize hWJ:WW.drewN q=WJ at*
     have HWJ:=ac hWJ;clear hWJ HW
     by_cases hjm2:j<m
     ·have hjI:(j:Int)<m:=by omega
      by_cases hj2:j<128
      ·have hj2I:(j:Int)<128:=by omega
       have hcj:¬ c=j:=by omega
       have hjc0:(j:Int)≤c:=by omega
       have hjm0:(j:Int)≤m:=by omega
       have HRUN2:=ac (fun w h=>wh (v:= .slice (some ⟨b,off+j,none⟩) (m-j) (c-j)) (b:=rest.drop j) (by
        have h1:=mg (HR.out w h) hQ.out.2.1 hjm';rw[if_neg hcj] at h1;rw[a8,hQ.out.2.1];exact h1) (by rw[a8,hQ.out.2.1];omega))
       go_wp2_with (go_at_call 87;apply ap);refine on ((HRUN2.out _ HJ.out.right).mono ?_);rintro e w3 ⟨n2,rfl,hrk2,q2,rfl⟩;clear hrk2 HRUN2
       by_cases h3:n2<3
       ·have h3I:(n2:Int)<3:=by omega
        go_wp2_with fail;exact⟨⟨j+1,q+q2,by omega,by omega,by omega,by go_num,by rw[← HWJ.out,World.drewN_drewN]⟩,by simp [intOf];omega⟩
       ·have h3I:¬ (n2:Int)<3:=by omega
        have HJ:=ac (HJ.out.drewN q2);generalize WJ.drewN q2=WJ at*
        clear hcj hjc0 hjm0 hjI hj2I;obtain⟨k8,hk8⟩:∃ k8,k8=j-1:=⟨_,rfl⟩;have hs8:(j:Int)-1=(k8:Int):=by omega
        have hw8:(k8:Int)%256=k8:=by omega
        have hwi:IntKind.i64.wrap (k8:Int)=k8:=IntWalk.i64_in _ (by omega);have hwu:IntKind.u8.wrap (k8:Int)=k8:=IntWalk.u8_in _ (by omega);have E8:=ac (show(.int .u8 (k8:Int):Value)=bv (UInt8.ofNat (j-1)) by rw[bv,← hk8];congr 1;simp;omega);have HP:=ac (hQ.out.2.2.2.lit (b:=rest) (n:=j) (by omega) (by omega) (by rw[hQ.out.2.1];omega));have HT:=ac (fun w h=>sf (HR.out w h) (k:=j) (by omega));have hjc:(j:Int)≤c:=by omega
        have hjm:(j:Int)≤m:=by omega
        clear hk8;go_upto_region 10 with (fail)
        refine wp_region_noPanic ?_;refine io (S:=fun _=>True) (k:=9) (by kernel_rfl) ?_;have hS:(fun _:World=>True) WJ:=trivial;refine ay 0 rfl (by kernel_rfl) rfl (fun _ _ _ h=>h) (by assumption) ⟨?_,fun w=> ?_,?_⟩;rotate_left
        ·(go_simp;try with_reducible rfl)
        simp only[Act.put,sA,sZ,sS];refine ay 1 rfl (by kernel_rfl) rfl (fun _ _ _ h=>h) (by assumption) ⟨?_,fun w=> ?_,?_⟩;rotate_left
        ·(go_simp;try with_reducible rfl)
        simp only[Act.put,sA,sZ,sS];refine ay 2 rfl (by kernel_rfl) rfl (fun _ _ _ h=>h) (by assumption) ⟨?_,fun w=> ?_,?_⟩;rotate_left
        ·(go_simp;try with_reducible rfl)
        simp only[Act.put,sA,sZ,sS];refine ay 3 rfl (by kernel_rfl) rfl (fun _ _ _ h=>h) (by assumption) ⟨?_,fun w=> ?_,?_⟩;rotate_left
        ·(go_simp;try with_reducible rfl)
        simp only[Act.put,sA,sZ,sS];refine ay 6 rfl (by kernel_rfl) rfl (fun _ _ _ h=>h) (by assumption) ⟨?_,fun w=> ?_,?_⟩;rotate_left
        ·(go_simp;try with_reducible rfl)
        simp only[Act.put,sA,sZ,sS];refine ay 7 rfl (by kernel_rfl) rfl (fun _ _ _ h=>h) (by assumption) ⟨?_,fun w=> ?_,?_⟩;rotate_left
        ·(go_simp;try with_reducible rfl)
        simp only[Act.put,sA,sZ,sS];refine ay 8 rfl (by kernel_rfl) rfl (fun _ _ _ h=>h) (by assumption) ⟨?_,fun w=> ?_,?_⟩;rotate_left
        ·(go_simp;try with_reducible rfl)
        simp only[Act.put,sA,sZ,sS];refine bq (i:=4) (by kernel_rfl) ?_;refine wpOp_step (by rfl) fun K hK=> ?_
        have h4:=(HJ.out.lit #[.int .u8 (k8:Int)] 5 1 rfl (by decide)).drew;go_simp;refine hK _ _ ⟨fun e=>trivial,?_⟩;clear hK K;have h5:=h4.perm (ak _ _ _);refine bq (i:=5) (by kernel_rfl) ?_;refine wpOp_step (by rfl) fun K hK=> ?_
        refine jM cP rfl _ _ rfl rfl (mf h5) 0 rfl (x:= .slice (some ⟨WJ.heap.size,0,none⟩) 1 1) rfl (m:=1) (news:=[.int .u8 (k8:Int)]) h4.reads (by intro u hu;rw[List.mem_singleton.1 hu];rfl) (by unfold maxLen;omega) (by omega) fun v7 W7 h70 _=> ?_
        have h7:=mb h70;refine hK _ _ ⟨fun e=>trivial,?_⟩;clear hK K h70 h5 h4;refine bq (i:=9) (by kernel_rfl) ?_;refine wpOp_step (by rfl) fun K hK=> ?_
        refine jM cP rfl _ _ rfl rfl (mf h7) 0 rfl (x:= .slice (some ⟨b,off,none⟩) j c) rfl (m:=j) (news:=(rest.take j).map bv) (HT.out _ h7.right.right) (dN _) (by unfold maxLen;omega) (by omega) fun v8 W8 h80 _=> ?_
        have h8:=mb h80;refine hK _ _ ⟨fun e=>trivial,?_⟩;clear hK K h80 h7 hS;have hS:(fun _:World=>True) W8:=trivial;refine ay 10 rfl (by kernel_rfl) rfl (fun _ _ _ h=>h) (by assumption) ⟨?_,fun w=> ?_,?_⟩;rotate_left
        ·(go_simp;try with_reducible rfl)
        simp only[Act.put,sA,sZ,sS];refine⟨by kernel_rfl,NoPanic.normal ?_⟩;have h9:St w0 W8 (own 5 1 v8 (zl+1+j) ((Z++[UInt8.ofNat (j-1)]++rest.take j).map bv)*F):=by
         have h6:=(h8.perm (ak _ _ _)).right;rw[List.map_append,List.map_append];rw[show([UInt8.ofNat (j-1)]).map bv=[.int .u8 (k8:Int)] by rw[E8.out];rfl];exact h6
        obtain⟨a3,c3,rfl⟩:=h9.reads.sub;have HZL:=ac (show(Z++[UInt8.ofNat (j-1)]++rest.take j).length=zl+1+j by rw[ae,ae,hQ.out.2.2.1,aL,hQ.out.2.1,j9 (by omega)];rfl);generalize Z++[UInt8.ofNat (j-1)]++rest.take j=Z2 at*
        have H9:=ac h9;clear h8 h9 HJ hs8 hw8 hS;go_wp2_with fail;exact⟨⟨m-j,zl+1+j,rest.drop j,pre++rest.take j,Z2,_,_,c-j,c3,rfl,rfl,ac ⟨by rw[List.append_assoc,ez];exact hQ.out.1,by rw[a8,hQ.out.2.1],HZL.out,HP.out⟩,by omega,by omega,ac fun w h=>(by have h1:=mg (HR.out w h) hQ.out.2.1 (k:=j) (by omega);first | exact h1 | (rw[if_neg (by omega)] at h1;exact h1)),H9.out⟩,by show m-j<m;omega⟩
      ·have hj2I:¬ (j:Int)<128:=by omega
       obtain⟨k8,hk8⟩:∃ k8,k8=j-1:=⟨_,rfl⟩;have hs8:(j:Int)-1=(k8:Int):=by omega
       have hw8:(k8:Int)%256=k8:=by omega
       have hwi:IntKind.i64.wrap (k8:Int)=k8:=IntWalk.i64_in _ (by omega);have hwu:IntKind.u8.wrap (k8:Int)=k8:=IntWalk.u8_in _ (by omega);have E8:=ac (show(.int .u8 (k8:Int):Value)=bv (UInt8.ofNat (j-1)) by rw[bv,← hk8];congr 1;simp;omega);have HP:=ac (hQ.out.2.2.2.lit (b:=rest) (n:=j) (by omega) (by omega) (by rw[hQ.out.2.1];omega));have HT:=ac (fun w h=>sf (HR.out w h) (k:=j) (by omega));have hjc:(j:Int)≤c:=by omega
       have hjm:(j:Int)≤m:=by omega
       clear hk8;go_upto_region 10 with (fail)
       refine wp_region_noPanic ?_;refine io (S:=fun _=>True) (k:=9) (by kernel_rfl) ?_;have hS:(fun _:World=>True) WJ:=trivial;refine ay 0 rfl (by kernel_rfl) rfl (fun _ _ _ h=>h) (by assumption) ⟨?_,fun w=> ?_,?_⟩;rotate_left
       ·(go_simp;try with_reducible rfl)
       simp only[Act.put,sA,sZ,sS];refine ay 1 rfl (by kernel_rfl) rfl (fun _ _ _ h=>h) (by assumption) ⟨?_,fun w=> ?_,?_⟩;rotate_left
       ·(go_simp;try with_reducible rfl)
       simp only[Act.put,sA,sZ,sS];refine ay 2 rfl (by kernel_rfl) rfl (fun _ _ _ h=>h) (by assumption) ⟨?_,fun w=> ?_,?_⟩;rotate_left
       ·(go_simp;try with_reducible rfl)
       simp only[Act.put,sA,sZ,sS];refine ay 3 rfl (by kernel_rfl) rfl (fun _ _ _ h=>h) (by assumption) ⟨?_,fun w=> ?_,?_⟩;rotate_left
       ·(go_simp;try with_reducible rfl)
       simp only[Act.put,sA,sZ,sS];refine ay 6 rfl (by kernel_rfl) rfl (fun _ _ _ h=>h) (by assumption) ⟨?_,fun w=> ?_,?_⟩;rotate_left
       ·(go_simp;try with_reducible rfl)
       simp only[Act.put,sA,sZ,sS];refine ay 7 rfl (by kernel_rfl) rfl (fun _ _ _ h=>h) (by assumption) ⟨?_,fun w=> ?_,?_⟩;rotate_left
       ·(go_simp;try with_reducible rfl)
       simp only[Act.put,sA,sZ,sS];refine ay 8 rfl (by kernel_rfl) rfl (fun _ _ _ h=>h) (by assumption) ⟨?_,fun w=> ?_,?_⟩;rotate_left
       ·(go_simp;try with_reducible rfl)
       simp only[Act.put,sA,sZ,sS];refine bq (i:=4) (by kernel_rfl) ?_;refine wpOp_step (by rfl) fun K hK=> ?_
       have h4:=(HJ.out.lit #[.int .u8 (k8:Int)] 5 1 rfl (by decide)).drew;go_simp;refine hK _ _ ⟨fun e=>trivial,?_⟩;clear hK K;have h5:=h4.perm (ak _ _ _);refine bq (i:=5) (by kernel_rfl) ?_;refine wpOp_step (by rfl) fun K hK=> ?_
       refine jM cP rfl _ _ rfl rfl (mf h5) 0 rfl (x:= .slice (some ⟨WJ.heap.size,0,none⟩) 1 1) rfl (m:=1) (news:=[.int .u8 (k8:Int)]) h4.reads (by intro u hu;rw[List.mem_singleton.1 hu];rfl) (by unfold maxLen;omega) (by omega) fun v7 W7 h70 _=> ?_
       have h7:=mb h70;refine hK _ _ ⟨fun e=>trivial,?_⟩;clear hK K h70 h5 h4;refine bq (i:=9) (by kernel_rfl) ?_;refine wpOp_step (by rfl) fun K hK=> ?_
       refine jM cP rfl _ _ rfl rfl (mf h7) 0 rfl (x:= .slice (some ⟨b,off,none⟩) j c) rfl (m:=j) (news:=(rest.take j).map bv) (HT.out _ h7.right.right) (dN _) (by unfold maxLen;omega) (by omega) fun v8 W8 h80 _=> ?_
       have h8:=mb h80;refine hK _ _ ⟨fun e=>trivial,?_⟩;clear hK K h80 h7 hS;have hS:(fun _:World=>True) W8:=trivial;refine ay 10 rfl (by kernel_rfl) rfl (fun _ _ _ h=>h) (by assumption) ⟨?_,fun w=> ?_,?_⟩;rotate_left
       ·(go_simp;try with_reducible rfl)
       simp only[Act.put,sA,sZ,sS];refine⟨by kernel_rfl,NoPanic.normal ?_⟩;have h9:St w0 W8 (own 5 1 v8 (zl+1+j) ((Z++[UInt8.ofNat (j-1)]++rest.take j).map bv)*F):=by
        have h6:=(h8.perm (ak _ _ _)).right;rw[List.map_append,List.map_append];rw[show([UInt8.ofNat (j-1)]).map bv=[.int .u8 (k8:Int)] by rw[E8.out];rfl];exact h6
       obtain⟨a3,c3,rfl⟩:=h9.reads.sub;have HZL:=ac (show(Z++[UInt8.ofNat (j-1)]++rest.take j).length=zl+1+j by rw[ae,ae,hQ.out.2.2.1,aL,hQ.out.2.1,j9 (by omega)];rfl);generalize Z++[UInt8.ofNat (j-1)]++rest.take j=Z2 at*
       have H9:=ac h9;clear h8 h9 HJ hs8 hw8 hS;go_wp2_with fail;exact⟨⟨m-j,zl+1+j,rest.drop j,pre++rest.take j,Z2,_,_,c-j,c3,rfl,rfl,ac ⟨by rw[List.append_assoc,ez];exact hQ.out.1,by rw[a8,hQ.out.2.1],HZL.out,HP.out⟩,by omega,by omega,ac fun w h=>(by have h1:=mg (HR.out w h) hQ.out.2.1 (k:=j) (by omega);first | exact h1 | (rw[if_neg (by omega)] at h1;exact h1)),H9.out⟩,by show m-j<m;omega⟩
     ·have hjI:¬ (j:Int)<m:=by omega
      obtain⟨k8,hk8⟩:∃ k8,k8=j-1:=⟨_,rfl⟩;have hs8:(j:Int)-1=(k8:Int):=by omega
      have hw8:(k8:Int)%256=k8:=by omega
      have hwi:IntKind.i64.wrap (k8:Int)=k8:=IntWalk.i64_in _ (by omega);have hwu:IntKind.u8.wrap (k8:Int)=k8:=IntWalk.u8_in _ (by omega);have E8:=ac (show(.int .u8 (k8:Int):Value)=bv (UInt8.ofNat (j-1)) by rw[bv,← hk8];congr 1;simp;omega);have HP:=ac (hQ.out.2.2.2.lit (b:=rest) (n:=j) (by omega) (by omega) (by rw[hQ.out.2.1];omega));have HT:=ac (fun w h=>sf (HR.out w h) (k:=j) (by omega));have hjc:(j:Int)≤c:=by omega
      have hjm:(j:Int)≤m:=by omega
      clear hk8;go_upto_region 10 with (fail)
      refine wp_region_noPanic ?_;refine io (S:=fun _=>True) (k:=9) (by kernel_rfl) ?_;have hS:(fun _:World=>True) WJ:=trivial;refine ay 0 rfl (by kernel_rfl) rfl (fun _ _ _ h=>h) (by assumption) ⟨?_,fun w=> ?_,?_⟩;rotate_left
      ·(go_simp;try with_reducible rfl)
      simp only[Act.put,sA,sZ,sS];refine ay 1 rfl (by kernel_rfl) rfl (fun _ _ _ h=>h) (by assumption) ⟨?_,fun w=> ?_,?_⟩;rotate_left
      ·(go_simp;try with_reducible rfl)
      simp only[Act.put,sA,sZ,sS];refine ay 2 rfl (by kernel_rfl) rfl (fun _ _ _ h=>h) (by assumption) ⟨?_,fun w=> ?_,?_⟩;rotate_left
      ·(go_simp;try with_reducible rfl)
      simp only[Act.put,sA,sZ,sS];refine ay 3 rfl (by kernel_rfl) rfl (fun _ _ _ h=>h) (by assumption) ⟨?_,fun w=> ?_,?_⟩;rotate_left
      ·(go_simp;try with_reducible rfl)
      simp only[Act.put,sA,sZ,sS];refine ay 6 rfl (by kernel_rfl) rfl (fun _ _ _ h=>h) (by assumption) ⟨?_,fun w=> ?_,?_⟩;rotate_left
      ·(go_simp;try with_reducible rfl)
      simp only[Act.put,sA,sZ,sS];refine ay 7 rfl (by kernel_rfl) rfl (fun _ _ _ h=>h) (by assumption) ⟨?_,fun w=> ?_,?_⟩;rotate_left
      ·(go_simp;try with_reducible rfl)
      simp only[Act.put,sA,sZ,sS];refine ay 8 rfl (by kernel_rfl) rfl (fun _ _ _ h=>h) (by assumption) ⟨?_,fun w=> ?_,?_⟩;rotate_left
      ·(go_simp;try with_reducible rfl)
      simp only[Act.put,sA,sZ,sS];refine bq (i:=4) (by kernel_rfl) ?_;refine wpOp_step (by rfl) fun K hK=> ?_
      have h4:=(HJ.out.lit #[.int .u8 (k8:Int)] 5 1 rfl (by decide)).drew;go_simp;refine hK _ _ ⟨fun e=>trivial,?_⟩;clear hK K;have h5:=h4.perm (ak _ _ _);refine bq (i:=5) (by kernel_rfl) ?_;refine wpOp_step (by rfl) fun K hK=> ?_
      refine jM cP rfl _ _ rfl rfl (mf h5) 0 rfl (x:= .slice (some ⟨WJ.heap.size,0,none⟩) 1 1) rfl (m:=1) (news:=[.int .u8 (k8:Int)]) h4.reads (by intro u hu;rw[List.mem_singleton.1 hu];rfl) (by unfold maxLen;omega) (by omega) fun v7 W7 h70 _=> ?_
      have h7:=mb h70;refine hK _ _ ⟨fun e=>trivial,?_⟩;clear hK K h70 h5 h4;refine bq (i:=9) (by kernel_rfl) ?_;refine wpOp_step (by rfl) fun K hK=> ?_
      refine jM cP rfl _ _ rfl rfl (mf h7) 0 rfl (x:= .slice (some ⟨b,off,none⟩) j c) rfl (m:=j) (news:=(rest.take j).map bv) (HT.out _ h7.right.right) (dN _) (by unfold maxLen;omega) (by omega) fun v8 W8 h80 _=> ?_
      have h8:=mb h80;refine hK _ _ ⟨fun e=>trivial,?_⟩;clear hK K h80 h7 hS;have hS:(fun _:World=>True) W8:=trivial;refine ay 10 rfl (by kernel_rfl) rfl (fun _ _ _ h=>h) (by assumption) ⟨?_,fun w=> ?_,?_⟩;rotate_left
      ·(go_simp;try with_reducible rfl)
      simp only[Act.put,sA,sZ,sS];refine⟨by kernel_rfl,NoPanic.normal ?_⟩;have h9:St w0 W8 (own 5 1 v8 (zl+1+j) ((Z++[UInt8.ofNat (j-1)]++rest.take j).map bv)*F):=by
       have h6:=(h8.perm (ak _ _ _)).right;rw[List.map_append,List.map_append];rw[show([UInt8.ofNat (j-1)]).map bv=[.int .u8 (k8:Int)] by rw[E8.out];rfl];exact h6
      obtain⟨a3,c3,rfl⟩:=h9.reads.sub;have HZL:=ac (show(Z++[UInt8.ofNat (j-1)]++rest.take j).length=zl+1+j by rw[ae,ae,hQ.out.2.2.1,aL,hQ.out.2.1,j9 (by omega)];rfl);generalize Z++[UInt8.ofNat (j-1)]++rest.take j=Z2 at*
      have H9:=ac h9;clear h8 h9 HJ hs8 hw8 hS;go_wp2_with fail;exact⟨⟨m-j,zl+1+j,rest.drop j,pre++rest.take j,Z2,_,_,c-j,c3,rfl,rfl,ac ⟨by rw[List.append_assoc,ez];exact hQ.out.1,by rw[a8,hQ.out.2.1],HZL.out,HP.out⟩,by omega,by omega,ac fun w h=>(by have h1:=mg (HR.out w h) hQ.out.2.1 (k:=j) (by omega);first | exact h1 | (rw[if_neg (by omega)] at h1;exact h1)),H9.out⟩,by show m-j<m;omega⟩
  ·obtain rfl:m=0:=by omega
   have HST:=ac hst;clear hst;go_wp2_with fail;go_ret;have hr:rest=[]:=List.length_eq_zero_iff.1 hQ.out.2.1;have hp:=hQ.out.2.2.2 [] [] PbS.nil;rw[cy,cy] at hp;have hb:=hQ.out.1;rw[hr,cy] at hb;refine⟨_,Z,rfl,by rw[hb];exact hp,?_⟩;rw[hQ.out.2.2.1];exact HST.out
theorem PbS.cases3 {r y:List UInt8} (h:PbS r y):(r=[]∧y=[])∨(∃ n c r' z',2≤n∧n≤128∧PbS r' z'∧r=List.replicate n c++r'∧y=UInt8.ofNat (257-n)::c::z')∨
  (∃ l r' z',1≤l.length∧l.length≤128∧PbS r' z'∧r=l++r'∧y=UInt8.ofNat (l.length-1)::(l++z')):=by
 cases h with
 | nil=>exact .inl ⟨rfl,rfl⟩
 | run n c r z h1 h2 h=>exact .inr (.inl ⟨n,c,r,z,h1,h2,h,rfl,rfl⟩)
 | lit l r z h1 h2 h=>exact .inr (.inr ⟨l,r,z,h1,h2,h,rfl,rfl⟩)
theorem wi {w:World} {b off n c:Nat} {l:List UInt8} (h:Reads w 1 (.slice (some ⟨b,off,none⟩) n c) n (l.map bv)) {i k:Nat} (hk:i+k≤n):Reads w 1 (.slice (some ⟨b,off+i,none⟩) k (c-i)) k (((l.drop i).take k).map bv):=by
 have:=kg h (i:=i) (j:=i+k) (q9 _ _) hk;rw[Aw,← oE,← jI] at this;have e2:(⟨b,off,none⟩:Addr).add i=⟨b,off+i,none⟩:=by cases i <;> simp [Addr.add]
 rwa [e2] at this
theorem Dl (w:World) (c:Nat):Reads (w.alloc (.cells #[.int .u8 (c:Int)] 5)) 1 (.slice (some ⟨w.heap.size,0,none⟩) 1 1) 1 [.int .u8 (c:Int)]:=
 (St.own_blk (e:=5) (size:=1) (n:=1) (cap:=1) (xs:=[.int .u8 (c:Int)]) ((St.init w).alloc _) (Nat.le_refl _) (by decide) rfl rfl).reads
theorem Dm {w0 w:World} {F:SProp} (h:St w0 w F) {b z t:List UInt8} {v:Value} (hv:Stb w0 F (fun w=>Reads w 1 v (z++t).length ((z++t).map bv))) (hl:(z++t).length≤1000000000) (hz:PbS b z) (hbl:b.length≤1000000):
  Calls Tryz.prog 118 #[v,.int .i64 (b.length:Int)] w fun e w'=>∃ v',e= .returned (.tuple #[v',.int .i64 (z.length:Int),.int .i64 0])∧St w0 w' (own 5 1 v' b.length (b.map bv)*F):=by
 obtain⟨a0,c0,rfl⟩:=(hv w h).sub;obtain⟨T0,hT0⟩:∃ T0,z++t=T0:=⟨_,rfl⟩;rw[hT0] at hl hv ⊢;obtain⟨nl,hnl⟩:∃ nl,b.length=nl:=⟨_,rfl⟩;obtain⟨tl,htl⟩:∃ tl,T0.length=tl:=⟨_,rfl⟩;obtain⟨zl,hzl⟩:∃ zl,z.length=zl:=⟨_,rfl⟩;rw[hnl] at hbl ⊢;rw[htl] at hl hv ⊢;rw[hzl];have HT0:=ac hT0;have HNL:=ac hnl;have HTL:=ac htl;have HZL:=ac hzl;have HPZ:=ac hz;have HV:=ac hv;have H:=ac h;clear hv h hT0 hnl htl hzl hz;have T:=cP;go_enter Tryz.func118,Tryz.ntmps118;go_wp2_with fail;have h1:=H.out.lit #[] 5 0 rfl (by decide);have H1:=ac (show St w0 _ (own 5 1 (.slice (some ⟨w.heap.size,0,none⟩) 0 0) 0 []*F) from h1);clear h1;generalize w.heap.size=g0 at*
 go_loopw [7,8] (fun vo va wr=>∃ (o q:Nat) (O r Zp y:List UInt8) (ao:Option Addr) (co:Nat),vo= .slice ao o co∧va= .int .i64 q∧o≤nl∧q≤zl∧RowKit.Hid (b=O++r∧z=Zp++y∧PbS r y∧O.length=o∧Zp.length=q)∧St w0 wr (own 5 1 (.slice ao o co) o (O.map bv)*F)) (fun vo _ _=>nl-pF vo)
 case atStart=>exact⟨0,0,[],b,[],z,_,0,rfl,rfl,Nat.zero_le _,Nat.zero_le _,ac ⟨rfl,rfl,HPZ.out,rfl,rfl⟩,H1.out⟩
 case round=>
  clear H1 H;obtain⟨o,q,O,r,Zp,y,ao,co,rfl,rfl,ho,hq,hQ,hst⟩:=hrel
  by_cases hon:o<nl
  ·have honI:(o:Int)<nl:=by omega
   rcases hQ.out.2.2.1.cases3 with ⟨rfl,rfl⟩ | ⟨n,c,r',z',hn2,hn128,hp,rfl,rfl⟩ | ⟨l,r',z',hl1,hl128,hp,rfl,rfl⟩
   ·exfalso;have e1:=HNL.out;rw[hQ.out.1,cy,hQ.out.2.2.2.1] at e1;omega
   ·have e1:=HTL.out;have e2:=HZL.out;have e3:=HNL.out;rw[← HT0.out,hQ.out.2.1] at e1;rw[hQ.out.2.1] at e2;rw[hQ.out.1] at e3;simp only[ae,aO,df,hQ.out.2.2.2.1,hQ.out.2.2.2.2] at e1 e2 e3;have g0':T0[q]? =some (UInt8.ofNat (257-n)):=by rw[← HT0.out,hQ.out.2.1,← hQ.out.2.2.2.2];simp
    have g1':T0[q+1]? =some c:=by rw[← HT0.out,hQ.out.2.1,← hQ.out.2.2.2.2];simp
    obtain⟨bb,off,rfl,hc0⟩:=(HV.out _ hst.right).at_ (show q<tl by omega);obtain⟨b',off',ee,hc1⟩:=(HV.out _ hst.right).at_ (show q+1<tl by omega);cases ee;rw[aC,g0'] at hc0;rw[aC,g1'] at hc1;simp only[b7,bv] at hc0 hc1;have hb8:(UInt8.ofNat (257-n)).toNat=257-n:=by simp;omega
    rw[hb8] at hc0;obtain⟨k8,hk8⟩:∃ k8,257-n=k8:=⟨_,rfl⟩;rw[hk8] at hc0;have HQN:=ac (show b=(O++List.replicate n c)++r'∧z=(Zp++[UInt8.ofNat (257-n),c])++z'∧PbS r' z'∧(O++List.replicate n c).length=o+n∧(Zp++[UInt8.ofNat (257-n),c]).length=q+2 from
     ⟨by rw[List.append_assoc];exact hQ.out.1,by rw[List.append_assoc];exact hQ.out.2.1,hp,by rw[ae,df,hQ.out.2.2.2.1],by rw[ae,hQ.out.2.2.2.2];rfl⟩)
    have hqt:(q:Int)<tl:=by omega
    have hqt1:(q:Int)+1<tl:=by omega
    obtain⟨cn,hcn⟩:∃ cn:Int,cn=1-n:=⟨_,rfl⟩;have hwr:IntKind.i8.wrap (k8:Int)=cn:=by
     simp only[IntKind.wrap,IntKind.bits,IntKind.signed];simp;split <;> omega
    have hcw:wrap64 cn=cn:=by rw[wrap64];omega
    have hc128:¬ cn= -128:=by omega
    have hc0I:cn<0:=by omega
    have hcs:(1:Int)-cn=(n:Int):=by omega
    obtain⟨q1,hq1⟩:∃ q1,q+1=q1:=⟨_,rfl⟩;rw[hq1] at hc1;have hq1I:(q:Int)+1=(q1:Int):=by omega
    have HST:=ac hst;have hq1t:q1<tl:=by omega
    have hq1tI:¬ (tl:Int)≤q1:=by omega
    have HB:=ac (⟨hq1,hn2,hn128,e2,e3,e1⟩:_∧_∧_∧_∧_∧_);have HG1:=ac (show T0[q1]? =some c by rw[← hq1];exact g1');clear hst hQ g0' g1' hb8 hp hk8 hcn e1 e2 e3 hq1 hc1;go_wp2_with fail
    go_loopw [7,61] (fun vo vi wr=>∃ (i:Nat) (ai:Option Addr) (ci:Nat),i≤n∧vi= .int .i64 i∧vo= .slice ai (o+i) ci∧St w0 wr (own 5 1 (.slice ai (o+i) ci) (o+i) ((O++List.replicate i c).map bv)*F)) (fun _ vi _=>n-(intOf vi).toNat)
    case atStart=>exact⟨0,ao,co,Nat.zero_le _,rfl,rfl,by simpa using HST.out⟩
    case round=>
     obtain⟨i,ai,ci,hi,rfl,rfl,hsi⟩:=hrel
     by_cases hin:i<n
     ·have hinI:(i:Int)<n:=by omega
      obtain⟨b',off',ee,hc1⟩:=(HV.out _ hsi.right).at_ hq1t;cases ee;rw[aC,HG1.out] at hc1;simp only[b7,bv] at hc1;have HSI:=ac hsi;clear hsi;go_wp2_with (at_builtin;apply ap);refine on (aG T rfl _ _ rfl rfl (HSI.out.drop_alloc (.cells #[.int .u8 (c.toNat:Int)] 5)) rfl (Dl _ c.toNat) (by intro u hu;rw[List.mem_singleton.1 hu];rfl) (by unfold maxLen;omega) (by omega) ?_);intro v7 w7 h7 _;have h7:St w0 w7 (own 5 1 v7 (o+(i+1)) ((O++List.replicate (i+1) c).map bv)*F):=by
       have e:(O++List.replicate (i+1) c).map bv=(O++List.replicate i c).map bv++[.int .u8 (c.toNat:Int)]:=by
        rw[iO,← List.append_assoc,List.map_append];rfl
       rw[e,← da];exact h7
      obtain⟨a7,c7,rfl⟩:=h7.reads.sub;have H7:=ac h7;clear h7 HSI;go_wp2_with fail;exact⟨⟨i+1,a7,c7,by omega,by go_num,rfl,H7.out⟩,by simp [intOf];omega⟩
     ·obtain rfl:i=n:=by omega
      have HSI:=ac hsi;have hle:o+i≤nl:=by have:=HB.out.2.2.2.2.1;omega
      clear hsi;go_wp2_with fail;exact⟨⟨o+i,q+2,_,r',_,z',ai,ci,rfl,by have:=HB.out.1;go_num,hle,by have:=HB.out;omega,HQN,HSI.out⟩,by have:=HB.out;simp only[pF];omega⟩
   ·obtain⟨k,hk⟩:∃ k,l.length=k:=⟨_,rfl⟩;have e1:=HTL.out;have e2:=HZL.out;have e3:=HNL.out;rw[← HT0.out,hQ.out.2.1] at e1;rw[hQ.out.2.1] at e2;rw[hQ.out.1] at e3;simp only[ae,aO,hQ.out.2.2.2.1,hQ.out.2.2.2.2,hk] at e1 e2 e3;rw[hk] at hl1 hl128;have g0':T0[q]? =some (UInt8.ofNat (k-1)):=by rw[← HT0.out,hQ.out.2.1,← hQ.out.2.2.2.2,hk];simp
    have g1':(T0.drop (q+1)).take k=l:=by
     have ee:T0=(Zp++[UInt8.ofNat (l.length-1)])++(l++(z'++t)):=by rw[← HT0.out,hQ.out.2.1];simp
     rw[ee,uy (by rw[ae,hQ.out.2.2.2.2];rfl),mW hk]
    obtain⟨bb,off,rfl,hc0⟩:=(HV.out _ hst.right).at_ (show q<tl by omega);rw[aC,g0'] at hc0;simp only[b7,bv] at hc0;have hb8:(UInt8.ofNat (k-1)).toNat=k-1:=by simp;omega
    rw[hb8] at hc0;obtain⟨k8,hk8⟩:∃ k8,k-1=k8:=⟨_,rfl⟩;rw[hk8] at hc0;have hHQ:=hQ.out;rw[hk] at hHQ;have HQN:=ac (show b=(O++l)++r'∧z=(Zp++(UInt8.ofNat (k-1)::l))++z'∧PbS r' z'∧(O++l).length=o+k∧(Zp++(UInt8.ofNat (k-1)::l)).length=q+k+1 from
     ⟨by rw[List.append_assoc];exact hHQ.1,by rw[hHQ.2.1];simp,hp,by rw[ae,hHQ.2.2.2.1,hk],by rw[ae,hHQ.2.2.2.2,aO,hk];omega⟩)
    have hqt:(q:Int)<tl:=by omega
    have hwr:IntKind.i8.wrap (k8:Int)=k8:=IntWalk.i8_in _ (by omega);have hc128:¬ (k8:Int)= -128:=by omega
    have hc0I:¬ (k8:Int)<0:=by omega
    obtain⟨q1,hq1⟩:∃ q1,q+1=q1:=⟨_,rfl⟩;have hq1I:(q:Int)+1=(q1:Int):=by omega
    have hk1I:(k8:Int)+1=(k:Int):=by omega
    obtain⟨q2,hq2⟩:∃ q2,q1+k=q2:=⟨_,rfl⟩;have hq2I:(q1:Int)+k=(q2:Int):=by omega
    obtain⟨q3,hq3⟩:∃ q3,q1+k8=q3:=⟨_,rfl⟩;have hq3I:(q1:Int)+k8=(q3:Int):=by omega
    have hq4I:(q3:Int)+1=(q2:Int):=by omega
    obtain⟨tq,htq⟩:∃ tq,tl-q1=tq:=⟨_,rfl⟩;have htqI:(tl:Int)-q1=(tq:Int):=by omega
    have hktq:¬ (tq:Int)<k:=by omega
    have hcap:=(iq (HV.out _ hst.right)).1;have hq12:(q1:Int)≤q2:=by omega
    have hq2c:(q2:Int)≤c0:=by omega
    have hcq1:¬ c0=q1:=by omega
    have hsub:q2-q1=k:=by omega
    have HRD:=ac (fun w h=>show Reads w 1 (.slice (some ⟨bb,off+q1,none⟩) k (c0-q1)) k (l.map bv) by
     have:=wi (HV.out w h) (i:=q1) (k:=k) (by omega);rwa [← hq1,g1',hq1] at this)
    have HST:=ac hst;have HB:=ac (⟨hq1,hq2,hl1,hl128,e2,e3,e1⟩:_∧_∧_∧_∧_∧_∧_);clear hst hQ g0' g1' hb8 hp hk8 e1 e2 e3 hq1 hHQ hk hq2 hq3 htq;go_wp2_with (at_builtin;apply ap);refine on (aG T rfl _ _ rfl rfl HST.out rfl (HRD.out _ HST.out.right) (dN l) (by unfold maxLen;omega) (by have:=HB.out;omega) ?_);intro v7 w7 h7 _;rw[← List.map_append] at h7;obtain⟨a7,c7,rfl⟩:=h7.reads.sub;have H7:=ac h7;have hle:o+k≤nl:=by have:=HB.out;omega
    clear h7 HST;go_wp2_with fail;exact⟨⟨o+k,q+k+1,_,r',_,z',a7,c7,rfl,by have:=HB.out;go_num,hle,by have:=HB.out;omega,HQN,H7.out⟩,by have:=HB.out;simp only[pF];omega⟩
  ·obtain rfl:o=nl:=by omega
   have hr0:r=[]:=by
    have e3:=HNL.out;rw[hQ.out.1,ae,hQ.out.2.2.2.1] at e3;exact bG (by omega)
   have hqz:q=zl:=by
    subst hr0;have e2:=HZL.out
    rcases hQ.out.2.2.1.cases3 with ⟨_,rfl⟩ | ⟨n,c,r',z',hn2,hn128,hp,h1,rfl⟩ | ⟨l,r',z',hl1,hl128,hp,h1,rfl⟩
    ·rw[hQ.out.2.1,cy,hQ.out.2.2.2.2] at e2;exact e2
    ·have:=congrArg List.length h1;simp at this;omega
    ·have:=congrArg List.length h1;simp at this;omega
   subst hr0;subst hqz;have hOb:b=O:=by rw[hQ.out.1,cy]
   rw[← hOb] at hst;have HS:=ac hst;clear hst hOb;go_wp2_with fail
   go_ret3
   exact⟨_,rfl,HS.out⟩
end Go.Proofs.YtboflbdniogcdaaGreatDoor
