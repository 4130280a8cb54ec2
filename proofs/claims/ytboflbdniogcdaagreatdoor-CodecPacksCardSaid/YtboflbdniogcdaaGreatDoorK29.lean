/-
  Parts of a proof.
-/
import Derived.Test.YtboflbdniogcdaaGreatDoorK27
import Derived.Test.YtboflbdniogcdaaGreatDoorK28
set_option linter.unusedVariables false
set_option linter.unusedSimpArgs false
set_option maxRecDepth 100000
set_option maxHeartbeats 100000000
namespace Go.Proofs.YtboflbdniogcdaaGreatDoor
open Go.RowKit Go.Mz
def eN (n:Nat):List Nat:=List.replicate (n/2560) 103++((if 64≤n%2560 then [63+n%2560/64] else [])++[n%2560%64])
def aM (black:Bool) (n:Nat):List Nat:=fC (aI black) (eN n)
theorem vN {n:Nat} (h:2560≤n):eN n=103::eN (n-2560):=by
 have e1:n/2560=(n-2560)/2560+1:=by omega
 have e2:n%2560=(n-2560)%2560:=by omega
 rw[eN,eN,e1,e2,jr];rfl
theorem vO {n:Nat} (h:n<2560) (h2:64≤n):eN n=(63+n/64)::eN (n%64):=by
 have e1:n/2560=0:=by omega
 have e2:n%2560=n:=by omega
 have e3:n%64/2560=0:=by omega
 have e4:n%64%2560=n%64:=by omega
 have e5:n%64%64=n%64:=by omega
 rw[eN,eN,e1,e2,e3,e4,e5,if_pos h2,if_neg (by omega)];rfl
theorem rD {n:Nat} (h:n<64):eN n=[n]:=by
 have e1:n/2560=0:=by omega
 have e2:n%2560=n:=by omega
 have e5:n%64=n:=by omega
 rw[eN,e1,e2,e5,if_neg (by omega)];rfl
theorem DA {n:Nat}:∀ i∈eN n,i<104:=by
 intro i hi;rw[eN] at hi
 rcases cA.1 hi with hi | hi
 ·rw[mg] at hi;omega
 ·rcases cA.1 hi with hi | hi
  ·split at hi
   ·rw[List.mem_singleton] at hi;omega
   ·cases hi
  ·rw[List.mem_singleton] at hi;omega
theorem kJ (W:List (List Nat)) (i:Nat) (K:List Nat):fC W (i::K)=W.getD i []++fC W K:=by simp [fC]
def vP (W:List (List Nat)) (t:List Nat) (most:Int):Nat→Nat→Nat→Nat × (Nat ⊕ Nat)
 | 0,p,_=>(p,.inr 99)
 | f+1,p,n=>
  match bG W [] (t.drop p) with
  | (k,.inr e)=>(p+k,.inr e)
  | (k,.inl i)=>if most<((n+gE i:Nat):Int) then(p+k,.inr 5) else if i<64 then(p+k,.inl (n+gE i)) else vP W t most f (p+k) (n+gE i)
def vQ (black:Bool) (t:List Nat) (most:Int) (p:Nat):Nat × (Nat ⊕ Nat):=vP (aI black) t most (t.length+1-p) p 0
theorem DB {w0 w:World} {C:Nat} {F:SProp} (h:St w0 w (bc C*F)) (black:Bool):∃ (B:Nat) (R:SProp),
  St w0 w (b8 B (aI black) bx*(R*F))∧(∀ w' G,St w0 w' (b8 B (aI black) bx*(R*G))→St w0 w' (bc C*G))∧
  (∀ w' G,St w0 w' (b8 B (aI black) bx*(R*G))→Calls Tryz.prog 180 #[.pointer (some ⟨C,0,none⟩),.bool black] w' fun e w''=>e= .returned (.pointer (some ⟨B,0,none⟩))∧w'=w''):=by
 obtain⟨B0,B1,Bm,h1⟩:=vJ h;cases black
 ·refine⟨B0,blk C (.cells #[.pointer (some ⟨B0,0,none⟩),.pointer (some ⟨B1,0,none⟩),.pointer (some ⟨Bm,0,none⟩)] 186)*(b8 B1 (aI true) bx*fO Bm aL gf),h1.perm (by ac_rfl),fun w' G h'=>oL (h'.perm (by ac_rfl)),fun w' G h'=> ?_⟩;have h2:=h'.perm (show _=blk C (.cells #[.pointer (some ⟨B0,0,none⟩),.pointer (some ⟨B1,0,none⟩),.pointer (some ⟨Bm,0,none⟩)] 186)*(b8 B0 (aI false) bx*(b8 B1 (aI true) bx*(fO Bm aL gf*G))) by ac_rfl);have c0:=h2.cell 0 rfl;clear h h1 h' h2;go_enter Tryz.func180,Tryz.ntmps180;go_wp2_with fail;go_ret;exact⟨rfl,rfl⟩
 ·refine⟨B1,blk C (.cells #[.pointer (some ⟨B0,0,none⟩),.pointer (some ⟨B1,0,none⟩),.pointer (some ⟨Bm,0,none⟩)] 186)*(b8 B0 (aI false) bx*fO Bm aL gf),h1.perm (by ac_rfl),fun w' G h'=>oL (h'.perm (by ac_rfl)),fun w' G h'=> ?_⟩;have h2:=h'.perm (show _=blk C (.cells #[.pointer (some ⟨B0,0,none⟩),.pointer (some ⟨B1,0,none⟩),.pointer (some ⟨Bm,0,none⟩)] 186)*(b8 B0 (aI false) bx*(b8 B1 (aI true) bx*(fO Bm aL gf*G))) by ac_rfl);have c1:=h2.cell 1 rfl;clear h h1 h' h2;go_enter Tryz.func180,Tryz.ntmps180;go_wp2_with fail;go_ret;exact⟨rfl,rfl⟩
theorem oN {w0 w:World} {C Wb:Nat} {F:SProp} {l:List Nat} {low:Bool} (h:St w0 w (bc C*(az Wb l low*F))) (n:Nat) (hn:n≤32768) (black:Bool) (hm:l.length≤1000000000) {j:Int} (hj:j=n):
  Calls Tryz.prog 142 #[.pointer (some ⟨C,0,none⟩),.pointer (some ⟨Wb,0,none⟩),.int .i64 j,.bool black] w fun e w'=>e= .returned (.int .i64 0)∧St w0 w' (bc C*(az Wb (l++aM black n) low*F)):=by
 subst hj;obtain⟨B,R,h1,HS,HBK⟩:=DB h black;have HSH:=ac HS;have HC1:=ac (HBK _ _ h1);clear HS HBK h;have H1:=ac h1;clear h1;have HTL:=ac (show l++aM black n=l++fC (aI black) (eN n) from rfl);generalize l++aM black n=RES at*
 go_enter Tryz.func142,Tryz.ntmps142;go_wp2_with fail;refine HC1.out.mono ?_;rintro e w1 ⟨rfl,rfl⟩;clear HC1;go_wp2_with fail
 go_loopw [2] (fun vn wr=>∃ (m:Nat) (l':List Nat),vn= .int .i64 m∧m≤32768∧l'.length+13*m≤1000500000∧l'++fC (aI black) (eN m)=RES∧St w0 wr (b8 B (aI black) bx*(R*(az Wb l' low*F)))) (fun vn _=>(intOf vn).toNat)
 case atStart=>exact⟨n,l,rfl,hn,by omega,HTL.out.symm,H1.out⟩
 case round=>
  clear H1 HTL;obtain⟨m,l',rfl,hm9,hl',hres,hst⟩:=hrel;have hst2:=hst.perm (show _=b8 B (aI black) bx*(az Wb l' low*(R*F)) by ac_rfl)
  by_cases h64:64≤m
  ·have h64':(64:Int)≤m:=by omega
   by_cases hg:2560≤m
   ·have hg':(2560:Int)≤m:=by omega
    rw[vN hg,kJ] at hres;obtain⟨v,hv,hvn⟩:=oK black (i:=103) (by omega);have hvl:=kG black v (aG hv);have hvb:=mL black v (aG hv);have hvg:(aI black).getD 103 []=v:=by rw[List.getD_eq_getElem?_getD,hv];rfl
    rw[hvg,← List.append_assoc] at hres;have HC:=ac (rA hst2 (j:=(103:Int)) 103 rfl hv hvn hvb (by omega) (by omega));have HR:=ac hres;clear hres hst hst2 hv;have hmin:min (m:Int) 2560=2560:=by omega
    have hs:(m:Int)-2560=((m-2560:Nat):Int):=by omega
    go_wp2_with fail;refine HC.out.mono ?_;rintro e w2 ⟨rfl,h3⟩;have H3:=ac (h3.perm (show _=b8 B (aI black) bx*(R*(az Wb (l'++v) low*F)) by ac_rfl));clear h3;go_wp2_with fail;exact⟨⟨m-2560,l'++v,by first | rfl | go_num,by omega,by rw[ae];omega,HR.out,H3.out⟩,by simp [intOf];omega⟩
   ·have hg':¬ (2560:Int)≤m:=by omega
    rw[vO (by omega) h64,kJ] at hres;obtain⟨v,hv,hvn⟩:=oK black (i:=63+m/64) (by omega);have hvl:=kG black v (aG hv);have hvb:=mL black v (aG hv);have hvg:(aI black).getD (63+m/64) []=v:=by rw[List.getD_eq_getElem?_getD,hv];rfl
    rw[hvg,← List.append_assoc] at hres;obtain⟨i,hi⟩:∃ i,i=63+m/64:=⟨_,rfl⟩;rw[← hi] at hv;have HC:=ac (rA hst2 (j:=(i:Int)) i rfl hv hvn hvb (by omega) (by omega));have HR:=ac hres;clear hres hst hst2 hv;have hmin:min (m:Int) 2560=(m:Int):=by omega
    obtain⟨kq,hkq⟩:∃ kq,kq=m/64:=⟨_,rfl⟩;obtain⟨r0,hr0⟩:∃ r0,r0=64*kq:=⟨_,rfl⟩;obtain⟨m2,hm2⟩:∃ m2,m2=m%64:=⟨_,rfl⟩;rw[← hm2] at HR;have hq:(m:Int)/64=(kq:Int):=by omega
    have hii:(63:Int)+(kq:Int)=(i:Int):=by omega
    have hs0:(64:Int)*(kq:Int)=(r0:Int):=by omega
    have hs:(m:Int)-(r0:Int)=(m2:Int):=by omega
    have hb1:kq≤39:=by omega
    have hb2:r0≤2560:=by omega
    have hb3:m2<64:=by omega
    have hb4:m2≤m-64:=by omega
    have hb5:i<104:=by omega
    clear hi hkq hr0 hm2 hvg;go_wp2_with fail;refine HC.out.mono ?_;rintro e w2 ⟨rfl,h3⟩;have H3:=ac (h3.perm (show _=b8 B (aI black) bx*(R*(az Wb (l'++v) low*F)) by ac_rfl));clear h3;go_wp2_with fail;exact⟨⟨m2,l'++v,by first | rfl | go_num,by omega,by rw[ae];omega,HR.out,H3.out⟩,by simp [intOf];omega⟩
  ·have h64':¬ (64:Int)≤m:=by omega
   rw[rD (by omega)] at hres;obtain⟨v,hv,hvn⟩:=oK black (i:=m) (by omega);have hvl:=kG black v (aG hv);have hvb:=mL black v (aG hv);have hvg:fC (aI black) [m]=v:=by simp [fC,hv]
   rw[hvg] at hres;have HC:=ac (rA hst2 (j:=(m:Int)) m rfl hv hvn hvb (by omega) (by omega));have HR:=ac hres;clear hres hst hst2 hv hvg;go_wp2_with fail;refine HC.out.mono ?_;rintro e w2 ⟨rfl,h3⟩;have H3:=ac (h3.perm (show _=b8 B (aI black) bx*(R*(az Wb (l'++v) low*F)) by ac_rfl));clear h3;go_wp2_with fail;go_ret;exact⟨rfl,by rw[← HR.out];exact HSH.out _ _ H3.out⟩
theorem DC {i:Nat} (h:i<10):∃ w,aL[i]? =some w∧w≠[]:=by
 have hl:i<aL.length:=by rw[mM];exact h
 refine⟨_,ai hl,fun h0=> ?_⟩;have:=(oJ _ (bo hl)).1;rw[h0] at this;exact absurd this (by decide)
theorem rE {w0 w:World} {C Wb:Nat} {F:SProp} {l:List Nat} {low:Bool} (h:St w0 w (bc C*(az Wb l low*F))) (i:Nat) (hi:i≤8) (hm:l.length≤1000000000) {j:Int} (hj:j=(i:Int)-3):
  Calls Tryz.prog 145 #[.pointer (some ⟨C,0,none⟩),.pointer (some ⟨Wb,0,none⟩),.int .i64 j] w fun e w'=>e= .returned (.int .i64 0)∧St w0 w' (bc C*(az Wb (l++aL.getD i []) low*F)):=by
 obtain⟨B0,B1,Bm,h1⟩:=vJ h;have c2:=h1.cell 2 rfl;obtain⟨v,hv,hvn⟩:=DC (i:=i) (by omega);have hvl:=oJ v (aG hv);have hvb:=rv v (aG hv);have hvg:aL.getD i []=v:=by rw[List.getD_eq_getElem?_getD,hv];rfl
 rw[hvg];have HC:=ac (Dw (h1.perm (show _=fO Bm aL gf*(az Wb l low*(blk C (.cells #[.pointer (some ⟨B0,0,none⟩),.pointer (some ⟨B1,0,none⟩),.pointer (some ⟨Bm,0,none⟩)] 186)*(b8 B0 (aI false) bx*(b8 B1 (aI true) bx*F)))) by ac_rfl)) (j:=(i:Int)) i rfl hv hvn hvb (by omega) (by omega));clear h h1 hv hvg;have h1:¬ j< -3:=by omega
 have h2:¬ 5<j:=by omega
 have h3:j- -3=(i:Int):=by omega
 have h4:j+3=(i:Int):=by omega
 have hdj:decide (j< -3)=false:=by simpa using h1
 clear hj;go_enter Tryz.func145,Tryz.ntmps145;go_wp2_with fail;refine HC.out.mono ?_;rintro e w2 ⟨rfl,h5⟩;have H5:=ac h5;clear h5;go_wp2_with fail;go_ret;exact⟨rfl,oL (H5.out.perm (by ac_rfl))⟩
end Go.Proofs.YtboflbdniogcdaaGreatDoor
