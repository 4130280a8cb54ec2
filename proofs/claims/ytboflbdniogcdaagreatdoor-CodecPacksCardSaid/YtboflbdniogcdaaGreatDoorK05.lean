/-
  Parts of a proof.
-/
import Derived.RegionTactic
import Derived.BigRegion
import Derived.Deep.Cut
import Derived.Test.YtboflbdniogcdaaGreatDoorK02
import Derived.Test.YtboflbdniogcdaaGreatDoorK04
set_option linter.unusedVariables false
set_option linter.unusedSimpArgs false
set_option maxRecDepth 100000
set_option maxHeartbeats 100000000
namespace Go.Proofs.YtboflbdniogcdaaGreatDoor
open Go.RowKit Go.Mz
def az (B:Nat) (l:List Nat) (low:Bool):SProp:=
 gt fun v:Value=>iW (Bit l∧l.length≤100000000000000)*(blk B (.cells #[v,.int .i64 (l.length:Int),.bool low] 175 (0,0))*own 5 1 v ((l.length+7)/8) ((aq low l).map bv))
theorem mv {w0 w:World} {B:Nat} {l:List Nat} {low:Bool} {F:SProp} (h:St w0 w (az B l low*F)):
  Bit l∧l.length≤100000000000000∧∃ v,St w0 w (blk B (.cells #[v,.int .i64 (l.length:Int),.bool low] 175 (0,0))*(own 5 1 v ((l.length+7)/8) ((aq low l).map bv)*F)):=by
 obtain⟨v,h⟩:=h.ex_l;have h:=h.perm (bk _ _ _);obtain⟨⟨h1,h2⟩,h⟩:=h.pure_l;exact⟨h1,h2,v,h.perm (bk _ _ _)⟩
theorem qK {w0 w:World} {B:Nat} {l:List Nat} {low:Bool} {F:SProp} {v:Value} (h1:Bit l) (h2:l.length≤100000000000000)
  (h:St w0 w (blk B (.cells #[v,.int .i64 (l.length:Int),.bool low] 175 (0,0))*(own 5 1 v ((l.length+7)/8) ((aq low l).map bv)*F))):St w0 w (az B l low*F):=by
 refine St.mk_ex_l v ?_;refine St.perm ?_ (bk _ _ _).symm;exact St.mk_pure_l ⟨h1,h2⟩ (h.perm (bk _ _ _).symm)
theorem kC {w0 w:World} {low:Bool} {F:SProp} (h:St w0 w F):
  Calls Tryz.prog 84 #[.bool low] w fun e w'=>∃ B,e= .returned (.pointer (some ⟨B,0,none⟩))∧St w0 w' (az B [] low*F):=by
 have H:=ac h;clear h;go_enter Tryz.func84,Tryz.ntmps84;go_wp2_with fail;go_ret;refine⟨_,rfl,qK (v:= .slice none 0 0) (by intro b hb;cases hb) (Nat.zero_le _) ?_⟩;exact((H.out.own_nil 5 1).alloc _)
theorem tW {w0 w:World} {B:Nat} {l:List Nat} {low:Bool} {F:SProp} {c:Nat} {bs:List UInt8} {g cap:Nat} (hb:Bit l) (hc:c≤1) (hlen:bs.length=l.length/8+1)
  (hbs:∀ i,i<l.length/8→bs[i]? =some (UInt8.ofNat (byteB low l i))) (hm:l.length<100000000000000) (u z:Value)
  (hu:u= .int .u8 (byteB low (l++[c]) (l.length/8))) (hz:z= .int .i64 ((l++[c]).length:Nat))
  (h:St w0 w (blk B (.cells #[.slice (some ⟨g,0,none⟩) (l.length/8+1) cap,.int .i64 (l.length:Int),.bool low] 175 (0,0))*(own 5 1 (.slice (some ⟨g,0,none⟩) (l.length/8+1) cap) (l.length/8+1) (bs.map bv)*F))):
  St w0 (((w.setCell ⟨g,l.length/8,none⟩ u)).setCell ⟨B,1,none⟩ z) (az B (l++[c]) low*F):=by
 have hbc:Bit (l++[c]):=hb.append (fun b hb=>by simp at hb;omega);have e:((l++[c]).length+7)/8=l.length/8+1:=by simp;omega
 have h1:=((h.perm (af _ _ _)).own_set (l.length/8) u).perm (af _ _ _);have h2:=h1.set 1 z;refine qK hbc (by simp;omega) (v:= .slice (some ⟨g,0,none⟩) (l.length/8+1) cap) ?_;rw[e,← Aj low c bs hlen hbs,ez];have e2:bv (UInt8.ofNat (byteB low (l++[c]) (l.length/8)))=u:=by rw[hu,bv,mp low hbc]
 rw[e2];rw[hz] at h2 ⊢;exact h2
structure PutMid (w0 w:World) (B:Nat) (l:List Nat) (low:Bool) (F:SProp) (bs:List UInt8) (g cap:Nat):Prop where
 len:bs.length=l.length/8+1
 old:∀ i,i<l.length/8→bs[i]? =some (UInt8.ofNat (byteB low l i))
 last:bs[l.length/8]? =some (UInt8.ofNat (byteB low l (l.length/8)))
 st:St w0 w (blk B (.cells #[.slice (some ⟨g,0,none⟩) (l.length/8+1) cap,.int .i64 (l.length:Int),.bool low] 175 (0,0))*(own 5 1 (.slice (some ⟨g,0,none⟩) (l.length/8+1) cap) (l.length/8+1) (bs.map bv)*F))
theorem Ax {w0 w:World} {B:Nat} {l:List Nat} {low:Bool} {F:SProp} {a:Option Addr} {cap:Nat} (h8:¬ l.length%8=0)
  (h:St w0 w (blk B (.cells #[.slice a ((l.length+7)/8) cap,.int .i64 (l.length:Int),.bool low] 175 (0,0))*(own 5 1 (.slice a ((l.length+7)/8) cap) ((l.length+7)/8) ((aq low l).map bv)*F))):
  ∃ g,a=some ⟨g,0,none⟩∧PutMid w0 w B l low F (aq low l) g cap:=by
 have e:(l.length+7)/8=l.length/8+1:=by omega
 obtain⟨g,rfl⟩:=bR h.right (by omega);rw[e] at h;exact⟨g,rfl,by simp;omega,fun i hi=>mn low l i (by omega),mn low l _ (by omega),h⟩
theorem Ay {w0 w:World} {B:Nat} {l:List Nat} {low:Bool} {F:SProp} {a:Option Addr} {cap:Nat} (h8:l.length%8=0)
  (h:St w0 w (blk B (.cells #[.slice a ((l.length+7)/8+1) cap,.int .i64 (l.length:Int),.bool low] 175 (0,0))*(own 5 1 (.slice a ((l.length+7)/8+1) cap) ((l.length+7)/8+1) ((aq low l).map bv++[(0:UInt8)].map bv)*F))):
  ∃ g,a=some ⟨g,0,none⟩∧PutMid w0 w B l low F (aq low l++[0]) g cap:=by
 have e:(l.length+7)/8=l.length/8:=by omega
 obtain⟨g,rfl⟩:=bR h.right (by omega);rw[e,← List.map_append] at h;refine⟨g,rfl,by simp;omega,fun i hi=> ?_,?_,h⟩
 ·rw[cR (by simp;omega)];exact mn low l i (by omega)
 ·rw[dh (by simp;omega)];have z:byteB low l (l.length/8)=0:=by
   unfold byteB;rw[ml low (g:=fun _=>0) 8 (fun j _=>by rw[List.getD_eq_getElem?_getD,bg (by omega)];rfl),Ae]
  rw[z];simp [e]
theorem mw {w0 w:World} {B:Nat} {l:List Nat} {low:Bool} {F:SProp} (h:St w0 w (az B l low*F)) {i:Int} (c:Nat) (hi:i=c) (hc:c≤1) (hm:l.length<100000000000000):
  Calls Tryz.prog 132 #[.pointer (some ⟨B,0,none⟩),.int .u32 i] w fun e w'=>e= .returned (.tuple #[])∧St w0 w' (az B (l++[c]) low*F):=by
 subst hi;obtain⟨hb,_,v,h⟩:=mv h;have c0:w.cell? ⟨B,0,none⟩=some v:=h.cell 0 rfl;have c1:w.cell? ⟨B,1,none⟩=some (.int .i64 (l.length:Int)):=h.cell 1 rfl;obtain⟨a,cap,rfl⟩:=h.right.reads.sub;have T:=eh
 by_cases h8:l.length%8=0
 ·have h8'':((l.length:Int)%8==0)=true:=by simp;omega
  have H:=ac h;clear h;go_enter Tryz.func132,Tryz.ntmps132;go_wp2_with (at_builtin;apply ag);refine on (aC T rfl (.tmp 15) (.tmp 16) rfl rfl ((H.out.drop_alloc _).perm (af _ _ _)) rfl (kt w 5 0 rfl) (gx [0]) ?_ ?_ ?_)
  ·unfold maxLen;omega
  ·omega
  intro v' w3 h4 _;have h4:=h4.perm (af _ _ _);have f0:=h4.free 0;have c0:w3.cell? ⟨B,0,none⟩=some (.slice a ((l.length+7)/8) cap):=h4.cell 0 rfl;obtain⟨a',cap',rfl⟩:=h4.right.reads.sub;have h5:=h4.set 0 (.slice a' ((l.length+7)/8+1) cap');have H5:=ac h5;clear h5 h4;go_upto_region 2 with (fail)
  generalize w3.setCell ⟨B,0,none⟩ (.slice a' ((l.length+7)/8+1) cap')=w4 at*
  obtain⟨g,rfl,M⟩:=Ay h8 H5.out;clear H5 f0 c0 c1 T H h8 h8'' h;generalize hbs:aq low l++[0]=bs at*
  have d0:w4.cell? ⟨B,0,none⟩=some (.slice (some ⟨g,0,none⟩) (l.length/8+1) cap'):=M.st.cell 0 rfl;have d1:w4.cell? ⟨B,1,none⟩=some (.int .i64 (l.length:Int)):=M.st.cell 1 rfl;have d2:w4.cell? ⟨B,2,none⟩=some (.bool low):=M.st.cell 2 rfl;have dc:w4.cell? ⟨g,l.length/8,none⟩=some (.int .u8 (byteB low l (l.length/8))):=
   M.st.right.own_cell (i:=l.length/8) (by rw[au,M.last];simp only[cB,bv,mp low hb])
  have fg:=M.st.right.own_free (l.length/8);have f1:=M.st.free 1;have hne:=M.st.own_ne;have hne':¬ B=g:=fun e=>hne e.symm
  have hby:=mm low hb (l.length/8);have hor:=ac (tM low hb hc);have MM:=ac (fun u z hu hz=>tW hb hc M.len M.old hm u z hu hz M.st);clear M;generalize hq:l.length/8=q at*
  have hq1:q≤12500000000000:=by omega
  clear hq hbs;have s1:IntKind.i64.wrap (q:Int)=q:=IntWalk.i64_in _ (by omega);have s2:(q:Int)<q+1:=by omega
  have s3:(0:Int)≤q:=by omega
  cases low
  all_goals
   go_upto_region 5 with (fail)
   go_region
   all_goals
    go_wp2_with fail
    go_end0
    refine⟨rfl,?_⟩;exact(MM.out _ _ (gL hor.out) (gL (by simp))).drew
 ·have h8'':((l.length:Int)%8==0)=false:=by simp;omega
  go_enter Tryz.func132,Tryz.ntmps132;go_upto_region 2 with (fail)
  clear c1;obtain⟨g,rfl,M⟩:=Ax h8 h;clear c0 T h8'' h8 h;generalize hbs:aq low l=bs at*
  have d0:w.cell? ⟨B,0,none⟩=some (.slice (some ⟨g,0,none⟩) (l.length/8+1) cap):=M.st.cell 0 rfl;have d1:w.cell? ⟨B,1,none⟩=some (.int .i64 (l.length:Int)):=M.st.cell 1 rfl;have d2:w.cell? ⟨B,2,none⟩=some (.bool low):=M.st.cell 2 rfl;have dc:w.cell? ⟨g,l.length/8,none⟩=some (.int .u8 (byteB low l (l.length/8))):=
   M.st.right.own_cell (i:=l.length/8) (by rw[au,M.last];simp only[cB,bv,mp low hb])
  have fg:=M.st.right.own_free (l.length/8);have f1:=M.st.free 1;have hne:=M.st.own_ne;have hne':¬ B=g:=fun e=>hne e.symm
  have hby:=mm low hb (l.length/8);have hor:=ac (tM low hb hc);have MM:=ac (fun u z hu hz=>tW hb hc M.len M.old hm u z hu hz M.st);clear M;generalize hq:l.length/8=q at*
  have hq1:q≤12500000000000:=by omega
  clear hq hbs;have s1:IntKind.i64.wrap (q:Int)=q:=IntWalk.i64_in _ (by omega);have s2:(q:Int)<q+1:=by omega
  have s3:(0:Int)≤q:=by omega
  cases low
  all_goals
   go_upto_region 5 with (fail)
   go_region
   all_goals
    go_wp2_with fail
    go_end0
    refine⟨rfl,?_⟩;exact(MM.out _ _ (gL hor.out) (gL (by simp))).drew
theorem Az {w:World} (p:Value) (v n:Nat) (hn:n<32) (hv:v/2^n≠0):
  Calls Tryz.prog 85 #[p,.int .u32 v,.int .i64 n] w fun e w'=>e= .returned (.int .i64 7)∧w=w':=by
 have h2:¬ (n:Int)<0:=by omega
 have h3:¬ (32:Int)<n:=by omega
 have h4:(n:Int)<32:=by omega
 have h1:((v:Int)/2^n != 0)=true:=by
  have:((v/2^n:Nat):Int)=(v:Int)/2^n:=by simp
  rw[← this,bne_iff_ne];generalize v/2^n=y at*
  omega
 clear hv;go_enter Tryz.func85,Tryz.ntmps85;go_wp2_with fail;go_ret;exact⟨rfl,rfl⟩
theorem dE {w0 w:World} {B:Nat} {l:List Nat} {low:Bool} {F:SProp} (h:St w0 w (az B l low*F)) (v n:Nat) (hn:n≤32) (hv:n<32→v/2^n=0) (hv2:v<4294967296) (hm:l.length+32≤100000000000000):
  Calls Tryz.prog 85 #[.pointer (some ⟨B,0,none⟩),.int .u32 v,.int .i64 n] w fun e w'=>e= .returned (.int .i64 0)∧St w0 w' (az B (l++bi low v n) low*F):=by
 have h2:¬ (n:Int)<0:=by omega
 have h3:¬ (32:Int)<n:=by omega
 have h1:n<32→((v:Int)/2^n != 0)=false:=by
  intro hlt;have:((v/2^n:Nat):Int)=(v:Int)/2^n:=by simp
  rw[← this,hv hlt];rfl
 have H:=ac h;clear h hv
 by_cases h4:(n:Int)<32
 all_goals
  try (have h1':=h1 (by omega))
  clear h1;go_enter Tryz.func85,Tryz.ntmps85;go_wp2_with fail
  go_loopw [28] (fun i wr=>∃ k:Nat,k≤n∧i= .int .i64 k∧St w0 wr (az B (l++(bi low v n).take k) low*F)) (fun i _=>n-(intOf i).toNat)
  case atStart=>exact⟨0,Nat.zero_le _,rfl,by simpa using H.out⟩
  case round=>
   obtain⟨k,hk,rfl,hst⟩:=hrel
   by_cases hkn:k<n
   ·obtain⟨_,_,b0,hb0⟩:=mv hst;have c2:wr.cell? ⟨B,2,none⟩=some (.bool low):=hb0.cell 2 rfl;have HT:=ac (Ak low v n k hkn);have HS:=ac hst;clear hst hb0;have hx:∀ j,v/2^j<4294967296:=fun j=>jq (kZ _ _) hv2
    have HA:=ac (fun j=>tn (v/2^j) (hx j));clear hx;have hle:((bi low v n).take k).length≤32:=by simp;omega
    cases low
    ·go_wp2_with fail;refine(mw HS.out (v/2^(n-1-k)%2) (by rw[← HA.out];simp) (by omega) (by simp;omega)).mono ?_;rintro e w' ⟨rfl,h⟩;have e:=HT.out;simp only[cond] at e;rw[List.append_assoc,← e] at h;clear e;have H2:=ac h;clear h;go_wp2_with fail
     go_roundw
     case rel=>exact⟨k+1,by omega,by go_num,H2.out⟩
     case measure=>simp [intOf];omega
    ·go_wp2_with fail;refine(mw HS.out (v/2^k%2) (by rw[← HA.out];simp) (by omega) (by simp;omega)).mono ?_;rintro e w' ⟨rfl,h⟩;have e:=HT.out;simp only[cond] at e;rw[List.append_assoc,← e] at h;clear e;have H2:=ac h;clear h;go_wp2_with fail
     go_roundw
     case rel=>exact⟨k+1,by omega,by go_num,H2.out⟩
     case measure=>simp [intOf];omega
   ·obtain rfl:k=n:=by omega
    rw[bU (by simp)] at hst;have HS:=ac hst;clear hst;go_wp2_with fail;go_ret;exact⟨rfl,HS.out⟩
theorem AA {w0 w:World} {B:Nat} {l:List Nat} {low:Bool} {F:SProp} (h:St w0 w (az B l low*F)):
  Calls Tryz.prog 143 #[.pointer (some ⟨B,0,none⟩)] w fun e w'=>e= .returned (.int .i64 l.length)∧w=w':=by
 obtain⟨_,_,v,h⟩:=mv h;have c1:w.cell? ⟨B,1,none⟩=some (.int .i64 (l.length:Int)):=h.cell 1 rfl;clear h;go_enter Tryz.func143,Tryz.ntmps143;go_wp2_with fail;go_ret;exact⟨rfl,rfl⟩
theorem hU {w0 w:World} {B:Nat} {l:List Nat} {low:Bool} {F:SProp} (h:St w0 w (az B l low*F)):
  Calls Tryz.prog 86 #[.pointer (some ⟨B,0,none⟩)] w fun e w'=>∃ v,e= .returned v∧St w0 w' (own 5 1 v ((l.length+7)/8) ((aq low l).map bv)*(az B l low*F)):=by
 obtain⟨hb,hm,v,h⟩:=mv h;have c0:w.cell? ⟨B,0,none⟩=some v:=h.cell 0 rfl;obtain⟨a,cap,rfl⟩:=h.right.reads.sub;have T:=eh;have c0':(w.alloc (.cells #[] 5)).cell? ⟨B,0,none⟩=some (.slice a ((l.length+7)/8) cap):=by
  rw[World.cell?_alloc_lt _ _ _ h.lt];exact c0
 have H:=ac h;clear h;go_enter Tryz.func86,Tryz.ntmps86;go_wp2_with (at_builtin;apply ag);refine on (aC T rfl _ _ rfl rfl (St.own_blk (e:=5) (size:=1) (n:=0) (cap:=0) (xs:=[]) (H.out.alloc (.cells #[] 5)) (Nat.le_refl _) (Nat.zero_le _) rfl rfl) rfl ((H.out.drop_alloc _).right.reads) (gx _) ?_ ?_ ?_)
 ·unfold maxLen;omega
 ·omega
 intro v' w3 h4 _;simp only[bQ,ba] at h4;obtain⟨a',cap',rfl⟩:=h4.reads.sub;have H4:=ac h4;clear h4;go_wp2_with fail;go_ret;refine⟨_,rfl,?_⟩;have:=qK hb hm (F:=own 5 1 (.slice a' ((l.length+7)/8) cap') ((l.length+7)/8) ((aq low l).map bv)*F) (H4.out.perm (by ac_rfl));exact this.perm (by ac_rfl)
theorem mx {w0 w:World} {B:Nat} {l:List Nat} {low:Bool} {F:SProp} (h:St w0 w (az B l low*F)) (s:List UInt8) (hs:s.length≤1000000000000) (hd:kA s=true) (hm:l.length+s.length≤100000000000000):
  Calls Tryz.prog 99 #[.pointer (some ⟨B,0,none⟩),.string ⟨s.toArray⟩] w fun e w'=>e= .returned (.int .i64 0)∧St w0 w' (az B (l++eI s) low*F):=by
 have HC:=ac (show ∀ c∈s,c=48∨c=49 by simpa [kA] using hd);have H:=ac h;clear h hd;go_enter Tryz.func99,Tryz.ntmps99;go_wp2_with fail
 go_loop [9] (fun i=>∃ k:Nat,k≤s.length∧i= .int .i64 k) (fun i=>s.length-(intOf i).toNat)
 case atStart=>exact⟨0,Nat.zero_le _,rfl⟩
 case round=>
  obtain⟨k,hk,rfl⟩:=hrel
  by_cases hkn:k<s.length
  ·have hg:=ai hkn;have G:=fun h=>gu hg h;clear hg
   have hc:=HC.out s[k] (by simp);generalize s[k]=c at*
   rcases hc with rfl | rfl
   all_goals
    go_wp2_with fail;refine⟨⟨k+1,by omega,by go_num⟩,by simp [intOf];omega⟩
  ·obtain rfl:k=s.length:=by omega
   go_wp2_with fail
   go_loopw [27] (fun i wr=>∃ k:Nat,k≤s.length∧i= .int .i64 k∧St w0 wr (az B (l++eI (s.take k)) low*F)) (fun i _=>s.length-(intOf i).toNat)
   case atStart=>exact⟨0,Nat.zero_le _,rfl,by simpa [eI] using H.out⟩
   case round=>
    obtain⟨k,hk,rfl,hst⟩:=hrel
    by_cases hkn:k<s.length
    ·have hg:=ai hkn;have G:=fun h=>gu hg h;clear hg
     have hc:=HC.out s[k] (by simp);have HT:=ac (show eI (s.take (k+1))=eI (s.take k)++[s[k].toNat-48] by unfold eI;rw[List.take_succ_eq_append_getElem hkn,List.map_append];rfl);have hle:(eI (s.take k)).length≤k:=by simp;omega
     have HS:=ac hst;clear hst;generalize s[k]=c at*
     rcases hc with rfl | rfl
     ·go_wp2_with fail;refine(mw HS.out 0 rfl (by omega) (by simp;omega)).mono ?_;rintro e w' ⟨rfl,h⟩;rw[List.append_assoc,← show eI (s.take (k+1))=_++[0] from HT.out] at h;have H2:=ac h;clear h;go_wp2_with fail
      go_roundw
      case rel=>exact⟨k+1,by omega,by go_num,H2.out⟩
      case measure=>simp [intOf];omega
     ·go_wp2_with fail;refine(mw HS.out 1 rfl (by omega) (by simp;omega)).mono ?_;rintro e w' ⟨rfl,h⟩;rw[List.append_assoc,← show eI (s.take (k+1))=_++[1] from HT.out] at h;have H2:=ac h;clear h;go_wp2_with fail
      go_roundw
      case rel=>exact⟨k+1,by omega,by go_num,H2.out⟩
      case measure=>simp [intOf];omega
    ·obtain rfl:k=s.length:=by omega
     rw[cI] at hst;have HS:=ac hst;clear hst;go_wp2_with fail;go_ret;exact⟨rfl,HS.out⟩
theorem qL {w0 w:World} {B:Nat} {l:List Nat} {low:Bool} {F:SProp} (h:St w0 w (az B l low*F)) (hm:l.length+8≤100000000000000):
  Calls Tryz.prog 95 #[.pointer (some ⟨B,0,none⟩)] w fun e w'=>e= .returned (.tuple #[])∧St w0 w' (az B (dn l) low*F):=by
 have H:=ac h;clear h;go_enter Tryz.func95,Tryz.ntmps95;go_wp2_with fail
 go_loopg [11] ((8-l.length%8)%8) (fun g u wr=>∃ k:Nat,k+g=(8-l.length%8)%8∧St w0 wr (az B (l++List.replicate k 0) low*F))
 case atStart=>exact⟨0,by omega,by simpa using H.out⟩
 case round=>
  obtain⟨k,hk,hst⟩:=hrel;obtain⟨_,_,v,hb⟩:=mv hst;have c1:wr.cell? ⟨B,1,none⟩=some (.int .i64 ((l.length+k:Nat):Int)):=by rw[hb.cell 1 rfl];simp
  have HS:=ac hst;clear hst hb
  by_cases hg:gk=0
  ·subst hg;have h8:(((l.length+k:Nat):Int)%8 != 0)=false:=by
    have:(((l.length+k:Nat):Int)%8)=0:=by omega
    rw[this];rfl
   have HK:=ac (show k=(8-l.length%8)%8 by omega);clear hk;generalize l.length+k=n at*
   go_wp2_with fail
   go_end0
   refine⟨rfl,?_⟩;unfold dn;rw[← HK.out];exact HS.out
  ·have h8:(((l.length+k:Nat):Int)%8 != 0)=true:=by
    rw[bne_iff_ne];omega
   have hk2:k+1+(gk-1)=(8-l.length%8)%8:=by omega
   have hk3:k≤7:=by omega
   have HK:=ac hk2;clear hk hk2;generalize hn:l.length+k=n at*
   clear hn;go_wp2_with fail;refine(mw HS.out 0 rfl (by omega) (by simp;omega)).mono ?_;rintro e w' ⟨rfl,h⟩;rw[List.append_assoc,← ft] at h;have H2:=ac h;clear h;go_wp2_with fail
   go_roundg (gk-1)
   case measure=>omega
   case rel=>exact⟨k+1,HK.out,H2.out⟩
theorem AB {x c:Nat} (hx:x<128) (hc:c<256):bits BinOp.or .u8 ((x:Int)*2) (bits BinOp.and .u8 (c:Int) 1)=((x*2+c%2:Nat):Int):=by
 have e1:bits BinOp.and .u8 (c:Int) 1=((c%2:Nat):Int):=by
  have:=u8_and_nat c 1 hc (by decide);rw[nat_mask1] at this;exact this
 have e2:(x:Int)*2=((x*2:Nat):Int):=by omega
 rw[e1,e2,u8_or_nat _ _ (by omega) (by omega)]
 congr 1
 exact nat_join 1 _ _ (by omega) (by omega)
def gy (c:Nat):Nat→Nat
 | 0=>0
 | k+1=>gy c k*2+c/2^k%2
theorem qM (c:Nat):∀ k,gy c k=aX (ap c k).reverse
 | 0=>rfl
 | k+1=>by rw[gy,ap,km,qu,qM c k]
theorem AC (c k:Nat):gy c k<2^k:=by
 rw[qM];have:=lm (da c k).reverse;simpa using this
theorem AD {w:World} (c:Nat) (hc:c<256):
  Calls Tryz.prog 47 #[.int .u8 c] w fun e w'=>e= .returned (.int .u8 (gy c 8))∧w=w':=by
 go_enter Tryz.func47,Tryz.ntmps47;go_wp2_with fail
 go_loop [0,3,4] (fun x o i=>∃ k:Nat,k≤8∧i= .int .i64 k∧x= .int .u8 ((c/2^k:Nat):Int)∧o= .int .u8 (gy c k)) (fun _ _ i=>8-(intOf i).toNat)
 case atStart=>exact⟨0,by omega,rfl,by simp,rfl⟩
 case round=>
  obtain⟨k,hk,rfl,rfl,rfl⟩:=hrel
  by_cases hkn:k<8
  ·have hlt:=AC c (k+1);have hp:2^(k+1)≤2^8:=dX (by decide) (by omega);have hr:=ac (show gy c (k+1)=gy c k*2+c/2^k%2 from rfl);have hx:c/2^k<256:=jq (kZ _ _) hc;have hq:=ac (show c/2^(k+1)=c/2^k/2 by rw[df,← ny]);have hlt2:gy c k<128:=by rw[hr.out] at hlt;omega
   have E:=ac (AB (x:=gy c k) (c:=c/2^k) hlt2 hx);clear hlt hp;generalize c/2^k=y at*
   generalize gy c k=x at*
   go_wp2_with fail;refine⟨⟨k+1,by omega,by go_num,by rw[hq.out];simp,?_⟩,by simp [intOf];omega⟩;rw[hr.out];exact gL E.out
  ·obtain rfl:k=8:=by omega
   go_wp2_with fail;go_ret;exact⟨rfl,rfl⟩
theorem AE (c:UInt8):(bK c).toNat=gy c.toNat 8:=by rw[tT,qM]
theorem tX {w0 w:World} {F:SProp} (h:St w0 w F) (bs:List UInt8) {v:Value} (hv:Stb w0 F (fun w=>Reads w 1 v bs.length (bs.map bv))) (hl:bs.length≤100000000000000):
  Calls Tryz.prog 19 #[v] w fun e w'=>∃ v',e= .returned v'∧St w0 w' (own 5 1 v' (bs.map bK).length ((bs.map bK).map bv)*F):=by
 obtain⟨a,cap,rfl⟩:=(hv w h).sub;have H:=ac h;clear h;have HV:=ac hv;clear hv;have T:=eh;go_enter Tryz.func19,Tryz.ntmps19;go_wp2_with (at_make;apply ag);refine on (iF T rfl _ _ rfl bs.length rfl rfl rfl rfl H.out (by unfold maxLen;omega) (by omega) ?_);intro v' w1 h1;obtain⟨a',cap',rfl⟩:=h1.reads.sub;have H1:=ac h1;clear h1;go_wp2_with fail
 go_loopw [11] (fun i wr=>∃ k:Nat,k≤bs.length∧i= .int .i64 k∧St w0 wr (own 5 1 (.slice a' bs.length cap') bs.length (((bs.take k).map bK++List.replicate (bs.length-k) 0).map bv)*F)) (fun i _=>bs.length-(intOf i).toNat)
 case atStart=>exact⟨0,Nat.zero_le _,rfl,by
  have e:(madeCells (Value.int .u8 0).cells (bs.length*1)).toList=((bs.take 0).map bK++List.replicate (bs.length-0) 0).map bv:=by
   rw[gW];simp [Value.cells,toList_madeCells_one,bv]
  rw[← e];exact H1.out⟩
 case round=>
  obtain⟨k,hk,rfl,hst⟩:=hrel
  by_cases hkn:k<bs.length
  ·obtain⟨g,rfl⟩:=bR hst (by omega);obtain⟨b,off,rfl,hc⟩:=(HV.out _ hst.right).at_ hkn;have hc':(bs.map bv)[k]? =some (.int .u8 ((bs.getD k 0).toNat:Int)):=by simp [hkn,bv]
   rw[hc'] at hc;clear hc';have hfz:=hst.own_free k;have hcc:=hst.own_cell (i:=k) (u:= .int .u8 0) (by
    rw[au,dh (by simp;omega),eb,if_pos (by simp;omega)];rfl)
   have HT:=ac (show(((bs.take k).map bK++List.replicate (bs.length-k) 0).map bv).set k (.int .u8 (gy (bs.getD k 0).toNat 8))=((bs.take (k+1)).map bK++List.replicate (bs.length-(k+1)) 0).map bv by
    have e:(.int .u8 (gy (bs.getD k 0).toNat 8):Value)=bv (bK (bs.getD k 0)):=by rw[bv,AE]
    rw[e,← ez]
    congr 1
    rw[List.take_succ_eq_append_getElem hkn,List.map_append,lW _ _ (by simp;omega)];have e2:List.replicate (bs.length-k) (0:UInt8)=0::List.replicate (bs.length-(k+1)) 0:=by
     rw[← jr];congr 1;omega
    rw[e2];have e3:k-((bs.take k).map bK).length=0:=by simp;omega
    rw[e3];simp [hkn])
   have hc8:(bs.getD k 0).toNat<256:=bh _;generalize (bs.getD k 0).toNat=c at*
   have HST:=ac hst;clear hst;go_wp2_with fail;refine(AD c hc8).mono ?_;rintro e w2 ⟨rfl,rfl⟩;go_wp2_with fail
   go_roundw
   case rel=>exact⟨k+1,by omega,by go_num,by rw[← HT.out];exact HST.out.own_set k _⟩
   case measure=>simp [intOf];omega
  ·obtain rfl:k=bs.length:=by omega
   have HST:=ac hst;clear hst;go_wp2_with fail;go_ret;exact⟨_,rfl,by simpa using HST.out⟩
end Go.Proofs.YtboflbdniogcdaaGreatDoor
