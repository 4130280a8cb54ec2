/-
  Parts of a proof.
-/
import Derived.BigRegion
import Derived.Deep.Cut
import Derived.Deep.CutRange
import Derived.Deep.Fields
import Derived.Deep.OwnRows
import Derived.Deep.RegionHeld
import Derived.Deep.RegionHeld3
import Derived.Deep.Slices
import Derived.DeepKeys
import Derived.DeepKeys4
import Derived.Laws.Cover3
import Derived.Lib.AppendZeros
import Derived.Lib.AppendZerosOnto
import Derived.Lib.SlBytesConst
import Derived.Lib.Strings
import Derived.MapKept
import Derived.Maps.OwnOps
import Derived.Maps.OwnSet
import Derived.OrdersHeld
import Derived.ProofKit
import Derived.RegionTactic
import Derived.Test.YtboflbdniogcdaaGreatDoorK06
set_option linter.unusedVariables false
set_option linter.unusedSimpArgs false
set_option maxRecDepth 100000
set_option maxHeartbeats 100000000
namespace Go.Proofs.YtboflbdniogcdaaGreatDoor
open Go.RowKit Go.Mz
theorem t6 (l:List UInt8) (w:World) (hl:l.length≤1000000000):
  Calls Tryz.prog 102 #[.string ⟨l.toArray⟩] w fun e w'=>e= .returned (.string ⟨l.reverse.toArray⟩)∧w=w':=by
 go_enter Tryz.func102,Tryz.ntmps102;go_wp2_with fail
 go_loop [3,4] (fun o i=>∃ k:Nat,k≤l.length∧i= .int .i64 (k:Int)∧o= .string ⟨(l.take k).reverse.toArray⟩) (fun _ i=>l.length-(intOf i).toNat)
 case atStart=>exact⟨0,Nat.zero_le _,rfl,rfl⟩
 case round=>
  obtain⟨k,hk,rfl,rfl⟩:=hrel
  by_cases hkl:k<l.length
  ·have hkI:(k:Int)<l.length:=by omega
   have hr:=ac (show(l.take (k+1)).reverse=l[k]::(l.take k).reverse by rw[List.take_succ_eq_append_getElem hkl];simp);have hlen:(l.take k).reverse.length≤l.length:=by simp;omega
   go_wp2_with fail;refine⟨⟨k+1,by omega,by go_num,?_⟩,by simp [intOf];omega⟩;rw[hr.out,ByteArray.extract_mk,ByteArray.mk_append_mk];simp [List.take_one,yY,hkl]
  ·obtain rfl:k=l.length:=by omega
   have hkI:¬ ((l.length:Int)<l.length):=by omega
   go_wp2_with fail;go_ret;exact⟨by simp,rfl⟩
theorem t7 {w:World} {n:Nat} (h:jc n):Calls Tryz.prog 101 #[.int .i64 (n:Int)] w fun e w'=>e= .returned (.bool true)∧w=w':=by
 rcases h with rfl | rfl | rfl | rfl
 all_goals
  go_enter Tryz.func101,Tryz.ntmps101;go_wp2_with fail;go_ret;exact⟨rfl,rfl⟩
theorem AM (ds:List UInt8) (w:World) (hl:ds.length≤8):
  Calls Tryz.prog 67 #[.string ⟨ds.toArray⟩,.bool true] w fun e w'=>e= .returned (.int .u64 (bS ds:Nat))∧w=w':=by
 go_enter Tryz.func67,Tryz.ntmps67;go_wp2_with fail
 go_loop [5,6] (fun v i=>∃ k:Nat,k≤ds.length∧i= .int .i64 (k:Int)∧v= .int .u64 (bS (ds.take k):Nat)) (fun _ i=>ds.length-(intOf i).toNat)
 case atStart=>exact⟨0,Nat.zero_le _,rfl,rfl⟩
 case round=>
  obtain⟨k,hk,rfl,rfl⟩:=hrel
  by_cases hkl:k<ds.length
  ·have hkI:(k:Int)<ds.length:=by omega
   have hs:bS (ds.take (k+1))=bS (ds.take k)*256+ds[k].toNat:=by rw[List.take_succ_eq_append_getElem hkl,lp]
   have hlt:=nK (ds.take (k+1));have hp:256^(ds.take (k+1)).length≤256^8:=dX (by decide) (by simp;omega);rw[hs] at hlt;have hc:=bh ds[k];have hg:ds[k]? =some ds[k]:=ai hkl;have HS:=ac hs;have HG:=ac hg;have hlt2:bS (ds.take k)*256+ds[k].toNat<18446744073709551616:=by omega
   clear hs hg hp hlt;generalize bS (ds.take k)=x at*
   generalize hy:ds[k]=y at*
   clear hy;go_wp2_with fail;refine⟨⟨k+1,by omega,by go_num,?_⟩,by simp [intOf];omega⟩;rw[HS.out,gu HG.out,IntWalk.u64_in (y.toNat:Int) (by omega),IntWalk.u64_in _ (by omega)];exact gL (by omega)
  ·obtain rfl:k=ds.length:=by omega
   have hkI:¬ ((ds.length:Int)<ds.length):=by omega
   go_wp2_with fail;go_ret;exact⟨by simp,rfl⟩
theorem AN (bs:List UInt8) (w:World) (hl:bs.length≤8):
  Calls Tryz.prog 67 #[.string ⟨bs.toArray⟩,.bool false] w fun e w'=>e= .returned (.int .u64 (bS bs.reverse:Nat))∧w=w':=by
 have HT:=ac (t6 bs w (by omega));have hl':bs.reverse.length≤8:=by simpa using hl
 generalize bs.reverse=ds at*
 clear hl;go_enter Tryz.func67,Tryz.ntmps67;go_wp2_with fail;refine HT.out.mono ?_;rintro e w1 ⟨rfl,rfl⟩;go_wp2_with fail
 go_loop [5,6] (fun v i=>∃ k:Nat,k≤ds.length∧i= .int .i64 (k:Int)∧v= .int .u64 (bS (ds.take k):Nat)) (fun _ i=>ds.length-(intOf i).toNat)
 case atStart=>exact⟨0,Nat.zero_le _,rfl,rfl⟩
 case round=>
  obtain⟨k,hk,rfl,rfl⟩:=hrel
  by_cases hkl:k<ds.length
  ·have hkI:(k:Int)<ds.length:=by omega
   have hs:bS (ds.take (k+1))=bS (ds.take k)*256+ds[k].toNat:=by rw[List.take_succ_eq_append_getElem hkl,lp]
   have hlt:=nK (ds.take (k+1));have hp:256^(ds.take (k+1)).length≤256^8:=dX (by decide) (by simp;omega);rw[hs] at hlt;have hc:=bh ds[k];have hg:ds[k]? =some ds[k]:=ai hkl;have HS:=ac hs;have HG:=ac hg;have hlt2:bS (ds.take k)*256+ds[k].toNat<18446744073709551616:=by omega
   clear hs hg hp hlt;generalize bS (ds.take k)=x at*
   generalize hy:ds[k]=y at*
   clear hy;go_wp2_with fail;refine⟨⟨k+1,by omega,by go_num,?_⟩,by simp [intOf];omega⟩;rw[HS.out,gu HG.out,IntWalk.u64_in (y.toNat:Int) (by omega),IntWalk.u64_in _ (by omega)];exact gL (by omega)
  ·obtain rfl:k=ds.length:=by omega
   have hkI:¬ ((ds.length:Int)<ds.length):=by omega
   go_wp2_with fail;go_ret;exact⟨by simp,rfl⟩
theorem AO (bs:List UInt8) (big:Bool) (w:World) (hl:bs.length≤8):
  Calls Tryz.prog 67 #[.string ⟨bs.toArray⟩,.bool big] w fun e w'=>e= .returned (.int .u64 (ln big bs:Nat))∧w=w':=by
 cases big
 ·exact AN bs w hl
 ·exact AM bs w hl
theorem t8 (v n:Nat):(bJ v (n+1)).reverse=UInt8.ofNat (v/256^n%256)::(bJ v n).reverse:=by rw[bJ,sY];rfl
theorem AP {w0 w:World} {F:SProp} (h:St w0 w F) {v n:Nat} (hw:jc n) (hv:v<256^n):
  Calls Tryz.prog 54 #[.int .u64 (v:Int),.int .i64 (n:Int),.bool true] w fun e w'=>e= .returned (.tuple #[.string ⟨(dx true v n).toArray⟩,.int .i64 0])∧St w0 w' F:=by
 have HS:=ac (t7 (w:=w) hw);have hn8:n≤8:=by rcases hw with rfl | rfl | rfl | rfl <;> omega
 have H:=ac h;have hv8:v<18446744073709551616:=kp hv (show 256^n≤256^8 from dX (by decide) hn8);have hz:v/256^n=0:=fv hv;have HZ:=ac hz;clear h hw hv hz;go_enter Tryz.func54,Tryz.ntmps54;go_wp2_with (go_at_call 101;refine HS.out.mono ?_;rintro e w1 ⟨rfl,rfl⟩)
 go_loopw [0,8,9] (fun x s i wr=>∃ k:Nat,k≤n∧i= .int .i64 k∧x= .int .u64 ((v/256^k:Nat):Int)∧s= .string ⟨(bJ v k).reverse.toArray⟩∧St w0 wr F) (fun _ _ i _=>n-(intOf i).toNat)
 case atStart=>exact⟨0,Nat.zero_le _,rfl,by simp,rfl,H.out⟩
 case round=>
  obtain⟨k,hk,rfl,rfl,rfl,hst⟩:=hrel
  by_cases hkn:k<n
  ·have hx:v/256^k<18446744073709551616:=jq (kZ _ _) hv8;have hq:Hid (v/256^(k+1)=v/256^k/256):=by rw[df,← ny];rfl
   have hw:Hid ((bJ v (k+1)).reverse=UInt8.ofNat (v/256^k%256)::(bJ v k).reverse):=t8 v k;have HST:=ac hst;clear hst;have hlen:(bJ v k).reverse.length≤8:=by simp;omega
   generalize v/256^k=x at*
   go_wp2_with (with_reducible (refine kr 32 9 rfl ?_));refine on (ks Tryz.underlying32 Tryz.underlying5 Tryz.underlying9 rfl rfl (n:=1) (kt wr 5 (UInt8.ofNat (x%256)) (by rw[UInt8.toNat_ofNat'];omega)) ?_);go_wp2_with fail;refine⟨⟨k+1,by omega,by go_num,by rw[hq.out];simp,?_,HST.out.drop_alloc _⟩,by simp [intOf];omega⟩;rw[hw.out];exact(congrArg Value.string (ByteArray.mk_append_mk _ _))
  ·obtain rfl:k=n:=by omega
   have hkI:¬ ((k:Int)<k):=by omega
   rw[HZ.out];have HST:=ac hst;clear hst;have hlen:(bJ v k).length≤1000:=by simp;omega
   go_wp2_with fail;go_ret2;exact⟨rfl,HST.out⟩
theorem AQ {w0 w:World} {F:SProp} (h:St w0 w F) {v n:Nat} (hw:jc n) (hv:v<256^n):
  Calls Tryz.prog 54 #[.int .u64 (v:Int),.int .i64 (n:Int),.bool false] w fun e w'=>e= .returned (.tuple #[.string ⟨(dx false v n).toArray⟩,.int .i64 0])∧St w0 w' F:=by
 have HS:=ac (t7 (w:=w) hw);have hn8:n≤8:=by rcases hw with rfl | rfl | rfl | rfl <;> omega
 have H:=ac h;have hv8:v<18446744073709551616:=kp hv (show 256^n≤256^8 from dX (by decide) hn8);have hz:v/256^n=0:=fv hv;have HZ:=ac hz;clear h hw hv hz;go_enter Tryz.func54,Tryz.ntmps54;go_wp2_with (go_at_call 101;refine HS.out.mono ?_;rintro e w1 ⟨rfl,rfl⟩)
 go_loopw [0,8,9] (fun x s i wr=>∃ k:Nat,k≤n∧i= .int .i64 k∧x= .int .u64 ((v/256^k:Nat):Int)∧s= .string ⟨(bJ v k).reverse.toArray⟩∧St w0 wr F) (fun _ _ i _=>n-(intOf i).toNat)
 case atStart=>exact⟨0,Nat.zero_le _,rfl,by simp,rfl,H.out⟩
 case round=>
  obtain⟨k,hk,rfl,rfl,rfl,hst⟩:=hrel
  by_cases hkn:k<n
  ·have hx:v/256^k<18446744073709551616:=jq (kZ _ _) hv8;have hq:Hid (v/256^(k+1)=v/256^k/256):=by rw[df,← ny];rfl
   have hw:Hid ((bJ v (k+1)).reverse=UInt8.ofNat (v/256^k%256)::(bJ v k).reverse):=t8 v k;have HST:=ac hst;clear hst;have hlen:(bJ v k).reverse.length≤8:=by simp;omega
   generalize v/256^k=x at*
   go_wp2_with (with_reducible (refine kr 32 9 rfl ?_));refine on (ks Tryz.underlying32 Tryz.underlying5 Tryz.underlying9 rfl rfl (n:=1) (kt wr 5 (UInt8.ofNat (x%256)) (by rw[UInt8.toNat_ofNat'];omega)) ?_);go_wp2_with fail;refine⟨⟨k+1,by omega,by go_num,by rw[hq.out];simp,?_,HST.out.drop_alloc _⟩,by simp [intOf];omega⟩;rw[hw.out];exact(congrArg Value.string (ByteArray.mk_append_mk _ _))
  ·obtain rfl:k=n:=by omega
   have hkI:¬ ((k:Int)<k):=by omega
   rw[HZ.out];have HST:=ac hst;clear hst;have hlen:(bJ v k).length≤1000:=by simp;omega
   have HT:=ac (t6 (bJ v k).reverse wr (by simpa using (by omega:(bJ v k).length≤1000000000)));rw[lV] at HT;go_wp2_with fail;refine HT.out.mono ?_;rintro e w1 ⟨rfl,rfl⟩;go_wp2_with fail;go_ret2;exact⟨rfl,HST.out⟩
theorem AR {w0 w:World} {F:SProp} (h:St w0 w F) {v n:Nat} (hw:jc n) (hv:v<256^n) (big:Bool):
  Calls Tryz.prog 54 #[.int .u64 (v:Int),.int .i64 (n:Int),.bool big] w fun e w'=>e= .returned (.tuple #[.string ⟨(dx big v n).toArray⟩,.int .i64 0])∧St w0 w' F:=by
 cases big
 ·exact AQ h hw hv
 ·exact AP h hw hv
theorem nT {x:Int} (h:0≤x) (h2:x<1000000000000):wrap64 x=x:=by rw[wrap64];omega
theorem AS (A d c M:Nat):(A+d*c)%M=(A%M+d%M*c)%M:=by
 have h1:d%M*c%M=d*c%M:=by rw[Nat.mul_mod,Nat.mod_mod,← Nat.mul_mod]
 have h2:(A%M+d%M*c)%M=(A%M+d*c%M)%M:=by rw[Nat.add_mod,Nat.mod_mod,h1]
 rw[h2,← Nat.add_mod]
theorem AT {w:World} {bs:List UInt8} (hl:bs.length≤1000000000):
  Calls Tryz.prog 117 #[.int .u32 1,.string ⟨bs.toArray⟩] w fun e w'=>e= .returned (.int .u32 (eK bs:Nat))∧w'=w:=by
 obtain⟨L,hL⟩:∃ L,bs.length=L:=⟨_,rfl⟩;have hsz:(⟨bs.toArray⟩:ByteArray).size=L:=hL;rw[hL] at hl;have HL:=ac hL;clear hL;have hsum:∀ k,k≤L→gz (bs.take k)≤255*k:=by
  intro k
  induction k with
  | zero=>intro _;simp [gz]
  | succ k ih=>
   intro h;have hk:k<bs.length:=by rw[HL.out];omega
   have:=ih (by omega);have:=bh bs[k];rw[List.take_succ_eq_append_getElem hk,qP];omega
 have HSM:=ac hsum;clear hsum;go_enter Tryz.func117,Tryz.ntmps117;go_wp2_with fail
 go_loopw [5,6,8] (fun va vb vi wr=>∃ k:Nat,k≤L∧vi= .int .i64 k∧va= .int .i64 (1+gz (bs.take k):Nat)∧vb= .int .i64 ((L+dY L (bs.take k))%65521:Nat)∧wr=w) (fun _ _ vi _=>L-(intOf vi).toNat)
 case atStart=>
  refine⟨0,by omega,rfl,rfl,congrArg (Value.int .i64) ?_,rfl⟩;rw[show dY L (bs.take 0)=0 from rfl];omega
 case round=>
  obtain⟨k,hk,rfl,rfl,rfl,rfl⟩:=hrel
  by_cases hkL:k<L
  ·have hkI:(k:Int)<L:=by omega
   have hkb:k<bs.length:=by rw[HL.out];exact hkL
   have hsn:=qP (bs.take k) bs[k];have hof:=tY (bs.take k) L bs[k];rw[← List.take_succ_eq_append_getElem] at hsn hof;rw[aJ,lP (by omega)] at hof;have h1:=HSM.out k hk;have h2:(L+dY L (bs.take k))%65521<65521:=jv _ (by decide);have hx8:=bh bs[k];have hg:bs[k]? =some bs[k]:=ai hkb;obtain⟨d,hd⟩:∃ d,L-k=d:=⟨_,rfl⟩;have hdI:(L:Int)-(k:Int)=(d:Int):=by omega
   obtain⟨r,hr,hr2⟩:∃ r:Nat,(d:Int)%65521=(r:Int)∧r<65521:=⟨d%65521,by omega,by omega⟩;have hrN:d%65521=r:=by omega
   obtain⟨p,hp,hp2⟩:∃ p:Nat,(r:Int)*(bs[k].toNat:Int)=(p:Int)∧p≤16707855:=⟨r*bs[k].toNat,by simp,by
    have:=dv (show r≤65520 by omega) (show bs[k].toNat≤255 by omega);omega⟩
   have hpN : r * bs[k].toNat = p := by have:((r*bs[k].toNat:Nat):Int)=p:=by rw[Int.natCast_mul];exact hp
                                        omega
   rw[hd] at hof;have hmod:(L+dY L (bs.take (k+1)))%65521=((L+dY L (bs.take k))%65521+p)%65521:=by
    rw[hof,← hpN,← hrN,← ec];exact AS _ _ _ _
   have HMOD:=ac hmod;have HSN:=ac hsn;have HG:=ac hg;clear hof hsn hg hmod hrN hpN;generalize (L+dY L (bs.take k))%65521=y at*
   generalize gz (bs.take k)=sm at*
   generalize hc:bs[k]=c at*
   clear hc;go_wp2_with fail;have g1:(c.toNat:Int)<1000000000000:=by omega
   have g2:(p:Int)<1000000000000:=by omega
   have g3:(y:Int)+p<1000000000000:=by omega
   have g4:1+(sm:Int)+c.toNat<1000000000000:=by omega
   have E4:=ac (nT (x:=1+(sm:Int)+c.toNat) (by omega) g4);have E1:=ac (nT (s5 c.toNat) g1);have E2:=ac (nT (s5 p) g2);have E3:=ac (nT (x:=(y:Int)+p) (Int.add_nonneg (s5 y) (s5 p)) g3);have HP:=ac hp;clear hp;refine⟨⟨k+1,by omega,by go_num,?_,?_,trivial⟩,by simp [intOf];omega⟩
   ·rw[HSN.out,gu HG.out,E1.out,E4.out];exact gL (by omega)
   ·rw[HMOD.out,gu HG.out,E1.out,HP.out,E2.out,E3.out,Int.tmod_eq_emod_of_nonneg (by omega)];exact gL (by omega)
  ·obtain rfl:L=k:=by omega
   have hkI:¬ ((L:Int)<L):=by omega
   obtain⟨hs1,hs2⟩:=AG bs;rw[HL.out] at hs2;rw[bU (by rw[HL.out];exact Nat.le_refl _)];have hsm:=HSM.out L (Nat.le_refl _);rw[bU (by rw[HL.out];exact Nat.le_refl _)] at hsm;have hm:(L+dY L bs)%65521<65521:=jv _ (by decide);have HN:=ac (show eK bs=(L+dY L bs)%65521*65536+(1+gz bs)%65521 by rw[eK,hs1,hs2]);clear hs1 hs2;generalize (L+dY L bs)%65521=y at*
   generalize gz bs=sm at*
   go_wp2_with fail;go_ret;refine⟨?_,rfl⟩;rw[HN.out,show((y*65536+(1+sm)%65521:Nat):Int)=(y:Int)*65536+(1+(sm:Int))%65521 by omega];rfl
theorem AU {w:World} {bs:List UInt8} (hl:bs.length≤1000000000) {s:ByteArray} (hs:s=⟨bs.toArray⟩):
  Calls Tryz.prog 68 #[.string s] w fun e w'=>e= .returned (.int .u32 (eK bs:Nat))∧w=w':=by
 subst hs;have HU:=ac (AT (w:=w) hl);clear hl;go_enter Tryz.func68,Tryz.ntmps68;go_wp2_with fail;refine HU.out.mono ?_;rintro e w1 ⟨rfl,rfl⟩;go_wp2_with fail;go_ret;exact⟨rfl,rfl⟩
end Go.Proofs.YtboflbdniogcdaaGreatDoor
