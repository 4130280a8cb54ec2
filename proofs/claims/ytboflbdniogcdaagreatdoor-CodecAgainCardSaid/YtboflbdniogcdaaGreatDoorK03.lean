/-
  Parts of a proof.
-/
import Derived.Test.YtboflbdniogcdaaGreatDoorK00
import Derived.Test.YtboflbdniogcdaaGreatDoorChecked
import Derived.Test.YtboflbdniogcdaaGreatDoorK01
set_option linter.unusedVariables false
set_option linter.unusedSimpArgs false
set_option maxRecDepth 100000
set_option maxHeartbeats 100000000
namespace Go.Proofs.YtboflbdniogcdaaGreatDoor
open Go.RowKit Go.Mz
structure RdrAt (w:World) (B:Nat) (bs:List UInt8) (p:Nat) (low:Bool):Prop where
 sl:∃ v,w.cell? ⟨B,0,none⟩=some v∧Reads w 1 v bs.length (bs.map bv)
 at_:w.cell? ⟨B,1,none⟩=some (.int .i64 (p:Int))
 low:w.cell? ⟨B,2,none⟩=some (.bool low)
 len:bs.length≤1000000000000000
 le:p≤8*bs.length
theorem RdrAt.len_cell {w:World} {B:Nat} {bs:List UInt8} {p:Nat} {low:Bool} (h:RdrAt w B bs p low):∃ a cap,w.cell? ⟨B,0,none⟩=some (.slice a bs.length cap):=by
 obtain⟨v,hv,hr⟩:=h.sl;obtain⟨a,cap,rfl⟩:=hr.sub;exact⟨a,cap,hv⟩
theorem RdrAt.byte {w:World} {B:Nat} {bs:List UInt8} {p:Nat} {low:Bool} (h:RdrAt w B bs p low) {i:Nat} (hi:i<bs.length):
  ∃ b off cap,w.cell? ⟨B,0,none⟩=some (.slice (some ⟨b,off,none⟩) bs.length cap)∧w.cell? ⟨b,off+i,none⟩=some (.int .u8 ((bs.getD i 0).toNat:Int)):=by
 obtain⟨v,hv,hr⟩:=h.sl;obtain⟨b,off,cap,rfl,hc⟩:=hr.cell hi;refine⟨b,off,cap,hv,?_⟩;rw[hc];simp [hi,bv]
theorem RdrAt.drewN {w:World} {B:Nat} {bs:List UInt8} {p:Nat} {low:Bool} (h:RdrAt w B bs p low) (n:Nat):RdrAt (w.drewN n) B bs p low:=
 ⟨h.sl,h.at_,h.low,h.len,h.le⟩
theorem m8 {w:World} {B:Nat} {bs:List UInt8} {p:Nat} {low:Bool} (h:RdrAt w B bs p low):
  Calls Tryz.prog 130 #[.pointer (some ⟨B,0,none⟩)] w fun e w'=>e= .returned (.int .i64 (8*(bs.length:Int)-p))∧∃ n,w'=w.drewN n:=by
 obtain⟨a,cap,h0⟩:=h.len_cell;have h1:=h.at_;have h2:=h.len;have h3:=h.le;clear h;go_enter Tryz.func130,Tryz.ntmps130
 go_wp2
 go_quiet (fail)
 go_wp2
 go_ret;exact⟨rfl,_,rfl⟩
theorem rA {w:World} {B:Nat} {bs:List UInt8} {p:Nat} {low:Bool} (h:RdrAt w B bs p low):
  Calls Tryz.prog 160 #[.pointer (some ⟨B,0,none⟩)] w fun e w'=>e= .returned (.int .i64 p)∧w=w':=by
 have h1:=h.at_;clear h;go_enter Tryz.func160,Tryz.ntmps160
 go_wp2
 go_ret;exact⟨rfl,rfl⟩
theorem BE (c k:Nat) (hc:c<256):bits BinOp.and .u32 ((c:Int)/2^k%4294967296) 1=((c/2^k%2:Nat):Int):=by
 have h:c/2^k<256:=jh (kH _ _) hc;have e:((c:Int)/2^k%4294967296)=((c/2^k:Nat):Int):=by
  have e1:((c/2^k:Nat):Int)=(c:Int)/2^k:=by simp
  rw[← e1];generalize c/2^k=x at*
  omega
 rw[e];exact rq _ (by omega)
theorem BF {w:World} {B:Nat} {bs:List UInt8} {p:Nat} {low:Bool} (h:RdrAt w B bs p low) {j:Int} (i:Nat) (hj:j=i) (hi:i<8*bs.length):
  Calls Tryz.prog 167 #[.pointer (some ⟨B,0,none⟩),.int .i64 j] w fun e w'=>e= .returned (.int .u32 (cE bs low i))∧w=w':=by
 subst hj;obtain⟨b,off,cap,h0,hc⟩:=h.byte (i:=i/8) (by omega);have h2:=h.low;have h3:=h.len;have hb:(i:Int)/8<bs.length:=by omega
 have hc8:(bs.getD (i/8) 0).toNat<256:=bR _;have E:Hid (cE bs low i=(bs.getD (i/8) 0).toNat/2^(cond low (i%8) (7-i%8))%2):=ac rfl;generalize (bs.getD (i/8) 0).toNat=c at*
 generalize cE bs low i=r at*
 clear h;cases low
 all_goals
  go_enter Tryz.func167,Tryz.ntmps167
  go_wp2
  go_ret;refine⟨?_,rfl⟩;rw[E.out];exact congrArg (fun x=>Ending.returned (.int .u32 x)) (BE _ _ hc8)
theorem rB {w:World} {B:Nat} {bs:List UInt8} {p:Nat} {low:Bool} (h:RdrAt w B bs p low) {j:Int} (n:Nat) (hj:j=n) (hn:n≤32):
  Calls Tryz.prog 129 #[.pointer (some ⟨B,0,none⟩),.int .i64 j] w fun e w'=>e= .returned (.tuple #[.int .u32 (bL bs low p n),.int .i64 0])∧∃ m,w'=w.drewN m:=by
 subst hj;have h2:=h.low;have h1:=h.at_;have h3:=h.len;have h4:=h.le;go_enter Tryz.func129,Tryz.ntmps129;go_wp2_with fail
 go_loopw [6,16] (fun v i wr=>∃ k:Nat,k≤n∧i= .int .i64 k∧v= .int .u32 (bL bs low p k)∧∃ m,wr=w.drewN m) (fun _ i _=>n-(intOf i).toNat)
 case atStart=>exact⟨0,Nat.zero_le _,rfl,rfl,0,rfl⟩
 case round=>
  obtain⟨k,hk,rfl,rfl,m,rfl⟩:=hrel;have H:=ac h;clear h;have hlt:=kQ bs low p k
  by_cases hkn:k<n
  ·by_cases hkl:p+k<8*bs.length
   ·have hkl':(k:Int)<8*(bs.length:Int)-p:=by omega
    have hb:=oR bs low (p+k);have hbit:∀ W,RdrAt W B bs p low→Calls Tryz.prog 167 #[.pointer (some ⟨B,0,none⟩),.int .i64 ((p:Int)+k)] W fun e w'=>e= .returned (.int .u32 (cE bs low (p+k)))∧W=w':=
     fun W hW=>BF hW (p+k) (by simp) hkl
    have Hb:=ac hbit;clear hbit;have hs:Hid (bL bs low p (k+1)=cond low (bL bs low p k+cE bs low (p+k)*2^k) (bL bs low p k*2+cE bs low (p+k))):=by
     cases low <;> rfl
    generalize cE bs low (p+k)=b at*
    generalize bL bs low p k=x at*
    have E1:=ac (uJ hlt (by omega) hb);have E2:=ac (uK hlt (by omega) hb);cases low
    all_goals
     go_wp2_with (first | (go_at_call 130;refine(m8 (H.out.drewN _)).mono ?_;rintro e w' ⟨rfl,m1,rfl⟩) | (go_at_call 167;refine(Hb.out _ (H.out.drewN _)).mono ?_;rintro e w' ⟨rfl,rfl⟩))
     go_roundw
     case rel=>exact⟨k+1,by omega,by go_num,by rw[hs.out];simp only[cond];first | rw[E1.out] | rw[E2.out],_,rfl⟩
     case measure=>simp [intOf];omega
   ·have hkl':¬ (k:Int)<8*(bs.length:Int)-p:=by omega
    have hs:Hid (bL bs low p (k+1)=cond low (bL bs low p k+0*2^k) (bL bs low p k*2+0)):=by
     have e:=uH bs low (p+k) (by omega);cases low
     ·rw[uL,e];rfl
     ·rw[AV,e];rfl
    generalize bL bs low p k=x at*
    have E1:=ac (uJ (b:=0) hlt (by omega) (by omega));have E2:=ac (uK (b:=0) hlt (by omega) (by omega));cases low
    all_goals
     go_wp2_with (first | (go_at_call 130;refine(m8 (H.out.drewN _)).mono ?_;rintro e w' ⟨rfl,m1,rfl⟩))
     go_roundw
     case rel=>exact⟨k+1,by omega,by go_num,by rw[hs.out];simp only[cond];(first | rw[← E1.out] | rw[← E2.out]);simp,_,rfl⟩
     case measure=>simp [intOf];omega
  ·obtain rfl:k=n:=by omega
   go_wp2
   go_ret2;exact⟨rfl,_,rfl⟩
def aq (B:Nat) (bs:List UInt8) (p:Nat) (low:Bool):SProp:=
 fx fun v:Value=>il (bs.length≤1000000000000000∧p≤8*bs.length)*(blk B (.cells #[v,.int .i64 (p:Int),.bool low] 170 (0,0))*own 5 1 v bs.length (bs.map bv))
theorem kU {w0 w:World} {B:Nat} {bs:List UInt8} {p:Nat} {low:Bool} {F:SProp} (h:St w0 w (aq B bs p low*F)):
  bs.length≤1000000000000000∧p≤8*bs.length∧∃ v,St w0 w (blk B (.cells #[v,.int .i64 (p:Int),.bool low] 170 (0,0))*(own 5 1 v bs.length (bs.map bv)*F)):=by
 obtain⟨v,h⟩:=h.ex_l;have h:=h.perm (aW _ _ _);obtain⟨⟨h1,h2⟩,h⟩:=h.pure_l;exact⟨h1,h2,v,h.perm (aW _ _ _)⟩
theorem rD {w0 w:World} {B:Nat} {bs:List UInt8} {p:Nat} {low:Bool} {F:SProp} {v:Value} (h1:bs.length≤1000000000000000) (h2:p≤8*bs.length)
  (h:St w0 w (blk B (.cells #[v,.int .i64 (p:Int),.bool low] 170 (0,0))*(own 5 1 v bs.length (bs.map bv)*F))):St w0 w (aq B bs p low*F):=by
 refine St.mk_ex_l v ?_;refine St.perm ?_ (aW _ _ _).symm;exact St.mk_pure_l ⟨h1,h2⟩ (h.perm (aW _ _ _).symm)
theorem kV {w0 w:World} {B:Nat} {bs:List UInt8} {p:Nat} {low:Bool} {F:SProp} (h:St w0 w (aq B bs p low*F)):RdrAt w B bs p low:=by
 obtain⟨h1,h2,v,h⟩:=kU h;exact⟨⟨v,h.cell 0 rfl,h.right.reads⟩,h.cell 1 rfl,h.cell 2 rfl,h1,h2⟩
theorem BG {w:World} {B:Nat} {bs:List UInt8} {p:Nat} {low:Bool} (h:RdrAt w B bs p low) {j:Int} (n:Nat) (hj:j=n) (hn:n≤32) (hp:8*bs.length<p+n):
  Calls Tryz.prog 81 #[.pointer (some ⟨B,0,none⟩),.int .i64 j] w fun e w'=>e= .returned (.tuple #[.int .u32 0,.int .i64 2])∧∃ m,w'=w.drewN m:=by
 subst hj;have hg:8*(bs.length:Int)-p<n:=by omega
 have h3:=h.len;have h4:=h.le;have H:=ac h;clear h;go_enter Tryz.func81,Tryz.ntmps81;go_wp2_with (first | (go_at_call 129;refine(rB H.out n rfl hn).mono ?_;rintro e w' ⟨rfl,m1,rfl⟩) | (go_at_call 130;refine(m8 (H.out.drewN _)).mono ?_;rintro e w' ⟨rfl,m2,rfl⟩));go_ret2;exact⟨rfl,_,rfl⟩
theorem iR {w0 w:World} {B:Nat} {bs:List UInt8} {p:Nat} {low:Bool} {F:SProp} (h:St w0 w (aq B bs p low*F)) {j:Int} (n:Nat) (hj:j=n) (hn:n≤32) (hp:p+n≤8*bs.length):
  Calls Tryz.prog 81 #[.pointer (some ⟨B,0,none⟩),.int .i64 j] w fun e w'=>e= .returned (.tuple #[.int .u32 (bL bs low p n),.int .i64 0])∧St w0 w' (aq B bs (p+n) low*F):=by
 subst hj;have hr:=kV h;have hg:¬ 8*(bs.length:Int)-p<n:=by omega
 obtain⟨h3,h4,v,hb⟩:=kU h;have c1:w.cell? ⟨B,1,none⟩=some (.int .i64 p):=hb.cell 1 rfl;have f1:=hb.free 1;have H:=ac hr;clear hr h;have HB:=ac hb;clear hb;generalize hx:bL bs low p n=x;have hp:=ac (rB H.out n rfl hn);rw[hx] at hp;clear hx;go_enter Tryz.func81,Tryz.ntmps81;go_wp2_with (first | (go_at_call 129;refine hp.out.mono ?_;rintro e w' ⟨rfl,m1,rfl⟩) | (go_at_call 130;refine(m8 (H.out.drewN _)).mono ?_;rintro e w' ⟨rfl,m2,rfl⟩));go_ret2;refine⟨rfl,?_⟩;have:=(HB.out.drewN (m1+m2)).set 1 (.int .i64 ((p+n:Nat):Int));exact rD h3 (by omega) this
theorem cP:ElemT Tryz.prog 32 5 1 1 (.int .u8 0):=
 ⟨Tryz.underlying32,info_parts (by kernel_rfl),rfl,by decide⟩
theorem dN (bs:List UInt8):∀ u∈bs.map bv,u.oneCell'=true:=by
 intro u hu;obtain⟨c,_,rfl⟩:=cu.1 hu;rfl
theorem u6q {w0 w:World} {B:Nat} {bs:List UInt8} {p:Nat} {low:Bool} {F:SProp} (h:St w0 w (aq B bs p low*F)):
  Calls Tryz.prog 122 #[.pointer (some ⟨B,0,none⟩)] w fun e w'=>e= .returned (.tuple #[])∧St w0 w' (aq B bs ((p+7)/8*8) low*F):=by
 obtain⟨h3,h4,v,hb⟩:=kU h;have c1:w.cell? ⟨B,1,none⟩=some (.int .i64 p):=hb.cell 1 rfl;have f1:=hb.free 1;have HB:=ac hb;clear hb h;go_enter Tryz.func122,Tryz.ntmps122
 go_wp2
 go_end0
 refine⟨rfl,?_⟩;have:=(HB.out).set 1 (.int .i64 (((p+7)/8*8:Nat):Int));exact rD h3 (by omega) this
theorem lV {w0 w:World} {bs:List UInt8} {v:Value} {low:Bool} {F:SProp} (h:St w0 w F) (hv:Stb w0 F (fun w=>Reads w 1 v bs.length (bs.map bv))) (hl:bs.length≤100000000000000):
  Calls Tryz.prog 80 #[v,.bool low] w fun e w'=>∃ B,e= .returned (.pointer (some ⟨B,0,none⟩))∧St w0 w' (aq B bs 0 low*F):=by
 have H:=ac h;clear h;have HV:=ac hv;clear hv;have T:=cP;go_enter Tryz.func80,Tryz.ntmps80;go_wp2_with (at_builtin;apply ap);refine on (aG T rfl (.tmp 5) (.tmp 6) rfl rfl (St.own_blk (e:=5) (size:=1) (n:=0) (cap:=0) (xs:=[]) (H.out.alloc (.cells #[] 5)) (Nat.le_refl _) (Nat.zero_le _) rfl rfl) rfl (HV.out _ (H.out.drop_alloc _)) (dN bs) ?_ ?_ ?_)
 ·unfold maxLen;omega
 ·omega
 intro v' w1 h1 _;simp only[bA,bH] at h1;obtain⟨a,cap,rfl⟩:=h1.reads.sub;have H1:=ac h1;clear h1 H HV
 go_wp2
 go_ret;exact⟨_,rfl,rD (by omega) (by omega) (H1.out.alloc _)⟩
theorem BH {w0 w:World} {B:Nat} {bs:List UInt8} {p:Nat} {low:Bool} {F:SProp} (h:St w0 w (aq B bs p low*F)):
  Calls Tryz.prog 130 #[.pointer (some ⟨B,0,none⟩)] w fun e w'=>e= .returned (.int .i64 (8*(bs.length:Int)-p))∧St w0 w' (aq B bs p low*F):=
 (m8 (kV h)).mono fun _ _ ⟨he,m,hw⟩=>⟨he,hw ▸ h.drewN m⟩
theorem BI {w0 w:World} {B:Nat} {bs:List UInt8} {p:Nat} {low:Bool} {F:SProp} (h:St w0 w (aq B bs p low*F)) {j:Int} (n:Nat) (hj:j=n) (hn:n≤32):
  Calls Tryz.prog 129 #[.pointer (some ⟨B,0,none⟩),.int .i64 j] w fun e w'=>e= .returned (.tuple #[.int .u32 (bL bs low p n),.int .i64 0])∧St w0 w' (aq B bs p low*F):=
 (rB (kV h) n hj hn).mono fun _ _ ⟨he,m,hw⟩=>⟨he,hw ▸ h.drewN m⟩
theorem jn {w0 w:World} {B:Nat} {bs:List UInt8} {p:Nat} {low:Bool} {F:SProp} (h:St w0 w (aq B bs p low*F)) {j:Int} (n:Nat) (hj:j=n) (hn:n≤32) (hp:8*bs.length<p+n):
  Calls Tryz.prog 81 #[.pointer (some ⟨B,0,none⟩),.int .i64 j] w fun e w'=>e= .returned (.tuple #[.int .u32 0,.int .i64 2])∧St w0 w' (aq B bs p low*F):=
 (BG (kV h) n hj hn hp).mono fun _ _ ⟨he,m,hw⟩=>⟨he,hw ▸ h.drewN m⟩
end Go.Proofs.YtboflbdniogcdaaGreatDoor
