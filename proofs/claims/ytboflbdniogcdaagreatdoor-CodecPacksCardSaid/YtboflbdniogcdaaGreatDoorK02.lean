/-
  Parts of a proof.
-/
import Derived.Test.YtboflbdniogcdaaGreatDoorChecked
import Derived.Test.YtboflbdniogcdaaGreatDoorK01
set_option linter.unusedVariables false
set_option linter.unusedSimpArgs false
set_option maxRecDepth 100000
set_option maxHeartbeats 100000000
namespace Go.Proofs.YtboflbdniogcdaaGreatDoor
open Go.RowKit Go.Mz
structure RdrAt (w:World) (B:Nat) (bs:List UInt8) (p:Nat) (low:Bool):Prop where
 sl:∃ v,w.cell? ⟨B,0,none⟩=some v∧Reads w 1 v bs.length (bs.map bv)
 at_:w.cell? ⟨B,1,none⟩=some (.int .i64 (p:Int))
 low:w.cell? ⟨B,2,none⟩=some (.bool low)
 len:bs.length≤1000000000000000
 le:p≤8*bs.length
theorem RdrAt.len_cell {w:World} {B:Nat} {bs:List UInt8} {p:Nat} {low:Bool} (h:RdrAt w B bs p low):∃ a cap,w.cell? ⟨B,0,none⟩=some (.slice a bs.length cap):=by
 obtain⟨v,hv,hr⟩:=h.sl;obtain⟨a,cap,rfl⟩:=hr.sub;exact⟨a,cap,hv⟩
theorem RdrAt.byte {w:World} {B:Nat} {bs:List UInt8} {p:Nat} {low:Bool} (h:RdrAt w B bs p low) {i:Nat} (hi:i<bs.length):
  ∃ b off cap,w.cell? ⟨B,0,none⟩=some (.slice (some ⟨b,off,none⟩) bs.length cap)∧w.cell? ⟨b,off+i,none⟩=some (.int .u8 ((bs.getD i 0).toNat:Int)):=by
 obtain⟨v,hv,hr⟩:=h.sl;obtain⟨b,off,cap,rfl,hc⟩:=hr.cell hi;refine⟨b,off,cap,hv,?_⟩;rw[hc];simp [hi,bv]
theorem RdrAt.drewN {w:World} {B:Nat} {bs:List UInt8} {p:Nat} {low:Bool} (h:RdrAt w B bs p low) (n:Nat):RdrAt (w.drewN n) B bs p low:=
 ⟨h.sl,h.at_,h.low,h.len,h.le⟩
theorem qw {w:World} {B:Nat} {bs:List UInt8} {p:Nat} {low:Bool} (h:RdrAt w B bs p low):
  Calls Tryz.prog 130 #[.pointer (some ⟨B,0,none⟩)] w fun e w'=>e= .returned (.int .i64 (8*(bs.length:Int)-p))∧∃ n,w'=w.drewN n:=by
 obtain⟨a,cap,h0⟩:=h.len_cell;have h1:=h.at_;have h2:=h.len;have h3:=h.le;clear h;go_enter Tryz.func130,Tryz.ntmps130
 go_wp2
 go_quiet (fail)
 go_wp2
 go_ret;exact⟨rfl,_,rfl⟩
theorem zN (c k:Nat) (hc:c<256):bits BinOp.and .u32 ((c:Int)/2^k%4294967296) 1=((c/2^k%2:Nat):Int):=by
 have h:c/2^k<256:=jq (kZ _ _) hc;have e:((c:Int)/2^k%4294967296)=((c/2^k:Nat):Int):=by
  have e1:((c/2^k:Nat):Int)=(c:Int)/2^k:=by simp
  rw[← e1];generalize c/2^k=x at*
  omega
 rw[e];exact tn _ (by omega)
theorem zO {w:World} {B:Nat} {bs:List UInt8} {p:Nat} {low:Bool} (h:RdrAt w B bs p low) {j:Int} (i:Nat) (hj:j=i) (hi:i<8*bs.length):
  Calls Tryz.prog 167 #[.pointer (some ⟨B,0,none⟩),.int .i64 j] w fun e w'=>e= .returned (.int .u32 (dD bs low i))∧w=w':=by
 subst hj;obtain⟨b,off,cap,h0,hc⟩:=h.byte (i:=i/8) (by omega);have h2:=h.low;have h3:=h.len;have hb:(i:Int)/8<bs.length:=by omega
 have hc8:(bs.getD (i/8) 0).toNat<256:=bh _;have E:Hid (dD bs low i=(bs.getD (i/8) 0).toNat/2^(cond low (i%8) (7-i%8))%2):=ac rfl;generalize (bs.getD (i/8) 0).toNat=c at*
 generalize dD bs low i=r at*
 clear h;cases low
 all_goals
  go_enter Tryz.func167,Tryz.ntmps167
  go_wp2
  go_ret;refine⟨?_,rfl⟩;rw[E.out];exact congrArg (fun x=>Ending.returned (.int .u32 x)) (zN _ _ hc8)
theorem zP {w:World} {B:Nat} {bs:List UInt8} {p:Nat} {low:Bool} (h:RdrAt w B bs p low) {j:Int} (n:Nat) (hj:j=n) (hn:n≤32):
  Calls Tryz.prog 129 #[.pointer (some ⟨B,0,none⟩),.int .i64 j] w fun e w'=>e= .returned (.tuple #[.int .u32 (eR bs low p n),.int .i64 0])∧∃ m,w'=w.drewN m:=by
 subst hj;have h2:=h.low;have h1:=h.at_;have h3:=h.len;have h4:=h.le;go_enter Tryz.func129,Tryz.ntmps129;go_wp2_with fail
 go_loopw [6,16] (fun v i wr=>∃ k:Nat,k≤n∧i= .int .i64 k∧v= .int .u32 (eR bs low p k)∧∃ m,wr=w.drewN m) (fun _ i _=>n-(intOf i).toNat)
 case atStart=>exact⟨0,Nat.zero_le _,rfl,rfl,0,rfl⟩
 case round=>
  obtain⟨k,hk,rfl,rfl,m,rfl⟩:=hrel;have H:=ac h;clear h;have hlt:=zE bs low p k
  by_cases hkn:k<n
  ·by_cases hkl:p+k<8*bs.length
   ·have hkl':(k:Int)<8*(bs.length:Int)-p:=by omega
    have hb:=tj bs low (p+k);have hbit:∀ W,RdrAt W B bs p low→Calls Tryz.prog 167 #[.pointer (some ⟨B,0,none⟩),.int .i64 ((p:Int)+k)] W fun e w'=>e= .returned (.int .u32 (dD bs low (p+k)))∧W=w':=
     fun W hW=>zO hW (p+k) (by simp) hkl
    have Hb:=ac hbit;clear hbit;have hs:Hid (eR bs low p (k+1)=cond low (eR bs low p k+dD bs low (p+k)*2^k) (eR bs low p k*2+dD bs low (p+k))):=by
     cases low <;> rfl
    generalize dD bs low (p+k)=b at*
    generalize eR bs low p k=x at*
    have E1:=ac (tp hlt (by omega) hb);have E2:=ac (tr hlt (by omega) hb);cases low
    all_goals
     go_wp2_with (first | (go_at_call 130;refine(qw (H.out.drewN _)).mono ?_;rintro e w' ⟨rfl,m1,rfl⟩) | (go_at_call 167;refine(Hb.out _ (H.out.drewN _)).mono ?_;rintro e w' ⟨rfl,rfl⟩))
     go_roundw
     case rel=>exact⟨k+1,by omega,by go_num,by rw[hs.out];simp only[cond];first | rw[E1.out] | rw[E2.out],_,rfl⟩
     case measure=>simp [intOf];omega
   ·have hkl':¬ (k:Int)<8*(bs.length:Int)-p:=by omega
    have hs:Hid (eR bs low p (k+1)=cond low (eR bs low p k+0*2^k) (eR bs low p k*2+0)):=by
     have e:=tm bs low (p+k) (by omega);cases low
     ·rw[zF,e];rfl
     ·rw[zG,e];rfl
    generalize eR bs low p k=x at*
    have E1:=ac (tp (b:=0) hlt (by omega) (by omega));have E2:=ac (tr (b:=0) hlt (by omega) (by omega));cases low
    all_goals
     go_wp2_with (first | (go_at_call 130;refine(qw (H.out.drewN _)).mono ?_;rintro e w' ⟨rfl,m1,rfl⟩))
     go_roundw
     case rel=>exact⟨k+1,by omega,by go_num,by rw[hs.out];simp only[cond];(first | rw[← E1.out] | rw[← E2.out]);simp,_,rfl⟩
     case measure=>simp [intOf];omega
  ·obtain rfl:k=n:=by omega
   go_wp2
   go_ret2;exact⟨rfl,_,rfl⟩
def ky (B:Nat) (bs:List UInt8) (p:Nat) (low:Bool):SProp:=
 gt fun v:Value=>iW (bs.length≤1000000000000000∧p≤8*bs.length)*(blk B (.cells #[v,.int .i64 (p:Int),.bool low] 170 (0,0))*own 5 1 v bs.length (bs.map bv))
theorem tA {w0 w:World} {B:Nat} {bs:List UInt8} {p:Nat} {low:Bool} {F:SProp} (h:St w0 w (ky B bs p low*F)):
  bs.length≤1000000000000000∧p≤8*bs.length∧∃ v,St w0 w (blk B (.cells #[v,.int .i64 (p:Int),.bool low] 170 (0,0))*(own 5 1 v bs.length (bs.map bv)*F)):=by
 obtain⟨v,h⟩:=h.ex_l;have h:=h.perm (bk _ _ _);obtain⟨⟨h1,h2⟩,h⟩:=h.pure_l;exact⟨h1,h2,v,h.perm (bk _ _ _)⟩
theorem tB {w0 w:World} {B:Nat} {bs:List UInt8} {p:Nat} {low:Bool} {F:SProp} {v:Value} (h1:bs.length≤1000000000000000) (h2:p≤8*bs.length)
  (h:St w0 w (blk B (.cells #[v,.int .i64 (p:Int),.bool low] 170 (0,0))*(own 5 1 v bs.length (bs.map bv)*F))):St w0 w (ky B bs p low*F):=by
 refine St.mk_ex_l v ?_;refine St.perm ?_ (bk _ _ _).symm;exact St.mk_pure_l ⟨h1,h2⟩ (h.perm (bk _ _ _).symm)
theorem zQ {w0 w:World} {B:Nat} {bs:List UInt8} {p:Nat} {low:Bool} {F:SProp} (h:St w0 w (ky B bs p low*F)):RdrAt w B bs p low:=by
 obtain⟨h1,h2,v,h⟩:=tA h;exact⟨⟨v,h.cell 0 rfl,h.right.reads⟩,h.cell 1 rfl,h.cell 2 rfl,h1,h2⟩
theorem zR {w0 w:World} {B:Nat} {bs:List UInt8} {p:Nat} {low:Bool} {F:SProp} (h:St w0 w (ky B bs p low*F)) {j:Int} (n:Nat) (hj:j=n) (hn:n≤32) (hp:p+n≤8*bs.length):
  Calls Tryz.prog 81 #[.pointer (some ⟨B,0,none⟩),.int .i64 j] w fun e w'=>e= .returned (.tuple #[.int .u32 (eR bs low p n),.int .i64 0])∧St w0 w' (ky B bs (p+n) low*F):=by
 subst hj;have hr:=zQ h;have hg:¬ 8*(bs.length:Int)-p<n:=by omega
 obtain⟨h3,h4,v,hb⟩:=tA h;have c1:w.cell? ⟨B,1,none⟩=some (.int .i64 p):=hb.cell 1 rfl;have f1:=hb.free 1;have H:=ac hr;clear hr h;have HB:=ac hb;clear hb;generalize hx:eR bs low p n=x;have hp:=ac (zP H.out n rfl hn);rw[hx] at hp;clear hx;go_enter Tryz.func81,Tryz.ntmps81;go_wp2_with (first | (go_at_call 129;refine hp.out.mono ?_;rintro e w' ⟨rfl,m1,rfl⟩) | (go_at_call 130;refine(qw (H.out.drewN _)).mono ?_;rintro e w' ⟨rfl,m2,rfl⟩));go_ret2;refine⟨rfl,?_⟩;have:=(HB.out.drewN (m1+m2)).set 1 (.int .i64 ((p+n:Nat):Int));exact tB h3 (by omega) this
theorem eh:ElemT Tryz.prog 32 5 1 1 (.int .u8 0):=
 ⟨Tryz.underlying32,info_parts (by kernel_rfl),rfl,by decide⟩
theorem gx (bs:List UInt8):∀ u∈bs.map bv,u.oneCell'=true:=by
 intro u hu;obtain⟨c,_,rfl⟩:=bW.1 hu;rfl
theorem zS {w0 w:World} {bs:List UInt8} {v:Value} {low:Bool} {F:SProp} (h:St w0 w F) (hv:Stb w0 F (fun w=>Reads w 1 v bs.length (bs.map bv))) (hl:bs.length≤100000000000000):
  Calls Tryz.prog 80 #[v,.bool low] w fun e w'=>∃ B,e= .returned (.pointer (some ⟨B,0,none⟩))∧St w0 w' (ky B bs 0 low*F):=by
 have H:=ac h;clear h;have HV:=ac hv;clear hv;have T:=eh;go_enter Tryz.func80,Tryz.ntmps80;go_wp2_with (at_builtin;apply ag);refine on (aC T rfl (.tmp 5) (.tmp 6) rfl rfl (St.own_blk (e:=5) (size:=1) (n:=0) (cap:=0) (xs:=[]) (H.out.alloc (.cells #[] 5)) (Nat.le_refl _) (Nat.zero_le _) rfl rfl) rfl (HV.out _ (H.out.drop_alloc _)) (gx bs) ?_ ?_ ?_)
 ·unfold maxLen;omega
 ·omega
 intro v' w1 h1 _;simp only[bQ,ba] at h1;obtain⟨a,cap,rfl⟩:=h1.reads.sub;have H1:=ac h1;clear h1 H HV
 go_wp2
 go_ret;exact⟨_,rfl,tB (by omega) (by omega) (H1.out.alloc _)⟩
end Go.Proofs.YtboflbdniogcdaaGreatDoor
