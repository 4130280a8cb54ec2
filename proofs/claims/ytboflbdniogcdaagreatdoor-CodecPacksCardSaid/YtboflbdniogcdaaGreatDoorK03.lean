/-
  Parts of a proof.
-/
import Derived.WalkLawsBesides
import Derived.Laws.Externs
import Derived.Test.YtboflbdniogcdaaGreatDoorK02
set_option linter.unusedVariables false
set_option linter.unusedSimpArgs false
set_option maxRecDepth 100000
set_option maxHeartbeats 100000000
namespace Go.Proofs.YtboflbdniogcdaaGreatDoor
open Go.RowKit Go.Mz
theorem zT (x y:Nat) (w:World):(callFunc 195 #[.int .u64 (x:Int),.int .u64 (y:Int),.int .u64 0]).run Tryz.prog w=
  .ok (.value (.tuple #[.int .u64 (((x:Int)+(y:Int)+0)%18446744073709551616),.int .u64 (((x:Int)+(y:Int)+0)/18446744073709551616)])) w:=by
 rw[run_callFunc_extern (fn:=Tryz.f195) (by kernel_rfl) (by kernel_rfl) (by kernel_rfl) (by kernel_rfl) (e:=add64Entry) (by kernel_rfl),run_add64 x y 0 (by omega) (by omega) (by omega) (by omega)];rfl
theorem zU {x y n:Nat} (hn:x+y=n) (h:n<18446744073709551616) (w:World):(callFunc 195 #[.int .u64 (x:Int),.int .u64 (y:Int),.int .u64 0]).run Tryz.prog w=
  .ok (.value (.tuple #[.int .u64 (n:Int),.int .u64 0])) w:=by
 rw[zT,show((x:Int)+y+0)%18446744073709551616=(n:Int) by omega,show((x:Int)+y+0)/18446744073709551616=0 by omega]
theorem zV {x y n:Nat} (hn:x+y=n) (h:n<18446744073709551616) {w:World}:
  Calls Tryz.prog 166 #[.int .u64 (x:Int),.int .u64 (y:Int)] w fun e w'=>e= .returned (.tuple #[.int .u64 (n:Int),.int .i64 0])∧w=w':=by
 have hr:=zU hn h w;clear hn h;go_enter Tryz.func166,Tryz.ntmps166;go_wp2_with fail;go_ret2;exact⟨rfl,rfl⟩
theorem jz {w:World} {a:Option Addr} {n c size:Nat} {xs:List Value} (h:Reads w size (.slice a n c) n xs):n≤c∧c≤maxLen:=by
 obtain⟨hl,⟨e1,e2⟩ | ⟨x,cap,e1,h1,h2,h3⟩⟩:=h
 ·cases e1;exact⟨Nat.le_refl _,Nat.zero_le _⟩
 ·cases e1;exact⟨h1,h2⟩
theorem kz {w:World} {x:Addr} {n c:Nat} {xs:List Value} (h:Reads w 1 (.slice (some x) n c) n xs) {i j:Nat} (hi:i≤j) (hj:j≤n):Reads w 1 (.slice (some (x.add i)) (j-i) (c-i)) (j-i) ((xs.drop i).take (j-i)):=by
 obtain⟨hl,⟨h0,_⟩ | ⟨x,c,h1,h2,h3,h4⟩⟩:=h
 ·cases h0
 ·cases h1;refine⟨by rw[aJ,bH,hl];omega,.inr ⟨_,_,rfl,by omega,by omega,fun k u hu=> ?_⟩⟩;rw[jn] at hu
  split at hu
  ·rw[lT] at hu;rw[Addr.add_add];exact h4 _ _ hu
  ·cases hu
theorem nJ (w:World) (a:Option Addr):Reads w 1 (.slice a 0 0) 0 []:=by
 refine⟨rfl,?_⟩;cases a with
 | none=>exact .inl ⟨rfl,rfl⟩
 | some x=>exact .inr ⟨x,0,rfl,Nat.le_refl _,Nat.zero_le _,fun j u hu=>by simp at hu⟩
theorem zW {w:World} {a:Option Addr} {n c size:Nat} {xs:List Value} (h:Reads w size (.slice a n c) n xs) (hc:0<c):∃ x,a=some x:=by
 obtain⟨hl,⟨e1,e2⟩ | ⟨x,cap,e1,h1,h2,h3⟩⟩:=h
 ·cases e1;omega
 ·cases e1;exact⟨_,rfl⟩
theorem zX {w0 w:World} {F:SProp} (h:St w0 w F) {bs:List UInt8} {v:Value} (hv:Stb w0 F (fun w=>Reads w 1 v bs.length (bs.map bv))) {p n:Nat} (hn:p+n≤bs.length) (hl:bs.length≤1000000000):
  Calls Tryz.prog 128 #[v,.int .u64 (p:Int),.int .u64 (n:Int)] w fun e w'=>∃ v',e= .returned (.tuple #[v',.int .i64 0])∧St w0 w' (own 5 1 v' n (((bs.drop p).take n).map bv)*F):=by
 obtain⟨ab,cb,rfl⟩:=(hv w h).sub;have hm:=(hv w h).len_le;obtain⟨hcap,hcap2⟩:=jz (hv w h);unfold maxLen at hm hcap2;have H:=ac h;have HV:=ac hv;obtain⟨L,hL⟩:∃ L,bs.length=L:=⟨_,rfl⟩;rw[hL] at HV hn hm hcap hl;simp only[hL];obtain⟨q,hq⟩:∃ q,p+n=q:=⟨_,rfl⟩;have HA:=ac (zV hq (w:=w) (by omega));have hqL:(q:Int)≤L:=by omega
 have hpq:(p:Int)≤q:=by omega
 have hpq2:p≤q:=by omega
 have hqL2:q≤L:=by omega
 have hqm:n≤1000000000:=by omega
 have HL:=ac hL;have HQ:=ac hq;clear h hv hL hq hn;have T:=eh;have hT:((bs.map bv).drop p).take (q-p)=((bs.drop p).take n).map bv:=by rw[← HQ.out,pX,← nw,← kn]
 have HT:=ac hT;clear hT
 by_cases hcp:cb=p
 ·subst hcp;have hq0:q=cb:=by omega
  go_enter Tryz.func128,Tryz.ntmps128;go_wp2_with (first | (go_at_call 166;refine HA.out.mono ?_;rintro e w1 ⟨rfl,rfl⟩) | (at_builtin;apply ag));obtain rfl:n=0:=by have:=HQ.out;omega
  refine on (aC T rfl _ _ rfl rfl (St.own_blk (e:=5) (size:=1) (n:=0) (cap:=0) (xs:=[]) (H.out.alloc (.cells #[] 5)) (Nat.le_refl _) (Nat.zero_le _) rfl rfl) rfl (nJ _ ab) (by simp) (by decide) (by decide) ?_);intro v4 w4 h4 _;rw[ba,bQ] at h4;have H4:=ac h4;clear h4;go_wp2_with fail;go_ret2;exact⟨v4,rfl,H4.out⟩
 ·obtain⟨x,rfl⟩:=zW (HV.out _ H.out) (by omega);go_enter Tryz.func128,Tryz.ntmps128;go_wp2_with (first | (go_at_call 166;refine HA.out.mono ?_;rintro e w1 ⟨rfl,rfl⟩) | (at_builtin;apply ag));have hrd:=kz (HV.out _ (H.out.drop_alloc (.cells #[] 5))) hpq2 hqL2;rw[HT.out,show q-p=n by have:=HQ.out;omega] at hrd;have hqp:q-p=n:=by have:=HQ.out;omega
  refine on (aC T rfl _ _ rfl rfl (St.own_blk (e:=5) (size:=1) (n:=0) (cap:=0) (xs:=[]) (H.out.alloc (.cells #[] 5)) (Nat.le_refl _) (Nat.zero_le _) rfl rfl) (by simp [Act.eval,hqp]) hrd (gx _) (by unfold maxLen;omega) (by omega) ?_);intro v4 w4 h4 _;rw[ba,bQ] at h4;have H4:=ac h4;clear h4 hqp;go_wp2_with fail;go_ret2;exact⟨v4,rfl,H4.out⟩
def bS (bs:List UInt8):Nat:=bs.foldl (fun n c=>n*256+c.toNat) 0
def ln (big:Bool) (bs:List UInt8):Nat:=bS (cond big bs bs.reverse)
theorem lp (bs:List UInt8) (c:UInt8):bS (bs++[c])=bS bs*256+c.toNat:=by simp [bS,lU]
theorem nK (bs:List UInt8):bS bs<256^bs.length:=by
 have key:∀ l:List UInt8,bS l.reverse<256^l.length:=by
  intro l
  induction l with
  | nil=>decide
  | cons c l ih=>
   have:=bh c;rw[km,lp,aK,df];omega
 have:=key bs.reverse;rwa [lV,ko] at this
def jc (n:Nat):Prop:=n=1∨n=2∨n=4∨n=8
theorem qx {w:World} {n:Nat} (h:jc n):Calls Tryz.prog 127 #[.int .i64 (n:Int)] w fun e w'=>e= .returned (.bool true)∧w=w':=by
 rcases h with rfl | rfl | rfl | rfl
 all_goals
  go_enter Tryz.func127,Tryz.ntmps127;go_wp2_with fail;go_ret;exact⟨rfl,rfl⟩
theorem zY (a b:Nat) (ha:a<18446744073709551616) (hb:b<18446744073709551616):bits .or .u64 (a:Int) (b:Int)=((a ||| b:Nat):Int):=by
 have hx:a ||| b<2^64:=Nat.or_lt_two_pow (by omega) (by omega)
 show IntKind.u64.wrap ((BitVec.ofInt 64 (a:Int) ||| BitVec.ofInt 64 (b:Int)).toNat:Int)=_;rw[BitVec.toNat_or,ofInt_u64 a (by omega),ofInt_u64 b (by omega)];exact IntWalk.u64_in _ (by omega)
theorem tC {x c:Nat} (hx:x*256<18446744073709551616) (hc:c<256):bits .or .u64 ((x:Int)*256) (c:Int)=((x*256+c:Nat):Int):=by
 have e:(x:Int)*256=((x*256:Nat):Int):=by omega
 rw[e,zY _ _ hx (by omega)]
 congr 1
 exact nat_join 8 (x*256) c (by omega) (by omega)
theorem zZ {w0 w:World} {F:SProp} (h:St w0 w F) {bs:List UInt8} {v:Value} (hv:Stb w0 F (fun w=>Reads w 1 v bs.length (bs.map bv))) {p n:Nat} (hn:p+n≤bs.length) (hl:bs.length≤1000000000) (hw:jc n) (big:Bool):
  Calls Tryz.prog 79 #[v,.int .u64 (p:Int),.int .i64 (n:Int),.bool big] w fun e w'=>e= .returned (.tuple #[.int .u64 (ln big ((bs.drop p).take n):Nat),.int .i64 0])∧St w0 w' F:=by
 have HW:=ac (zX h hv hn hl);have HS:=ac (qx (w:=w) hw);have hn8:n≤8:=by rcases hw with rfl | rfl | rfl | rfl <;> omega
 generalize hcs:(bs.drop p).take n=cs at*
 have hcl:cs.length=n:=by rw[← hcs,aJ,bH];omega
 have HCL:=ac hcl;clear h hv hn hw hcs hcl;go_enter Tryz.func79,Tryz.ntmps79;go_wp2_with (first | (go_at_call 127;refine HS.out.mono ?_;rintro e w1 ⟨rfl,rfl⟩) | (go_at_call 128;refine HW.out.mono ?_;rintro e w2 ⟨v2,rfl,h2⟩;have H2:=ac h2;obtain⟨a2,c2,rfl⟩:=h2.reads.sub;clear h2));obtain⟨ds,hds⟩:∃ ds,cond big cs cs.reverse=ds:=⟨_,rfl⟩;have hdl:ds.length=n:=by rw[← hds];cases big <;> simp [HCL.out]
 have HDL:=ac hdl;have HDS:=ac hds;clear hdl hds
 go_loopw [12,31] (fun vn vi wr=>∃ k:Nat,k≤n∧vi= .int .i64 k∧vn= .int .u64 (bS (ds.take k):Nat)∧∃ m,wr=w2.drewN m) (fun _ vi _=>n-(intOf vi).toNat)
 case atStart=>exact⟨0,by omega,rfl,rfl,0,by rw[World.drewN_zero]⟩
 case round=>
  obtain⟨k,hk,rfl,rfl,m,rfl⟩:=hrel
  by_cases hkn:k<n
  ·have hkI:(k:Int)<n:=by omega
   obtain⟨g,rfl⟩:=bR H2.out (by omega);obtain⟨j,hj⟩:∃ j,n-1-k=j:=⟨_,rfl⟩;have hjn:j<n:=by omega
   have hjI:(n:Int)-1-(k:Int)=(j:Int):=by omega
   have hjl:(j:Int)<n:=by omega
   obtain⟨x,hx⟩:∃ x,(cs.getD k 0).toNat=x:=⟨_,rfl⟩;obtain⟨y,hy⟩:∃ y,(cs.getD j 0).toNat=y:=⟨_,rfl⟩;have hc1:=(H2.out.drewN m).own_cell (i:=k) (u:= .int .u8 (x:Int)) (by rw[au,← hx,List.getD_eq_getElem?_getD,ai (by rw[HCL.out];exact hkn)];rfl);have hc2:=(H2.out.drewN m).own_cell (i:=j) (u:= .int .u8 (y:Int)) (by rw[au,← hy,List.getD_eq_getElem?_getD,ai (by rw[HCL.out];exact hjn)];rfl);have hx8:x<256:=by rw[← hx];exact bh _
   have hy8:y<256:=by rw[← hy];exact bh _
   have hnum:bS (ds.take (k+1))=bS (ds.take k)*256+cond big x y:=by
    have hkd:k<ds.length:=by rw[HDL.out];exact hkn
    rw[List.take_succ_eq_append_getElem hkd,lp]
    congr 1
    cases big
    ·have hds:=HDS.out;simp only[cond] at hds;subst hds;simp only[cond];rw[List.getElem_reverse,← hy,List.getD_eq_getElem?_getD,ai (by rw[HCL.out];exact hjn)];simp only[iB]
     congr 2
     rw[HCL.out];exact hj
    ·have hds:=HDS.out;simp only[cond] at hds;subst hds;simp only[cond];rw[← hx,List.getD_eq_getElem?_getD,ai (by rw[HCL.out];exact hkn)];rfl
   have hlt:bS (ds.take k)*256<18446744073709551616:=by
    have h1:=nK (ds.take k);rw[aJ,HDL.out] at h1;have h2:256^(min k n)≤256^7:=dX (by decide) (by omega);omega
   have HNUM:=ac hnum;generalize bS (ds.take k)=nk at*
   have HO1:=ac (tC hlt hx8);have HO2:=ac (tC hlt hy8);clear hnum hj hx hy;cases big
   ·go_wp2_with fail;exact⟨⟨k+1,by omega,by go_num,congrArg (Value.int .u64) (by rw[HNUM.out,HO2.out];rfl),m,rfl⟩,by simp [intOf];omega⟩
   ·go_wp2_with fail;exact⟨⟨k+1,by omega,by go_num,congrArg (Value.int .u64) (by rw[HNUM.out,HO1.out];rfl),m,rfl⟩,by simp [intOf];omega⟩
  ·obtain rfl:n=k:=by omega
   have hkI:¬ ((n:Int)<n):=by omega
   have HNO:=ac (show bS (ds.take n)=ln big cs by rw[bU (by rw[HDL.out];exact Nat.le_refl _),← HDS.out];rfl);generalize bS (ds.take n)=nk at*
   go_wp2_with fail;go_ret2;refine⟨?_,(H2.out.drewN m).right⟩;rw[← HNO.out];rfl
def bJ (v:Nat):Nat→List UInt8
 | 0=>[]
 | n+1=>bJ v n++[UInt8.ofNat (v/256^n%256)]
def dx (big:Bool) (v n:Nat):List UInt8:=cond big (bJ v n).reverse (bJ v n)
@[simp] theorem nL (v n:Nat):(bJ v n).length=n:=by induction n with
 | zero=>rfl
 | succ n ih=>simp [bJ,ih]
theorem jV (big:Bool) (v n:Nat):(dx big v n).length=n:=by cases big <;> simp [dx]
theorem tD (x:Nat):Value.int .u8 ((x%256:Nat):Int)=bv (UInt8.ofNat (x%256)):=by
 unfold bv;rw[UInt8.toNat_ofNat'];congr 1;omega
theorem tE (v n k:Nat) (h:k<n):(((bJ v k++List.replicate (n-k) 0).map bv).set k (.int .u8 ((v/256^k%256:Nat):Int)))=(bJ v (k+1)++List.replicate (n-(k+1)) 0).map bv:=by
 rw[tD,← ez,lW _ _ (by simp),nL,du];obtain⟨m,hm⟩:∃ m,n-k=m+1:=⟨n-k-1,by omega⟩;rw[hm,show n-(k+1)=m by omega,jr,js,bJ,List.append_assoc];rfl
theorem tF (v n k:Nat) (h:k<n):(((List.replicate (n-k) 0++(bJ v k).reverse).map bv).set (n-1-k) (.int .u8 ((v/256^k%256:Nat):Int)))=(List.replicate (n-(k+1)) 0++(bJ v (k+1)).reverse).map bv:=by
 obtain⟨m,hm⟩:∃ m,n-k=m+1:=⟨n-k-1,by omega⟩;rw[tD,← ez,hm,show n-(k+1)=m by omega,show n-1-k=m by omega,ft,List.append_assoc,lW _ _ (by simp),dK,du,bJ,sY];rfl
theorem lq (v k:Nat):(v:Int)/2^(8*k)=((v/256^k:Nat):Int):=by rw[Int.pow_mul];simp
theorem tG {w0 w:World} {F:SProp} (h:St w0 w F) {v n:Nat} (hw:jc n) (hv:v<256^n) (big:Bool):
  Calls Tryz.prog 83 #[.int .u64 (v:Int),.int .i64 (n:Int),.bool big] w fun e w'=>∃ v',e= .returned (.tuple #[v',.int .i64 0])∧St w0 w' (own 5 1 v' n ((dx big v n).map bv)*F):=by
 have HS:=ac (qx (w:=w) hw);have hn8:1≤n∧n≤8:=by rcases hw with rfl | rfl | rfl | rfl <;> omega
 have H:=ac h;have hv8:v<18446744073709551616:=kp hv (show 256^n≤256^8 from dX (by decide) hn8.2);have hz:((v:Int)/2^(8*n) != 0)=false:=by rw[lq,fv hv];rfl
 obtain⟨n1,n8⟩:=hn8;clear h hv hw;have T:=eh;have key:∀ (w1:World) (v2:Value),St w0 w1 (own 5 1 v2 n (madeCells (Value.int .u8 0).cells (n*1)).toList*F)→St w0 w1 (own 5 1 v2 n ((List.replicate n 0).map bv)*F):=by
  intro w1 v2 h;have e:(madeCells (Value.int .u8 0).cells (n*1)).toList=(List.replicate n 0).map bv:=by rw[gW];simp [Value.cells,toList_madeCells_one,bv]
  rwa [e] at h
 have KEY:=ac key;clear key
 by_cases h8:n<8
 ·have h8I:(n:Int)<8:=by omega
  go_enter Tryz.func83,Tryz.ntmps83;go_wp2_with (first | (go_at_call 127;refine HS.out.mono ?_;rintro e w1 ⟨rfl,rfl⟩) | (at_make;apply ag));refine on (iF T rfl _ _ rfl n rfl rfl rfl rfl H.out (by unfold maxLen;omega) (by omega) ?_);intro v2 w2 h2;have h2:=KEY.out _ _ h2;obtain⟨a2,c2,rfl⟩:=h2.reads.sub;have H2:=ac h2;clear h2 H;go_wp2_with fail;cases big
  ·go_loopw [27] (fun vi wr=>∃ k:Nat,k≤n∧vi= .int .i64 k∧St w0 wr (own 5 1 (.slice a2 n c2) n ((bJ v k++List.replicate (n-k) 0).map bv)*F)) (fun vi _=>n-(intOf vi).toNat)
   case atStart=>exact⟨0,by omega,rfl,by rw[show bJ v 0++List.replicate (n-0) 0=List.replicate n 0 by rfl];exact H2.out⟩
   case round=>
    clear H2;obtain⟨k,hk,rfl,hst⟩:=hrel
    by_cases hkn:k<n
    ·have hkI:(k:Int)<n:=by omega
     obtain⟨g,rfl⟩:=bR hst (by omega);obtain⟨j,hj⟩:∃ j,n-1-k=j:=⟨_,rfl⟩;have hjn:j<n:=by omega
     have hjI:(n:Int)-1-(k:Int)=(j:Int):=by omega
     have hjl:(j:Int)<n:=by omega
     have hfz:=hst.own_free k;have hcc:=hst.own_cell (i:=k) (u:= .int .u8 0) (by rw[au,dh (by simp),nL,du,eb,if_pos (by omega)];rfl);have hst2:=hst.own_set k (.int .u8 ((v/256^k%256:Nat):Int));have hps:=tE v n k hkn
     skip
     rw[hps] at hst2;have hpow:(v:Int)/2^(8*k)%256=((v/256^k%256:Nat):Int):=by rw[lq];omega
     generalize v/256^k%256=z at*
     have HST:=ac hst2;clear hst hst2 hps hj;go_wp2_with fail;exact⟨⟨k+1,by omega,by go_num,HST.out⟩,by simp [intOf];omega⟩
    ·obtain rfl:n=k:=by omega
     have hkI:¬ ((n:Int)<n):=by omega
     rw[du] at hst;have HST:=ac hst;clear hst;go_wp2_with fail;go_ret2;exact⟨_,rfl,by simpa [dx] using HST.out⟩
  ·go_loopw [27] (fun vi wr=>∃ k:Nat,k≤n∧vi= .int .i64 k∧St w0 wr (own 5 1 (.slice a2 n c2) n ((List.replicate (n-k) 0++(bJ v k).reverse).map bv)*F)) (fun vi _=>n-(intOf vi).toNat)
   case atStart=>exact⟨0,by omega,rfl,by rw[show List.replicate (n-0) 0++(bJ v 0).reverse=List.replicate n 0 by simp [bJ]];exact H2.out⟩
   case round=>
    clear H2;obtain⟨k,hk,rfl,hst⟩:=hrel
    by_cases hkn:k<n
    ·have hkI:(k:Int)<n:=by omega
     obtain⟨g,rfl⟩:=bR hst (by omega);obtain⟨j,hj⟩:∃ j,n-1-k=j:=⟨_,rfl⟩;have hjn:j<n:=by omega
     have hjI:(n:Int)-1-(k:Int)=(j:Int):=by omega
     have hjl:(j:Int)<n:=by omega
     have hfz:=hst.own_free j;have hcc:=hst.own_cell (i:=j) (u:= .int .u8 0) (by rw[au,cR (by simp;omega),eb,if_pos (by omega)];rfl);have hst2:=hst.own_set j (.int .u8 ((v/256^k%256:Nat):Int));have hps:=tF v n k hkn;rw[hj] at hps;rw[hps] at hst2;have hpow:(v:Int)/2^(8*k)%256=((v/256^k%256:Nat):Int):=by rw[lq];omega
     generalize v/256^k%256=z at*
     have HST:=ac hst2;clear hst hst2 hps hj;go_wp2_with fail;exact⟨⟨k+1,by omega,by go_num,HST.out⟩,by simp [intOf];omega⟩
    ·obtain rfl:n=k:=by omega
     have hkI:¬ ((n:Int)<n):=by omega
     rw[du] at hst;have HST:=ac hst;clear hst;go_wp2_with fail;go_ret2;exact⟨_,rfl,by simpa [dx] using HST.out⟩
 ·have h8I:¬ (n:Int)<8:=by omega
  go_enter Tryz.func83,Tryz.ntmps83;go_wp2_with (first | (go_at_call 127;refine HS.out.mono ?_;rintro e w1 ⟨rfl,rfl⟩) | (at_make;apply ag));refine on (iF T rfl _ _ rfl n rfl rfl rfl rfl H.out (by unfold maxLen;omega) (by omega) ?_);intro v2 w2 h2;have h2:=KEY.out _ _ h2;obtain⟨a2,c2,rfl⟩:=h2.reads.sub;have H2:=ac h2;clear h2 H;go_wp2_with fail;cases big
  ·go_loopw [27] (fun vi wr=>∃ k:Nat,k≤n∧vi= .int .i64 k∧St w0 wr (own 5 1 (.slice a2 n c2) n ((bJ v k++List.replicate (n-k) 0).map bv)*F)) (fun vi _=>n-(intOf vi).toNat)
   case atStart=>exact⟨0,by omega,rfl,by rw[show bJ v 0++List.replicate (n-0) 0=List.replicate n 0 by rfl];exact H2.out⟩
   case round=>
    clear H2;obtain⟨k,hk,rfl,hst⟩:=hrel
    by_cases hkn:k<n
    ·have hkI:(k:Int)<n:=by omega
     obtain⟨g,rfl⟩:=bR hst (by omega);obtain⟨j,hj⟩:∃ j,n-1-k=j:=⟨_,rfl⟩;have hjn:j<n:=by omega
     have hjI:(n:Int)-1-(k:Int)=(j:Int):=by omega
     have hjl:(j:Int)<n:=by omega
     have hfz:=hst.own_free k;have hcc:=hst.own_cell (i:=k) (u:= .int .u8 0) (by rw[au,dh (by simp),nL,du,eb,if_pos (by omega)];rfl);have hst2:=hst.own_set k (.int .u8 ((v/256^k%256:Nat):Int));have hps:=tE v n k hkn
     skip
     rw[hps] at hst2;have hpow:(v:Int)/2^(8*k)%256=((v/256^k%256:Nat):Int):=by rw[lq];omega
     generalize v/256^k%256=z at*
     have HST:=ac hst2;clear hst hst2 hps hj;go_wp2_with fail;exact⟨⟨k+1,by omega,by go_num,HST.out⟩,by simp [intOf];omega⟩
    ·obtain rfl:n=k:=by omega
     have hkI:¬ ((n:Int)<n):=by omega
     rw[du] at hst;have HST:=ac hst;clear hst;go_wp2_with fail;go_ret2;exact⟨_,rfl,by simpa [dx] using HST.out⟩
  ·go_loopw [27] (fun vi wr=>∃ k:Nat,k≤n∧vi= .int .i64 k∧St w0 wr (own 5 1 (.slice a2 n c2) n ((List.replicate (n-k) 0++(bJ v k).reverse).map bv)*F)) (fun vi _=>n-(intOf vi).toNat)
   case atStart=>exact⟨0,by omega,rfl,by rw[show List.replicate (n-0) 0++(bJ v 0).reverse=List.replicate n 0 by simp [bJ]];exact H2.out⟩
   case round=>
    clear H2;obtain⟨k,hk,rfl,hst⟩:=hrel
    by_cases hkn:k<n
    ·have hkI:(k:Int)<n:=by omega
     obtain⟨g,rfl⟩:=bR hst (by omega);obtain⟨j,hj⟩:∃ j,n-1-k=j:=⟨_,rfl⟩;have hjn:j<n:=by omega
     have hjI:(n:Int)-1-(k:Int)=(j:Int):=by omega
     have hjl:(j:Int)<n:=by omega
     have hfz:=hst.own_free j;have hcc:=hst.own_cell (i:=j) (u:= .int .u8 0) (by rw[au,cR (by simp;omega),eb,if_pos (by omega)];rfl);have hst2:=hst.own_set j (.int .u8 ((v/256^k%256:Nat):Int));have hps:=tF v n k hkn;rw[hj] at hps;rw[hps] at hst2;have hpow:(v:Int)/2^(8*k)%256=((v/256^k%256:Nat):Int):=by rw[lq];omega
     generalize v/256^k%256=z at*
     have HST:=ac hst2;clear hst hst2 hps hj;go_wp2_with fail;exact⟨⟨k+1,by omega,by go_num,HST.out⟩,by simp [intOf];omega⟩
    ·obtain rfl:n=k:=by omega
     have hkI:¬ ((n:Int)<n):=by omega
     rw[du] at hst;have HST:=ac hst;clear hst;go_wp2_with fail;go_ret2;exact⟨_,rfl,by simpa [dx] using HST.out⟩
theorem Aa {w0 w:World} {F:SProp} (h:St w0 w F) {v n:Nat} (hw:jc n) (hv:256^n≤v) (hv8:v<18446744073709551616) (big:Bool):
  Calls Tryz.prog 83 #[.int .u64 (v:Int),.int .i64 (n:Int),.bool big] w fun e w'=>e= .returned (.tuple #[.slice none 0 0,.int .i64 7])∧St w0 w' F:=by
 have HS:=ac (qx (w:=w) hw);have hn8:1≤n∧n<8:=by rcases hw with rfl | rfl | rfl | rfl <;> omega
 have H:=ac h;have hz:((v:Int)/2^(8*n) != 0)=true:=by
  rw[lq];have:0<v/256^n:=Nat.div_pos hv (pY (by decide));obtain⟨q,hq⟩:∃ q,v/256^n=q:=⟨_,rfl⟩;rw[hq] at this ⊢;simp;omega
 obtain⟨n1,n8⟩:=hn8;have h8I:(n:Int)<8:=by omega
 clear h hv hw;go_enter Tryz.func83,Tryz.ntmps83;go_wp2_with (first | (go_at_call 127;refine HS.out.mono ?_;rintro e w1 ⟨rfl,rfl⟩));go_ret2;exact⟨rfl,H.out⟩
end Go.Proofs.YtboflbdniogcdaaGreatDoor
