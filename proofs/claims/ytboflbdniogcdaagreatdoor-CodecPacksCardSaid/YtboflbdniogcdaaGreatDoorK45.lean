/-
  Parts of a proof.
-/
import Derived.Test.YtboflbdniogcdaaGreatDoorK40
import Derived.Test.YtboflbdniogcdaaGreatDoorK44
import Derived.Test.YtboflbdniogcdaaGreatDoorK17
import Derived.Test.YtboflbdniogcdaaGreatDoorK13
import Derived.Test.YtboflbdniogcdaaGreatDoorK08
import Derived.Test.YtboflbdniogcdaaGreatDoorK36
set_option linter.unusedVariables false
set_option linter.unusedSimpArgs false
set_option maxRecDepth 100000
set_option maxHeartbeats 100000000
namespace Go.Proofs.YtboflbdniogcdaaGreatDoor
open Go.RowKit Go.Mz
def ni (x y:Nat):Bool:=x%16 != 8||decide (7<x/16)||((x*256+y)%31 != 0)||(y/32%2==1)
def nj (r:List UInt8) (most:Int):Nat ⊕ (List UInt8 × Nat):=
 match fH r most with
 | .inl e=> .inl e
 | .inr (o,n)=>if r.length<n+4 then .inl 2 else if bS ((r.drop n).take 4)≠eK o then .inl 4 else .inr (o,n+6)
def iy (bs:List UInt8) (most:Int):Nat ⊕ (List UInt8 × Nat):=
 if most<0 then .inl 1
 else match bs with
  | x::y::r=>if ni x.toNat y.toNat then .inl 3 else nj r most
  | _=> .inl 2
theorem Iq {a b c d:Bool} (h:(a||b||c||d)=true):a=true∨(a=false∧b=true)∨(a=false∧b=false∧c=true)∨(a=false∧b=false∧c=false∧d=true):=by
 cases a <;> cases b <;> cases c <;> cases d <;> simp_all
theorem Ir (A B C D:SProp):A*(B*(C*D))=B*(A*(C*D)):=by ac_rfl
theorem yB {w0 w:World} {F:SProp} (h:St w0 w F) {b:List UInt8} (hb:b.length≤1000000) {v:Value} (hv:Stb w0 F (fun w=>Reads w 1 v b.length (b.map bv))) {how:Nat} (hh:how≤2):
  Calls Tryz.prog 42 #[v,.int .i64 (how:Int)] w fun e w'=>∃ v' x z,e= .returned (.tuple #[v',.int .i64 0])∧DefS b how x∧x.length≤100000000∧z=(120:UInt8)::1::(aq true x++dx true (eK b) 4)∧St w0 w' (own 5 1 v' z.length (z.map bv)*F):=by
 have HD:=ac (Ip h hb hv hh);have HV:=ac hv;clear h hv hh;have T:=eh;go_enter Tryz.func42,Tryz.ntmps42;go_wp2_with (go_at_call 89;apply ag);refine on ?_;refine HD.out.mono ?_;rintro e w2 ⟨v2,x,rfl,hx,hxl,h2⟩;have hXl:=dm true x;obtain⟨X,hX⟩:∃ X,aq true x=X:=⟨_,rfl⟩;rw[hX] at h2 hXl;rw[← hXl] at h2;have hXm:X.length≤20000000:=by rw[hXl];omega
 obtain⟨nX,hnX⟩:∃ nX,X.length=nX:=⟨_,rfl⟩;rw[hnX] at h2 hXm;obtain⟨a2,c2,rfl⟩:=h2.reads.sub;have H2:=ac h2;have HX:=ac hx;have HNX:=ac hnX;have HXX:=ac hX;clear h2 hx hnX hX hXl HD;go_wp2_with (go_at_call 90;apply ag);refine on ?_;refine(AJ H2.out (HV.out.more _)).mono ?_;rintro e w3 ⟨rfl,h3⟩;have H3:=ac h3;have HP:=ac (tG h3 (v:=eK b) (n:=4) (.inr (.inr (.inl rfl))) (nS b) true);clear h3 H2;have hlt:=nS b;obtain⟨ad,had⟩:∃ ad,eK b=ad:=⟨_,rfl⟩;rw[had] at HP hlt ⊢;have HAD:=ac had;clear had;go_wp2_with (go_at_call 83;apply ag);refine on ?_;refine HP.out.mono ?_;rintro e w4 ⟨v4,rfl,h4⟩;have hSl:=jV true ad 4;obtain⟨S,hS⟩:∃ S,dx true ad 4=S:=⟨_,rfl⟩;rw[hS] at h4 hSl;have HSS:=ac hS;clear hS;obtain⟨a4,c4,rfl⟩:=h4.reads.sub;have H4:=ac h4;have HSL:=ac hSl;clear h4 H3 HP hSl;go_wp2_with (at_builtin;apply ag);have h5:=H4.out.lit (([120,1]:List UInt8).map bv).toArray 5 2 rfl (by decide);refine on (aC T rfl _ _ rfl rfl h5 rfl h5.right.right.reads (gx X) (by unfold maxLen;omega) (by omega) ?_);intro v5 w5 h6 _;obtain⟨a5,c5,rfl⟩:=h6.reads.sub;have H6:=ac h6;clear h5 h6 H4;go_wp2_with (at_builtin;apply ag);refine on (aC T rfl _ _ rfl rfl H6.out rfl H6.out.right.reads (gx S) (by unfold maxLen;omega) (by omega) ?_);intro v7 w7 h7 _;have H7:=ac h7;clear h7 H6;go_wp2_with fail;go_ret2;refine⟨v7,x,120::1::(X++S),rfl,HX.out,hxl,by rw[HXX.out,HAD.out,HSS.out],?_⟩;have h8:=H7.out.perm (Ir _ _ _ _);have h9:=(H7.out.perm (af _ _ _)).right;have e1:([120,1]:List UInt8).map bv++X.map bv++S.map bv=((120:UInt8)::1::(X++S)).map bv:=by simp
 have e2:2+nX+4=((120:UInt8)::1::(X++S)).length:=by simp [HNX.out,HSL.out];omega
 have h10:=h9.perm (af _ _ _);rw[← e2,← e1];exact h10.right
theorem yC {w0 w:World} {F:SProp} (h:St w0 w F) {R:List (Value × List UInt8)} {v:Value} (hv:Stb w0 F (fun w=>Reads w 1 v R.length (R.map Prod.fst))) (hr:Stb w0 F (fun w=>∀ x∈R,Reads w 1 x.1 x.2.length (x.2.map bv))) (hN:R.length≤1000000) (hL:(aH (R.map Prod.snd)).length≤1000000) (o:Opt) (hs:o.scheme=8∨o.scheme=32946) {hw:Nat} (hh:o.how=hw) (hh2:hw≤2) (p:Array Value):
  Calls Tryz.prog 18 #[v,.agg p,o.v] w fun e w'=>∃ v' x z,e= .returned (.tuple #[v',.int .i64 0])∧DefS (aH (R.map Prod.snd)) hw x∧x.length≤100000000∧z=(120:UInt8)::1::(aq true x++dx true (eK (aH (R.map Prod.snd))) 4)∧St w0 w' (own 5 1 v' z.length (z.map bv)*F):=by
 obtain⟨big,large,tiled,ow,oh,planar,scheme,predict,low,two,every,al,fin,how⟩:=o;simp only[Opt.v];simp only at hs hh;subst hh
 rcases hs with rfl | rfl
 ·have h3:=fy h (.cells p 24) (.cells #[.bool big,.bool large,.bool tiled,.int .i64 ow,.int .i64 oh,.bool planar,.int .i64 8,.bool predict,.bool low,.bool two,.int .i64 every,.bool al,.bool fin,.int .i64 (hw:Int)] 28);have f6:=h3.cell 6 rfl;have f13:=h3.cell 13 rfl;obtain⟨J,hJ⟩:∃ J,aH (R.map Prod.snd)=J:=⟨_,rfl⟩;have HJ:=ac (fun(A B:SProp) w (h:St w0 w (A*(B*F)))=>oc (w:=w) h ((hv.more _).more _) ((hr.more _).more _) hN (by omega));rw[hJ] at HJ hL ⊢;have H3:=ac h3;clear hJ h hv hr h3;go_enter Tryz.func18,Tryz.ntmps18;go_upto_region 14 with (fail)
  clear f6;have f13:World.cell? _ ⟨w.heap.size+1,13,none⟩=some (.int .i64 (hw:Int)):=f13;generalize (w.alloc _).alloc _=wz at*
  generalize w.heap.size=gp at*
  refine wp_region_noPanic ?_;refine gB (S:=fun w':World=>w'.cell? ⟨gp+1,13,none⟩=some (.int .i64 (hw:Int))) (k:=4) (by kernel_rfl) ?_;have hS:(fun w':World=>w'.cell? ⟨gp+1,13,none⟩=some (.int .i64 (hw:Int))) wz:=f13;refine cM 2 [0,2] (by kernel_rfl) (fun _ _ _ h=>h) (by assumption) ?_
  iterate 2
   refine cL rfl rfl ⟨?_,fun w=> ?_,?_⟩;rotate_left
   ·(go_simp;try with_reducible rfl)
   simp only[Act.put,sA,sZ,sS]
  refine cK ?_;refine gN 3 rfl (by kernel_rfl) rfl (fun _ _ _ h=>h) (by assumption) ⟨?_,fun w hSw=> ?_,?_⟩;rotate_left
  ·((try dsimp only at hSw);go_simp;try with_reducible rfl)
  simp only[Act.put,sA,sZ,sS];refine aW (i:=1) (by kernel_rfl) ?_;refine wpOp_step (by rfl) fun K hK=> ?_
  go_simp;refine(HJ.out _ _ _ H3.out.drew).mono ?_;rintro e w2 ⟨v2,rfl,h2⟩;have hS2:(fun w':World=>w'.cell? ⟨gp+1,13,none⟩=some (.int .i64 (hw:Int))) w2:=h2.right.cell 13 rfl;refine hK _ _ ⟨fun e=>hS2,?_⟩;clear hK K hS;have hS:=hS2;have HP:=ac (yB h2 hL (v:=v2) Stb.of_own hh2);refine aW (i:=4) (by kernel_rfl) ?_;refine wpOp_step (by rfl) fun K hK=> ?_
  go_simp;refine HP.out.mono ?_;rintro e w3 ⟨v3,x,z,rfl,hx,hxl,hz,h4⟩;have hS3:(fun w':World=>w'.cell? ⟨gp+1,13,none⟩=some (.int .i64 (hw:Int))) w3:=h4.right.right.cell 13 rfl;refine hK _ _ ⟨fun e=>hS3,?_⟩;clear hK K hS hS2;have hS:=hS3;refine cM 4 [5,6,7,8] (by kernel_rfl) (fun _ _ _ h=>h) (by assumption) ?_
  iterate 4
   refine cL rfl rfl ⟨?_,fun w=> ?_,?_⟩;rotate_left
   ·(go_simp;try with_reducible rfl)
   simp only[Act.put,sA,sZ,sS]
  refine cK ?_;refine⟨by kernel_rfl,NoPanic.normal ?_⟩;have H4:=ac (((h4.perm (af _ _ _)).right.perm (af _ _ _)).right.perm (af _ _ _)).right;clear h4 hS hS3;go_wp2_with fail;go_ret2;exact⟨_,x,z,rfl,hx,hxl,hz,H4.out⟩
 ·have h3:=fy h (.cells p 24) (.cells #[.bool big,.bool large,.bool tiled,.int .i64 ow,.int .i64 oh,.bool planar,.int .i64 32946,.bool predict,.bool low,.bool two,.int .i64 every,.bool al,.bool fin,.int .i64 (hw:Int)] 28);have f6:=h3.cell 6 rfl;have f13:=h3.cell 13 rfl;obtain⟨J,hJ⟩:∃ J,aH (R.map Prod.snd)=J:=⟨_,rfl⟩;have HJ:=ac (fun(A B:SProp) w (h:St w0 w (A*(B*F)))=>oc (w:=w) h ((hv.more _).more _) ((hr.more _).more _) hN (by omega));rw[hJ] at HJ hL ⊢;have H3:=ac h3;clear hJ h hv hr h3;go_enter Tryz.func18,Tryz.ntmps18;go_upto_region 14 with (fail)
  clear f6;have f13:World.cell? _ ⟨w.heap.size+1,13,none⟩=some (.int .i64 (hw:Int)):=f13;generalize (w.alloc _).alloc _=wz at*
  generalize w.heap.size=gp at*
  refine wp_region_noPanic ?_;refine gB (S:=fun w':World=>w'.cell? ⟨gp+1,13,none⟩=some (.int .i64 (hw:Int))) (k:=4) (by kernel_rfl) ?_;have hS:(fun w':World=>w'.cell? ⟨gp+1,13,none⟩=some (.int .i64 (hw:Int))) wz:=f13;refine cM 2 [0,2] (by kernel_rfl) (fun _ _ _ h=>h) (by assumption) ?_
  iterate 2
   refine cL rfl rfl ⟨?_,fun w=> ?_,?_⟩;rotate_left
   ·(go_simp;try with_reducible rfl)
   simp only[Act.put,sA,sZ,sS]
  refine cK ?_;refine gN 3 rfl (by kernel_rfl) rfl (fun _ _ _ h=>h) (by assumption) ⟨?_,fun w hSw=> ?_,?_⟩;rotate_left
  ·((try dsimp only at hSw);go_simp;try with_reducible rfl)
  simp only[Act.put,sA,sZ,sS];refine aW (i:=1) (by kernel_rfl) ?_;refine wpOp_step (by rfl) fun K hK=> ?_
  go_simp;refine(HJ.out _ _ _ H3.out.drew).mono ?_;rintro e w2 ⟨v2,rfl,h2⟩;have hS2:(fun w':World=>w'.cell? ⟨gp+1,13,none⟩=some (.int .i64 (hw:Int))) w2:=h2.right.cell 13 rfl;refine hK _ _ ⟨fun e=>hS2,?_⟩;clear hK K hS;have hS:=hS2;have HP:=ac (yB h2 hL (v:=v2) Stb.of_own hh2);refine aW (i:=4) (by kernel_rfl) ?_;refine wpOp_step (by rfl) fun K hK=> ?_
  go_simp;refine HP.out.mono ?_;rintro e w3 ⟨v3,x,z,rfl,hx,hxl,hz,h4⟩;have hS3:(fun w':World=>w'.cell? ⟨gp+1,13,none⟩=some (.int .i64 (hw:Int))) w3:=h4.right.right.cell 13 rfl;refine hK _ _ ⟨fun e=>hS3,?_⟩;clear hK K hS hS2;have hS:=hS3;refine cM 4 [5,6,7,8] (by kernel_rfl) (fun _ _ _ h=>h) (by assumption) ?_
  iterate 4
   refine cL rfl rfl ⟨?_,fun w=> ?_,?_⟩;rotate_left
   ·(go_simp;try with_reducible rfl)
   simp only[Act.put,sA,sZ,sS]
  refine cK ?_;refine⟨by kernel_rfl,NoPanic.normal ?_⟩;have H4:=ac (((h4.perm (af _ _ _)).right.perm (af _ _ _)).right.perm (af _ _ _)).right;clear h4 hS hS3;go_wp2_with fail;go_ret2;exact⟨_,x,z,rfl,hx,hxl,hz,H4.out⟩
theorem Is (c:UInt8) (l:List UInt8):bS (c::l)=c.toNat*256^l.length+bS l:=by
 have key:∀ r:List UInt8,bS (c::r.reverse)=c.toNat*256^r.length+bS r.reverse:=by
  intro r
  induction r with
  | nil=>simp [bS]
  | cons d r ih=>
   rw[km,← dB,lp,ih,lp,aK,df,kh,iz,ec]
 have:=key l.reverse;rwa [lV,ko] at this
theorem yD (v:Nat):∀ n,bS (bJ v n).reverse=v%256^n:=by
 intro n
 induction n with
 | zero=>simp [bJ,bS,yW]
 | succ n ih=>
  rw[bJ,sY];show bS (UInt8.ofNat (v/256^n%256)::(bJ v n).reverse)=_;rw[Is,ih,ko,nL,UInt8.toNat_ofNat',show v/256^n%256%2^8=v/256^n%256 by omega,df,Nat.mod_mul,jp,kj]
theorem yE {v n:Nat} (h:v<256^n):bS (dx true v n)=v:=by
 rw[dx,cond,yD,pZ h]
def nm (x:List Nat) (S:List UInt8):List UInt8:=(120:UInt8)::1::(aq true x++S)
theorem It (x:List Nat) (S:List UInt8):(nm x S).length=(aq true x).length+S.length+2:=by simp [nm]
theorem Iu (r:List UInt8) {most:Int} (h:¬ most<0):iy (120::1::r) most=nj r most:=by
 show(if most<0 then _ else if ni 120 1 then _ else _)=_;rw[if_neg h,if_neg (by decide)]
theorem Iv {b:List UInt8} {x:List Nat} {n:Nat} (h:DoneS b x n) {S:List UInt8} (hS:S.length=4) (ex:List UInt8) (most:Int):
  iy (nm x S++ex) most=if most<0 then .inl 1 else if most.toNat<b.length then .inl 8 else if bS S≠eK b then .inl 4 else .inr (b,(nm x S).length):=by
 by_cases h0:most<0
 ·rw[if_pos h0];show(if most<0 then _ else _)=_;rw[if_pos h0]
 rw[if_neg h0];show iy (120::1::((aq true x++S)++ex)) most=_;rw[Iu _ h0,nj,List.append_assoc,h.infl,if_neg h0]
 by_cases h1:most.toNat<b.length
 ·rw[if_pos h1,if_pos h1]
 ·rw[if_neg h1,if_neg h1];simp only;rw[if_neg (by simp [hS] <;> omega),zt,show(S++ex).take 4=S by rw[← hS,pW],It,hS]
theorem Iw {v n:Nat} (big:Bool) (h:v<256^n):ln big (dx big v n)=v:=by
 cases big
 ·have:=yD v n;rw[pZ h] at this;exact this
 ·exact yE h
theorem Ix {wide:Nat} {big:Bool} {row:List Nat} {t:List UInt8} {i x:Nat} (hx:row[i]? =some x):((ff wide big row++t).drop (i*(wide/8))).take (wide/8)=dx big x (wide/8):=by
 have hi:i<row.length:=by
  rcases cf i row.length with h | h
  ·exact h
  ·rw[bg h] at hx;cases hx
 have e1:ff wide big row=ff wide big (row.take i)++(dx big x (wide/8)++ff wide big (row.drop (i+1))):=by
  have e:row=row.take i++(x::row.drop (i+1)):=by
   have h2:=(eQ i row).symm;rw[cC hi] at h2;rw[ai hi] at hx;cases hx;exact h2
  conv=>lhs;rw[e]
  simp [ff,jS]
 have hl:(ff wide big (row.take i)).length=i*(wide/8):=by rw[nW,aJ];congr 1;omega
 rw[e1,List.append_assoc,s6 hl,List.append_assoc,lf (jV big x (wide/8))]
theorem Iy {wide:Nat} {row:List Nat} {i x:Nat} (hx:row[i]? =some x):dy wide row=dy wide (row.take i)++(bi false x wide++dy wide (row.drop (i+1))):=by
 have hi:i<row.length:=by
  rcases cf i row.length with h | h
  ·exact h
  ·rw[bg h] at hx;cases hx
 have e:row=row.take i++(x::row.drop (i+1)):=by
  have h2:=(eQ i row).symm;rw[cC hi] at h2;rw[ai hi] at hx;cases hx;exact h2
 conv=>lhs;rw[e]
 simp [dy,jS]
theorem yF (wide:Nat) (row:List Nat):Bit (dy wide row):=by
 intro b hb;obtain⟨x,_,h⟩:=iS.1 hb;exact tN _ _ _ b h
theorem Iz {wide:Nat} {row:List Nat} {i x:Nat} (hx:row[i]? =some x) (hw:x<2^wide):eR (aq false (dy wide row)) false (i*wide) wide=x:=by
 have hi:i<row.length:=by
  rcases cf i row.length with h | h
  ·exact h
  ·rw[bg h] at hx;cases hx
 have hl:(dy wide (row.take i)).length=i*wide:=by rw[lu,aJ];congr 1;omega
 have hlw:(bi false x wide).length=wide:=fc _ _ _;refine qF false x wide hw _ fun j hj=> ?_
 have hs:=Iy (wide:=wide) hx;have hb:=yF wide row;rw[tU false hb _ (by
  have:(dy wide row).length=row.length*wide:=lu _ _;have h2:i*wide+wide≤row.length*wide:=by rw[← dC];exact dW _ hi
  omega),hs]
 simp only[List.getD_eq_getElem?_getD];rw[dh (by omega),cR (by omega)]
 congr 2;omega
theorem yG {row:List Nat} {n k x:Nat} (hx:row[k]? =some x) (hn:row.length=n):((row.take k++List.replicate (n-k) 0).map uv).set k (uv x)=(row.take (k+1)++List.replicate (n-(k+1)) 0).map uv:=by
 have hk:k<row.length:=by
  rcases cf k row.length with h | h
  ·exact h
  ·rw[bg h] at hx;cases hx
 have hl:(row.take k).length=k:=by rw[aJ];omega
 rw[← ez]
 congr 1
 rw[lW _ _ (by omega),hl,du,show n-k=(n-(k+1))+1 by omega,jr,js,fZ hx,List.append_assoc];rfl
theorem IA {w:World} {b off n c:Nat} {bs:List UInt8} (h:Reads w 1 (.slice (some ⟨b,off,none⟩) n c) n (bs.map bv)) {k:Nat} (hk:k≤n):Reads w 1 (.slice (some ⟨b,off,none⟩) k c) k ((bs.take k).map bv):=by
 have:=kz h (Nat.zero_le k) hk;rw[jO,← kn] at this;have e2:(⟨b,off,none⟩:Addr).add 0=⟨b,off,none⟩:=by simp [Addr.add]
 rw[e2] at this;simpa only[jP] using this
theorem IB {w:World} {a:Option Addr} {n c:Nat} {xs:List Value} (h:Reads w 1 (.slice a n c) n xs):Reads w 1 (.slice a 0 c) 0 []:=by
 obtain⟨hl,⟨e1,e2⟩ | ⟨x,cap,e1,h1,h2,h3⟩⟩:=h
 ·cases e1;exact nJ _ _
 ·cases e1;exact⟨rfl,.inr ⟨x,c,rfl,Nat.zero_le _,h2,fun j u hu=>by simp at hu⟩⟩
theorem IC {w0 w:World} {F:SProp} (h:St w0 w F) {row:List Nat} {t:List UInt8} {v:Value} {wide nb:Nat} {big:Bool} (hv:Stb w0 F (fun w=>Reads w 1 v (bF wide big row++t).length ((bF wide big row++t).map bv))) (hl:row.length≤4194304) (hl2:(bF wide big row++t).length≤1000000000) (hall:∀ x∈row,x<2^wide) (hw:wide=16∨wide=32) (hnb:(wide:Int)/8=nb):
  Calls Tryz.prog 35 #[v,.int .i64 (row.length:Int),.int .i64 (wide:Int),.bool big] w fun e w'=>∃ v',e= .returned (.tuple #[v',.int .i64 0])∧St w0 w' (own 48 1 v' row.length (row.map uv)*F):=by
 have hW:cO wide=true:=by simpa [cO] using hw
 have hnb2:wide/8=nb:=by omega
 have hok:jc nb:=by rcases hw with rfl | rfl;exact .inr (.inl (by omega));exact .inr (.inr (.inl (by omega)))
 have hnb4:nb≤4:=by omega
 have hnb1:1≤nb:=by omega
 have hpow:256^nb=2^wide:=by rcases hw with rfl | rfl <;> (have:nb=2∨nb=4:=by omega) <;> rcases this with rfl | rfl <;> first | rfl | omega
 have hPL:bF wide big row=ff wide big row:=by rw[bF,if_pos hW]
 have hp32:2^wide≤4294967296:=by rcases hw with rfl | rfl <;> decide
 have hcut:(bF wide big row).length=row.length*nb:=by rw[hPL,nW,hnb2]
 have hszl:(row.length*wide+7)/8=row.length*nb:=by
  rcases hw with rfl | rfl
  ·obtain rfl:nb=2:=by omega
   omega
  ·obtain rfl:nb=4:=by omega
   omega
 have HSZ:=ac (fun w=>mz (w:=w) hl (wide:=wide) (by omega) (by omega));rw[hszl] at HSZ;have HWH:=ac (fun w=>nZ (w:=w) (wide:=wide));rw[hW] at HWH;have HGET:=ac (fun(G:SProp) (w:World) (h:St w0 w G) (hv:Stb w0 G (fun w=>Reads w 1 v (bF wide big row++t).length ((bF wide big row++t).map bv))) (k x:Nat) (hx:row[k]? =some x)=>by
  have hk:k<row.length:=by
   rcases cf k row.length with h | h
   ·exact h
   ·rw[bg h] at hx;cases hx
  have hle:k*nb+nb≤row.length*nb:=by rw[← dC];exact dW _ hk
  have C:=zZ h hv (p:=k*nb) (n:=nb) (by rw[ae,hcut];omega) hl2 hok big;have e:ln big (((bF wide big row++t).drop (k*nb)).take nb)=x:=by
   rw[hPL,← hnb2,Ix hx,Iw big (by rw[hnb2,hpow];exact hall x (aG hx))]
  rw[e] at C;exact C)
 have HLT:=ac (fun k x (hx:row[k]? =some x)=>kp (hall x (aG hx)) hp32);obtain⟨T0,hT0⟩:∃ T0,bF wide big row++t=T0:=⟨_,rfl⟩;have hT0l:row.length*nb≤T0.length:=by rw[← hT0,ae,hcut];omega
 rw[hT0] at hv hl2 HGET;obtain⟨nl,hnl⟩:∃ nl,row.length=nl:=⟨_,rfl⟩;have HNL:=ac hnl;have HSET:=ac (fun k x (hx:row[k]? =some x)=>yG hx hnl);rw[hnl] at hl HSZ hT0l ⊢;obtain⟨tl,htl⟩:∃ tl,T0.length=tl:=⟨_,rfl⟩;rw[htl] at hv hl2 HGET hT0l;obtain⟨sz,hsz⟩:∃ sz,nl*nb=sz:=⟨_,rfl⟩;rw[hsz] at HSZ hT0l;obtain⟨a0,c0,rfl⟩:=(hv w h).sub;have HV:=ac hv;have H:=ac h;have hszt:¬ (tl:Int)<sz:=by omega
 have HW:=ac hnb2;have HW2:=ac hw;clear hv h hpow hPL hok hW hw hall hcut hszl hT0 hnl htl hsz;have T:=jX;go_enter Tryz.func35,Tryz.ntmps35;go_wp2_with (first | (go_at_call 33;refine(HSZ.out _).mono ?_;rintro e w1 ⟨rfl,rfl⟩) | (go_at_call 78;refine(HWH.out _).mono ?_;rintro e w1 ⟨rfl,rfl⟩) | (at_make;apply ag));refine on (iF T rfl _ _ rfl nl rfl rfl rfl rfl H.out (by unfold maxLen;omega) (by omega) ?_);intro v' w1 h1;obtain⟨a',cap',rfl⟩:=h1.reads.sub;have H1:=ac h1;clear h1;go_wp2_with (first | (go_at_call 78;refine(HWH.out _).mono ?_;rintro e w1 ⟨rfl,rfl⟩))
 go_loopw [41] (fun vi wr=>∃ k:Nat,k≤nl∧vi= .int .i64 k∧St w0 wr (own 48 1 (.slice a' nl cap') nl ((row.take k++List.replicate (nl-k) 0).map uv)*F)) (fun vi _=>nl-(intOf vi).toNat)
 case atStart=>exact⟨0,Nat.zero_le _,rfl,by
  have e:(madeCells (Value.int .u32 0).cells (nl*1)).toList=((row.take 0)++List.replicate (nl-0) 0).map uv:=by
   rw[gW];simp [Value.cells,toList_madeCells_one,uv]
  rw[← e];exact H1.out⟩
 case round=>
  clear H1 H HSZ HWH;obtain⟨k,hk,rfl,hst⟩:=hrel
  by_cases hkn:k<nl
  ·have hkI:(k:Int)<nl:=by omega
   obtain⟨x,hx⟩:∃ x,row[k]? =some x:=⟨row[k]'(by rw[HNL.out];exact hkn),ai _⟩;have hx32:=HLT.out k x hx;obtain⟨g,rfl⟩:=bR hst (by omega);have hfz:=hst.own_free k;have hcc:=hst.own_cell (i:=k) (u:= .int .u32 0) (by
    have hl3:(row.take k).length=k:=by rw[aJ,HNL.out];omega
    rw[au,dh (by omega),eb,if_pos (by omega)];rfl)
   have HG:=ac (HGET.out _ _ hst (HV.out.more _) k x hx);obtain⟨p,hp⟩:∃ p,k*nb=p:=⟨_,rfl⟩;obtain⟨kw,hkw⟩:∃ kw,k*wide=kw:=⟨_,rfl⟩;have hpb:p≤16777216:=by rw[← hp];exact cX (dv (by omega:k≤4194304) hnb4) (by decide)
   have hkwb:kw≤134217728:=by rw[← hkw];exact cX (dv (by omega:k≤4194304) (by rcases HW2.out with h | h <;> omega:wide≤32)) (by decide)
   have hkwI:(k:Int)*(wide:Int)=(kw:Int):=by rw[← hkw];simp
   have hkp:(kw:Int)/8=(p:Int):=by
    have:kw=8*p:=by rw[← hp,← hkw,← HW.out];rcases HW2.out with h | h <;> subst h <;> omega
    omega
   rw[hp] at HG;have HX:=ac hx;have HST:=ac hst;clear hst hx hp hkw;go_wp2_with (go_at_call 79;apply ag);refine on (HG.out.mono ?_);rintro e w2 ⟨rfl,h2⟩;have hfz:=h2.own_free k;have hcc:=h2.own_cell (i:=k) (u:= .int .u32 0) (by
    have hl3:(row.take k).length=k:=by rw[aJ,HNL.out];omega
    rw[au,dh (by omega),eb,if_pos (by omega)];rfl)
   have h3:=h2.own_set k (uv x);rw[HSET.out k x HX.out] at h3;have H3:=ac h3;clear h2 h3 HG HST;go_wp2_with fail;exact⟨⟨k+1,by omega,by go_num,H3.out⟩,by simp [intOf];omega⟩
  ·obtain rfl:k=nl:=by omega
   have hst':=hst;rw[du,nC,bE,← HNL.out,cI,HNL.out] at hst';have HST:=ac hst';clear hst hst';go_wp2_with fail;go_ret2;exact⟨_,rfl,HST.out⟩
theorem ID {w0 w:World} {F:SProp} (h:St w0 w F) {row:List Nat} {t:List UInt8} {v:Value} {wide:Nat} {big:Bool} (hv:Stb w0 F (fun w=>Reads w 1 v (bF wide big row++t).length ((bF wide big row++t).map bv))) (hl:row.length≤4194304) (hl2:(bF wide big row++t).length≤1000000000) (hall:∀ x∈row,x<2^wide) (h1:1≤wide) (h2:wide≤32) (hW:cO wide=false):
  Calls Tryz.prog 35 #[v,.int .i64 (row.length:Int),.int .i64 (wide:Int),.bool big] w fun e w'=>∃ v',e= .returned (.tuple #[v',.int .i64 0])∧St w0 w' (own 48 1 v' row.length (row.map uv)*F):=by
 have hPL:bF wide big row=aq false (dy wide row):=by rw[bF,if_neg (by simp [hW])]
 have hcut:(bF wide big row).length=(row.length*wide+7)/8:=qT _ _;have HSZ:=ac (fun w=>mz (w:=w) hl (wide:=wide) h1 h2);have HWH:=ac (fun w=>nZ (w:=w) (wide:=wide));rw[hW] at HWH;have hPK:∀ k x,row[k]? =some x→eR (bF wide big row) false (k*wide) wide=x:=fun k x hx=>by
  rw[hPL];exact Iz hx (hall x (aG hx))
 have HPK:=ac hPK;obtain⟨P,hP⟩:∃ P,bF wide big row=P:=⟨_,rfl⟩;rw[hP] at hcut hv hl2 HPK;obtain⟨sz,hsz⟩:∃ sz,P.length=sz:=⟨_,rfl⟩;have HRD:=ac (fun(w:World) (h:St w0 w F)=>show ∃ a c,v= .slice a (P++t).length c∧Reads w 1 (.slice a sz c) sz (P.map bv) by
  have h1:=hv w h;obtain⟨a,c,rfl⟩:=h1.sub;refine⟨a,c,rfl,?_⟩
  by_cases hp0:0<(P++t).length
  ·obtain⟨b,off,e,_⟩:=h1.at_ hp0;cases e;have:=IA h1 (k:=sz) (by rw[ae];omega);rwa [lf hsz] at this
  ·have e1:P=[]:=bC (by rw[ae] at hp0;omega);subst e1;obtain rfl:sz=0:=by rw[← hsz];rfl
   exact IB h1)
 obtain⟨nl,hnl⟩:∃ nl,row.length=nl:=⟨_,rfl⟩;have HNL:=ac hnl;have HSET:=ac (fun k x (hx:row[k]? =some x)=>yG hx hnl);have HCUT:=ac hcut;rw[hnl] at hl HSZ hcut ⊢;obtain⟨tl,htl⟩:∃ tl,(P++t).length=tl:=⟨_,rfl⟩;have hT0l:sz≤tl:=by rw[← htl,ae];omega
 rw[htl] at hv hl2 HRD;rw[← hcut,hsz] at HSZ;obtain⟨a0,c0,rfl⟩:=(hv w h).sub;have HRD:=ac (fun(w:World) (h:St w0 w F)=>show Reads w 1 (.slice a0 sz c0) sz (P.map bv) by
  obtain⟨a,c,e,hr⟩:=HRD.out w h;cases e;exact hr)
 have hcap:=(jz (hv w h)).1;have hszc:(sz:Int)≤c0:=by omega
 have H:=ac h;have HSZL:=ac hsz;have hszt:¬ (tl:Int)<sz:=by omega
 clear hv h hPL hW hall hPK hP hnl htl hsz hcut;have T:=jX;go_enter Tryz.func35,Tryz.ntmps35;go_wp2_with (first | (go_at_call 33;refine(HSZ.out _).mono ?_;rintro e w1 ⟨rfl,rfl⟩) | (go_at_call 78;refine(HWH.out _).mono ?_;rintro e w1 ⟨rfl,rfl⟩) | (at_make;apply ag));refine on (iF T rfl _ _ rfl nl rfl rfl rfl rfl H.out (by unfold maxLen;omega) (by omega) ?_);intro v' w1 h1;obtain⟨a',cap',rfl⟩:=h1.reads.sub;have HNR:=ac (zS (bs:=P) (v:= .slice a0 sz c0) (low:=false) h1 (fun w h=>by rw[HSZL.out];exact HRD.out w h.right) (by rw[HSZL.out];omega));have H1:=ac h1;clear h1;go_wp2_with (first | (go_at_call 78;refine(HWH.out _).mono ?_;rintro e w1 ⟨rfl,rfl⟩) | (go_at_call 80;apply ag));refine on (HNR.out.mono ?_);rintro e w2 ⟨B,rfl,h2⟩;have H2:=ac (h2.perm (af _ _ _));clear h2 HNR H1;go_wp2_with fail
 go_loopw [73] (fun vi wr=>∃ k:Nat,k≤nl∧vi= .int .i64 k∧St w0 wr (own 48 1 (.slice a' nl cap') nl ((row.take k++List.replicate (nl-k) 0).map uv)*(ky B P (k*wide) false*F))) (fun vi _=>nl-(intOf vi).toNat)
 case atStart=>exact⟨0,Nat.zero_le _,rfl,by
  have e:(madeCells (Value.int .u32 0).cells (nl*1)).toList=((row.take 0)++List.replicate (nl-0) 0).map uv:=by
   rw[gW];simp [Value.cells,toList_madeCells_one,uv]
  rw[← e,lS];exact H2.out⟩
 case round=>
  clear H2 H HSZ HWH;obtain⟨k,hk,rfl,hst⟩:=hrel
  by_cases hkn:k<nl
  ·have hkI:(k:Int)<nl:=by omega
   obtain⟨x,hx⟩:∃ x,row[k]? =some x:=⟨row[k]'(by rw[HNL.out];exact hkn),ai _⟩;obtain⟨g,rfl⟩:=bR hst (by omega);have hle:k*wide+wide≤8*P.length:=by
    have e1:=HCUT.out;rw[HNL.out] at e1;have e2:k*wide+wide≤nl*wide:=by rw[← dC];exact dW _ hkn
    omega
   have C:=zR (hst.perm (af _ _ _)) wide rfl h2 hle;rw[HPK.out k x hx,← dC] at C;have HG:=ac C;have HX:=ac hx;clear hst hx C hle;go_wp2_with (go_at_call 81;apply ag);refine on (HG.out.mono ?_);rintro e w2 ⟨rfl,h2'⟩;have h2:=h2'.perm (af _ _ _);have hfz:=h2.own_free k;have hcc:=h2.own_cell (i:=k) (u:= .int .u32 0) (by
    have hl3:(row.take k).length=k:=by rw[aJ,HNL.out];omega
    rw[au,dh (by omega),eb,if_pos (by omega)];rfl)
   have h3:=h2.own_set k (uv x);rw[HSET.out k x HX.out] at h3;have H3:=ac h3;clear h2 h3 HG h2';go_wp2_with fail;exact⟨⟨k+1,by omega,by go_num,H3.out⟩,by simp [intOf];omega⟩
  ·obtain rfl:k=nl:=by omega
   have hst':=hst;rw[du,nC,bE,← HNL.out,cI,HNL.out] at hst';have hst':=(hst'.perm (af _ _ _)).right;have HST:=ac hst';clear hst hst';go_wp2_with fail;go_ret2;exact⟨_,rfl,HST.out⟩
theorem IE {w0 w:World} {F:SProp} (h:St w0 w F) {row:List Nat} {t:List UInt8} {v:Value} {wide:Nat} {big:Bool} (hv:Stb w0 F (fun w=>Reads w 1 v (bF wide big row++t).length ((bF wide big row++t).map bv))) (hl:row.length≤4194304) (hl2:(bF wide big row++t).length≤1000000000) (hall:∀ x∈row,x<2^wide) (h1:1≤wide) (h2:wide≤32):
  Calls Tryz.prog 35 #[v,.int .i64 (row.length:Int),.int .i64 (wide:Int),.bool big] w fun e w'=>∃ v',e= .returned (.tuple #[v',.int .i64 0])∧St w0 w' (own 48 1 v' row.length (row.map uv)*F):=by
 cases hW:cO wide with
 | true=>exact IC h hv hl hl2 hall (by simpa [cO] using hW) (nb:=wide/8) (by omega)
 | false=>exact ID h hv hl hl2 hall h1 h2 hW
theorem IF {w0 w:World} {F:SProp} (h:St w0 w F) (bs:List UInt8) (most:Int) (hl:bs.length≤90000000) (hm:most≤1000000) {s:ByteArray} (hs:s=⟨bs.toArray⟩):
  Calls Tryz.prog 32 #[.string s,.int .i64 most] w fun e w'=>∃ (s:List UInt8) (n x:Nat),e= .returned (.tuple #[.string ⟨s.toArray⟩,.int .i64 (n:Nat),.int .i64 (x:Nat)])∧sq (iy bs most) s n x∧St w0 w' F:=by
 subst hs;have H:=ac h;clear h
 by_cases hneg:most<0
 ·have hz:iy bs most= .inl 1:=by unfold iy;rw[if_pos hneg]
  rw[hz];clear hz;go_enter Tryz.func32,Tryz.ntmps32;go_wp2_with fail
  go_ret3
  exact⟨[],0,1,rfl,⟨rfl,rfl,rfl⟩,H.out⟩
 obtain⟨M,rfl⟩:∃ M:Nat,most=M:=⟨most.toNat,by omega⟩;have short:∀ bs:List UInt8,bs.length<2→iy bs M= .inl 2→Calls Tryz.prog 32 #[.string ⟨bs.toArray⟩,.int .i64 (M:Int)] w fun e w'=>∃ (s:List UInt8) (n x:Nat),e= .returned (.tuple #[.string ⟨s.toArray⟩,.int .i64 (n:Nat),.int .i64 (x:Nat)])∧sq (iy bs M) s n x∧St w0 w' F:=by
  intro bs hl hz;rw[hz];have hl2:(bs.length:Int)<2:=by omega
  clear hz;go_enter Tryz.func32,Tryz.ntmps32;go_wp2_with fail
  go_ret3
  exact⟨[],0,2,rfl,⟨rfl,rfl,rfl⟩,H.out⟩
 rcases bs with _ | ⟨XY,_ | ⟨YY,r⟩⟩
 ·exact short [] (by decide) (by unfold iy;rw[if_neg hneg])
 ·exact short [XY] (by simp) (by unfold iy;rw[if_neg hneg])
 clear short;have hres:iy (XY::YY::r) M=if ni XY.toNat YY.toNat then .inl 3 else nj r M:=by rw[iy,if_neg hneg]
 rw[hres];clear hres;obtain⟨n,hn⟩:∃ n,r.length=n:=⟨_,rfl⟩;have hlen:(XY::YY::r).length=n+2:=by rw[aK,aK,hn]
 have hz0:∀ hh,(⟨(XY::YY::r).toArray⟩:ByteArray)[0]'hh=XY:=fun _=>rfl
 have hz1:∀ hh,(⟨(XY::YY::r).toArray⟩:ByteArray)[1]'hh=YY:=fun _=>rfl
 have hsz:(⟨(XY::YY::r).toArray⟩:ByteArray).size=n+2:=hlen;have hx8:=bh XY;have hy8:=bh YY;have hn2:¬ (((n+2:Nat):Int)<2):=by omega
 have HN:=ac hn;clear hn;have hexN:(⟨(XY::YY::r).toArray⟩:ByteArray).extract 2 (n+2)=⟨r.toArray⟩:=by
  apply ByteArray.ext;rw[JZ];apply Array.toList_inj.1;rw[J3];show List.extract (XY::YY::r) 2 (n+2)=_;rw[J4];simp [bU,HN.out]
 have HEX:Hid (∀ k,k+4≤n→(⟨(XY::YY::r).toArray⟩:ByteArray).extract (2+k) (6+k)=⟨((r.drop k).take 4).toArray⟩):=ac fun k hk=>by
  apply ByteArray.ext;rw[JZ];apply Array.toList_inj.1;rw[J3];show List.extract (XY::YY::r) (2+k) (6+k)=_;rw[J4,show 6+k-(2+k)=4 by omega,kj 2 k];rfl
 generalize hbb:(⟨(XY::YY::r).toArray⟩:ByteArray)=bb at*
 clear hbb;have hz0':∀ hh,(bb[0]'hh).toNat=XY.toNat:=fun hh=>by rw[hz0 hh]
 have hz1':∀ hh,(bb[1]'hh).toNat=YY.toNat:=fun hh=>by rw[hz1 hh]
 clear hz0 hz1;generalize XY.toNat=x at*
 generalize YY.toNat=y at*
 have hnN:n≤90000000:=by simp at hl;have:=HN.out;omega
 clear hl;have HNZ:=ac (fun(e:Nat) (he:fH r (M:Int)= .inl e)=>GL he)
 by_cases hbad:ni x y=true
 ·rw[hbad,if_pos rfl];have HB:=ac (Iq hbad);clear hbad;obtain hA | ⟨hA,hB⟩ | ⟨hA,hB,hC⟩ | ⟨hA,hB,hC,hD⟩:=HB.out
  ·have eA:((x:Int)%16 != 8)=true:=by simp at hA ⊢;omega
   clear hA;go_enter Tryz.func32,Tryz.ntmps32;go_upto_region 5 with (fail)
   go_quiet (fail);have H':=ac (H.out.drewN nq);generalize w.drewN nq=wq at*
   go_wp2_with fail
   go_ret3
   exact⟨[],0,3,rfl,⟨rfl,rfl,rfl⟩,H'.out⟩
  ·have eA:((x:Int)%16 != 8)=false:=by simp at hA ⊢;omega
   have eB:decide ((127:Int)<(x:Int))=true:=by simp at hB ⊢;omega
   clear hA hB;go_enter Tryz.func32,Tryz.ntmps32;go_upto_region 5 with (fail)
   go_quiet (fail);have H':=ac (H.out.drewN nq);generalize w.drewN nq=wq at*
   go_wp2_with fail
   go_ret3
   exact⟨[],0,3,rfl,⟨rfl,rfl,rfl⟩,H'.out⟩
  ·have eA:((x:Int)%16 != 8)=false:=by simp at hA ⊢;omega
   have eB:decide ((127:Int)<(x:Int))=false:=by simp at hB ⊢;omega
   have eC:(((x:Int)*256+(y:Int))%31 != 0)=true:=by simp at hC ⊢;omega
   clear hA hB hC;go_enter Tryz.func32,Tryz.ntmps32;go_upto_region 5 with (fail)
   go_quiet (fail);have H':=ac (H.out.drewN nq);generalize w.drewN nq=wq at*
   go_wp2_with fail
   go_ret3
   exact⟨[],0,3,rfl,⟨rfl,rfl,rfl⟩,H'.out⟩
  ·have eA:((x:Int)%16 != 8)=false:=by simp at hA ⊢;omega
   have eB:decide ((127:Int)<(x:Int))=false:=by simp at hB ⊢;omega
   have eC:(((x:Int)*256+(y:Int))%31 != 0)=false:=by simp at hC ⊢;omega
   have eD:((y:Int)/32%2==1)=true:=by simp at hD ⊢;omega
   clear hA hB hC hD;go_enter Tryz.func32,Tryz.ntmps32;go_upto_region 5 with (fail)
   go_quiet (fail);have H':=ac (H.out.drewN nq);generalize w.drewN nq=wq at*
   go_wp2_with fail
   go_ret3
   exact⟨[],0,3,rfl,⟨rfl,rfl,rfl⟩,H'.out⟩
 ·rw[if_neg hbad];have hA:(x%16 != 8)=false∧decide (7<x/16)=false∧((x*256+y)%31 != 0)=false∧(y/32%2==1)=false:=by
   unfold ni at hbad
   revert hbad
   cases (x%16 != 8) <;> cases decide (7<x/16) <;> cases ((x*256+y)%31 != 0) <;> cases (y/32%2==1) <;> simp
  obtain⟨hA,hB,hC,hD⟩:=hA;clear hbad;have eA:((x:Int)%16 != 8)=false:=by simp at hA ⊢;omega
  have eB:decide ((127:Int)<(x:Int))=false:=by simp at hB ⊢;omega
  have eC:(((x:Int)*256+(y:Int))%31 != 0)=false:=by simp at hC ⊢;omega
  have eD:((y:Int)/32%2==1)=false:=by simp at hD ⊢;omega
  clear hA hB hC hD;go_enter Tryz.func32,Tryz.ntmps32;go_upto_region 5 with (fail)
  go_quiet (fail);have H':=ac (H.out.drewN nq);generalize w.drewN nq=wq at*
  have HI:=ac (F3 H'.out r (M:Int) (by rw[HN.out];omega) (by omega));go_wp2_with (go_at_call 66;apply ag);refine on ?_;refine HI.out.mono ?_;rintro e w2 ⟨o,k,x2,rfl,hR,h2⟩;have hzr:nj r (M:Int)=match fH r (M:Int) with
    | .inl e=> .inl e
    | .inr (o,n)=>if r.length<n+4 then .inl 2 else if bS ((r.drop n).take 4)≠eK o then .inl 4 else .inr (o,n+6):=rfl
  have H2:=ac h2;clear h2 HI eA eB eC eD;cases hI:fH r (M:Int) with
  | inl ee=>
   rw[hI] at hR hzr;obtain⟨rfl,rfl,rfl⟩:=hR;have hne:x2≠0:=HNZ.out x2 hI;have hneI:((x2:Int) != 0)=true:=by simp;omega
   have HZ:=ac hzr;clear hzr hI hne;go_wp2_with fail
   go_ret3
   exact⟨[],0,x2,rfl,by rw[HZ.out];exact⟨rfl,rfl,rfl⟩,H2.out⟩
  | inr z=>
   obtain⟨o',k'⟩:=z;rw[hI] at hR hzr;obtain⟨hk1,hk2⟩:=GA hI;obtain⟨rfl,rfl,rfl⟩:=hR;rw[HN.out] at hk1 hzr;have HZ:=ac hzr;clear hzr hI;have hol:o.length≤1000000:=by omega
   by_cases hs:n<k+4
   ·have hsI:(n:Int)+2<(k:Int)+6:=by omega
    have hsN:n+2<k+6:=by omega
    go_wp2_with fail
    go_ret3
    exact⟨[],0,2,rfl,by rw[HZ.out,if_pos hs];exact⟨rfl,rfl,rfl⟩,H2.out⟩
   ·have hsI:¬ (n:Int)+2<(k:Int)+6:=by omega
    have hsN:¬ n+2<k+6:=by omega
    have hex:=HEX.out k (by omega);obtain⟨d4,hd4⟩:∃ d4,(r.drop k).take 4=d4:=⟨_,rfl⟩;have hl4:d4.length≤8:=by rw[← hd4,aJ];omega
    rw[hd4] at hex;have HD4:=ac hd4;have HNU:=ac (fun(W:World)=>AO d4 true W hl4);have HSU:=ac (fun(W:World)=>AU (w:=W) (bs:=o) (by omega) rfl);have hadl:=nS o;have hlt:=nK d4;obtain⟨ad,had⟩:∃ ad,eK o=ad:=⟨_,rfl⟩;obtain⟨sm,hsm⟩:∃ sm,bS d4=sm:=⟨_,rfl⟩;have hnu:ln true d4=sm:=hsm;rw[hnu] at HNU;rw[had] at HSU hadl;have HAD:=ac had;have HSM:=ac hsm;clear had hsm hd4 hnu hl4 hlt
    by_cases he:sm=ad
    ·have heI:((sm:Int) != (ad:Int))=false:=by simp;omega
     have HE:=ac he;clear he;go_wp2_with (first | (go_at_call 67;refine(HNU.out _).mono ?_;rintro e w3 ⟨rfl,rfl⟩) | (go_at_call 68;refine(HSU.out _).mono ?_;rintro e w3 ⟨rfl,rfl⟩))
     go_ret3
     refine⟨o,k+6,0,rfl,?_,H2.out⟩;rw[HZ.out,if_neg hs,if_neg (by rw[HD4.out,HSM.out,HAD.out];exact fun h=>h HE.out)];exact⟨rfl,rfl,rfl⟩
    ·have heI:((sm:Int) != (ad:Int))=true:=by simp;omega
     have HE:=ac he;clear he;go_wp2_with (first | (go_at_call 67;refine(HNU.out _).mono ?_;rintro e w3 ⟨rfl,rfl⟩) | (go_at_call 68;refine(HSU.out _).mono ?_;rintro e w3 ⟨rfl,rfl⟩))
     go_ret3
     refine⟨[],0,4,rfl,?_,H2.out⟩;rw[HZ.out,if_neg hs,if_pos (by rw[HD4.out,HSM.out,HAD.out];exact HE.out)];exact⟨rfl,rfl,rfl⟩
end Go.Proofs.YtboflbdniogcdaaGreatDoor
