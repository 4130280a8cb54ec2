/-
  Parts of a proof.
-/
import Derived.Test.YtboflbdniogcdaaGreatDoorK00
import Derived.Test.YtboflbdniogcdaaGreatDoorK26
import Derived.Test.YtboflbdniogcdaaGreatDoorK39
import Derived.Test.YtboflbdniogcdaaGreatDoorK07
import Derived.Test.YtboflbdniogcdaaGreatDoorK06
import Derived.Test.YtboflbdniogcdaaGreatDoorK40
import Derived.Test.YtboflbdniogcdaaGreatDoorK30
set_option linter.unusedVariables false
set_option linter.unusedSimpArgs false
set_option maxRecDepth 100000
set_option maxHeartbeats 100000000
namespace Go.Proofs.YtboflbdniogcdaaGreatDoor
open Go.RowKit Go.Mz
def fs (w h per:Int):Bool:=decide (1≤w)&&(decide (1≤h)&&(decide (w≤32768)&&(decide (h≤32768)&&(decide (1≤per)&&(decide (per≤8)&&decide (w*h*per≤4194304))))))
theorem ug (w h per:Int) (W:World):Calls Tryz.prog 16 #[.int .i64 w,.int .i64 h,.int .i64 per] W fun r w'=>r= .returned (.bool (fs w h per))∧w'=W:=by
 by_cases a1:1≤w
 rotate_left
 ·have d1:decide (1≤w)=false:=decide_eq_false a1;rw[fs,d1];go_enter Tryz.func16,Tryz.ntmps16;go_wp2_with fail;go_ret;exact⟨by first | rfl | simp,rfl⟩
 by_cases a2:1≤h
 rotate_left
 ·have d1:decide (1≤w)=true:=decide_eq_true a1;have d2:decide (1≤h)=false:=decide_eq_false a2;rw[fs,d1,d2];go_enter Tryz.func16,Tryz.ntmps16;go_wp2_with fail;go_ret;exact⟨by first | rfl | simp,rfl⟩
 by_cases a3:w≤32768
 rotate_left
 ·have d1:decide (1≤w)=true:=decide_eq_true a1;have d2:decide (1≤h)=true:=decide_eq_true a2;have d3:decide (w≤32768)=false:=decide_eq_false a3;rw[fs,d1,d2,d3];go_enter Tryz.func16,Tryz.ntmps16;go_wp2_with fail;go_ret;exact⟨by first | rfl | simp,rfl⟩
 by_cases a4:h≤32768
 rotate_left
 ·have d1:decide (1≤w)=true:=decide_eq_true a1;have d2:decide (1≤h)=true:=decide_eq_true a2;have d3:decide (w≤32768)=true:=decide_eq_true a3;have d4:decide (h≤32768)=false:=decide_eq_false a4;rw[fs,d1,d2,d3,d4];go_enter Tryz.func16,Tryz.ntmps16;go_wp2_with fail;go_ret;exact⟨by first | rfl | simp,rfl⟩
 by_cases a5:1≤per
 rotate_left
 ·have d1:decide (1≤w)=true:=decide_eq_true a1;have d2:decide (1≤h)=true:=decide_eq_true a2;have d3:decide (w≤32768)=true:=decide_eq_true a3;have d4:decide (h≤32768)=true:=decide_eq_true a4;have d5:decide (1≤per)=false:=decide_eq_false a5;rw[fs,d1,d2,d3,d4,d5];go_enter Tryz.func16,Tryz.ntmps16;go_wp2_with fail;go_ret;exact⟨by first | rfl | simp,rfl⟩
 by_cases a6:per≤8
 rotate_left
 ·have d1:decide (1≤w)=true:=decide_eq_true a1;have d2:decide (1≤h)=true:=decide_eq_true a2;have d3:decide (w≤32768)=true:=decide_eq_true a3;have d4:decide (h≤32768)=true:=decide_eq_true a4;have d5:decide (1≤per)=true:=decide_eq_true a5;have d6:decide (per≤8)=false:=decide_eq_false a6;rw[fs,d1,d2,d3,d4,d5,d6];go_enter Tryz.func16,Tryz.ntmps16;go_wp2_with fail;go_ret;exact⟨by first | rfl | simp,rfl⟩
 have d1:decide (1≤w)=true:=decide_eq_true a1;have d2:decide (1≤h)=true:=decide_eq_true a2;have d3:decide (w≤32768)=true:=decide_eq_true a3;have d4:decide (h≤32768)=true:=decide_eq_true a4;have d5:decide (1≤per)=true:=decide_eq_true a5;have d6:decide (per≤8)=true:=decide_eq_true a6;rw[fs,d1,d2,d3,d4,d5,d6];obtain⟨m,hm⟩:∃ m,w*h=m:=⟨_,rfl⟩;obtain⟨k,hk⟩:∃ k,m*per=k:=⟨_,rfl⟩;have m1:0≤m:=by rw[← hm];exact ri (by omega) (by omega)
 have m2:m≤1073741824:=by rw[← hm];exact oO (oP a3 a4 (by omega) (by omega)) (by decide)
 have k1:0≤k:=by rw[← hk];exact ri m1 (by omega)
 have k2:k≤8589934592:=by rw[← hk];exact oO (oP m2 a6 (by omega) (by omega)) (by decide)
 rw[hm,hk];go_enter Tryz.func16,Tryz.ntmps16;go_wp2_with fail;go_ret;exact⟨by first | rfl | simp,rfl⟩
theorem qQ {per wide n:Int} {predict two:Bool} {every how:Int} (h:js per wide n predict two every how=true):
  (n=1∨n=2∨n=3∨n=4∨n=5∨n=8∨n=32773∨n=32946)∧1≤per∧per≤8∧1≤wide∧wide≤32∧(n=2∨n=3∨n=4→per=1∧wide=1)∧(n=3→two=true→1≤every)∧(predict=true→wide=8∨wide=16∨wide=32)∧(n=8∨n=32946→0≤how∧how≤2):=by
 simp only[js,iu,ki,jP,cR,mR,ka,beq_iff_eq,decide_eq_true_eq,Bool.or_eq_false_iff,Bool.and_eq_false_iff,beq_eq_false_iff_ne,bne_iff_ne,ne_eq,decide_eq_false_iff_not,Bool.not_eq_false',bne_eq_false_iff_eq] at h;obtain⟨⟨⟨⟨⟨⟨⟨⟨⟨h1,h2⟩,h3⟩,h4⟩,h5⟩,h6⟩,h7⟩,h8⟩,h9⟩,h10⟩:=h;refine⟨by omega,by omega,by omega,by omega,by omega,by omega,?_,?_,by omega⟩
 ·rintro rfl rfl;simp at h7;omega
 ·rintro rfl;simp at h9;omega
def TellS (o:Opt) (W:Nat) (L:List (List UInt8)) (z:List UInt8):Prop:=
 (o.scheme=1∧z=aK L)∨(o.scheme=5∧z=az false (cf (aK L)))∨
 ((o.scheme=8∨o.scheme=32946)∧∃ hw x,hw≤2∧DefS (aK L) hw x∧x.length≤100000000∧z=(120:UInt8)::1::(az true x++ej true (eV (aK L)) 4))∨
 (o.scheme=32773∧PbRows L z)∨(o.scheme=2∧z=az false (encF W (cB W L) []))∨
 (o.scheme=3∧z=az false (fe W o.two o.al o.fin o.every (cB W L)))∨(o.scheme=4∧z=az false (gt W (cB W L)))
theorem JQ {w0 w:World} {F:SProp} (h:St w0 w F) (htab:dA w0 F) {R:List (Value × List UInt8)} {v:Value} (hv:Stb w0 F (fun w=>Reads w 1 v R.length (R.map Prod.fst))) (hr:Stb w0 F (fun w=>∀ x∈R,Reads w 1 x.1 x.2.length (x.2.map bv))) (hN:R.length≤300) {W:Nat} (h1:1≤W) (hw:W≤400) (hL:∀ x∈R,x.2.length≤1000000) (hJ:(aK (R.map Prod.snd)).length≤1000000) (o:Opt)
  {per wide:Int} (hleg:o.legal per wide=true) (hfx:per=1→wide=1→∀ x∈R,(W+7)/8≤x.2.length) {ph pper pwide:Int} {pv:Value}:
  Calls Tryz.prog 18 #[v,.agg #[.int .i64 (W:Int),.int .i64 ph,.int .i64 pper,.int .i64 pwide,pv],o.v] w fun e w'=>∃ v' z,e= .returned (.tuple #[v',.int .i64 0])∧TellS o W (R.map Prod.snd) z∧St w0 w' (own 5 1 v' z.length (z.map bv)*F):=by
 obtain⟨g1,g2,g3,g4,g5,g6,g7,g8,g9⟩:=qQ hleg
 rcases g1 with e | e | e | e | e | e | e | e
 ·refine(Di h hv hr (by omega) (by omega) o e _).mono ?_;rintro r w' ⟨v',rfl,hs⟩;exact⟨v',_,rfl,.inl ⟨e,rfl⟩,hs⟩
 ·have hf:=g6 (by omega);refine(tf h htab hv hr hN h1 hw (fun x hx=>⟨hfx hf.1 hf.2 x hx,hL x hx⟩) o (.inl ⟨e,rfl⟩)).mono ?_;rintro r w' ⟨v',rfl,hs⟩;exact⟨v',_,rfl,.inr (.inr (.inr (.inr (.inl ⟨e,rfl⟩)))),hs⟩
 ·have hf:=g6 (by omega);refine(tf h htab hv hr hN h1 hw (fun x hx=>⟨hfx hf.1 hf.2 x hx,hL x hx⟩) o (.inr (.inl ⟨e,rfl,fun ht=>g7 e ht⟩))).mono ?_;rintro r w' ⟨v',rfl,hs⟩;exact⟨v',_,rfl,.inr (.inr (.inr (.inr (.inr (.inl ⟨e,rfl⟩))))),hs⟩
 ·have hf:=g6 (by omega);refine(tf h htab hv hr hN h1 hw (fun x hx=>⟨hfx hf.1 hf.2 x hx,hL x hx⟩) o (.inr (.inr ⟨e,rfl⟩))).mono ?_;rintro r w' ⟨v',rfl,hs⟩;exact⟨v',_,rfl,.inr (.inr (.inr (.inr (.inr (.inr ⟨e,rfl⟩))))),hs⟩
 ·refine(Dj h hv hr (by omega) (by omega) o e _).mono ?_;rintro r w' ⟨v',rfl,hs⟩;exact⟨v',_,rfl,.inr (.inl ⟨e,rfl⟩),hs⟩
 ·have hq:=g9 (.inl e);refine(z6 h hv hr (by omega) (by omega) o (.inl e) (hw:=o.how.toNat) (by omega) (by omega) _).mono ?_;rintro r w' ⟨v',x,z,rfl,hd,hxl,hz,hs⟩;exact⟨v',z,rfl,.inr (.inr (.inl ⟨.inl e,o.how.toNat,x,by omega,hd,hxl,hz⟩)),hs⟩
 ·refine(Fw h hv hr (by omega) (by omega) o e _).mono ?_;rintro r w' ⟨v',z,rfl,hp,hs⟩;exact⟨v',z,rfl,.inr (.inr (.inr (.inl ⟨e,hp⟩))),hs⟩
 ·have hq:=g9 (.inr e);refine(z6 h hv hr (by omega) (by omega) o (.inr e) (hw:=o.how.toNat) (by omega) (by omega) _).mono ?_;rintro r w' ⟨v',x,z,rfl,hd,hxl,hz,hs⟩;exact⟨v',z,rfl,.inr (.inr (.inl ⟨.inr e,o.how.toNat,x,by omega,hd,hxl,hz⟩)),hs⟩
theorem Ab {width:Nat} (hw:width≤32768):∀ (L:List (List Nat)) (acc:List Nat),(∀ l∈L,gX width l)→(encF width L acc).length≤acc.length+130000*L.length:=by
 intro L
 induction L with
 | nil=>intro acc _;simp [encF]
 | cons l r ih=>
  intro acc h;rw[encF];have h1:=ih (cJ (acc++bE false (bg 0 l width))) (fun x hx=>h x (by simp [hx]));have h2:=xI (acc++bE false (bg 0 l width));have h3:=sY (h l (by simp)) hw;rw[ae] at h2;rw[aO];omega
theorem mK {W:Nat} (hw:W≤400) {L:List (List UInt8)} (h:∀ X∈L,(W+7)/8≤X.length):∀ l∈cB W L,gX W l:=by
 intro l hl;obtain⟨X,hX,rfl⟩:=cu.1 hl;have:=h X hX;exact xZ (by rw[aL,bM];omega) hw
theorem Ac (two al fin:Bool) (acc:List Nat):(jB two al fin acc).length≤acc.length+120:=by
 cases fin
 ·exact q9 _ _
 ·have h1:=fI two al true acc;have h2:=fI two false true (aJ two al true acc);have h3:=fI two false true (aJ two false true (aJ two al true acc));have h4:=fI two false true (aJ two false true (aJ two false true (aJ two al true acc)));have h5:=fI two false true (aJ two false true (aJ two false true (aJ two false true (aJ two al true acc))));have h6:=fI two false true (aJ two false true (aJ two false true (aJ two false true (aJ two false true (aJ two al true acc)))));have e:jB two al true acc=aJ two false true (aJ two false true (aJ two false true (aJ two false true (aJ two false true (aJ two al true acc))))):=rfl;rw[e];omega
theorem TellS.len {o:Opt} {W:Nat} {L:List (List UInt8)} {z:List UInt8} (h:TellS o W L z) (hN:L.length≤300) (hJ:(aK L).length≤1000000) (hw:W≤400) (hfx:o.scheme=2∨o.scheme=3∨o.scheme=4→∀ X∈L,(W+7)/8≤X.length):z.length≤1000000000:=by
 have hcl:(cB W L).length=L.length:=by rw[cB,bS]
 rcases h with ⟨_,rfl⟩ | ⟨_,rfl⟩ | ⟨_,hw,x,_,_,hx,rfl⟩ | ⟨_,h⟩ | ⟨e,rfl⟩ | ⟨e,rfl⟩ | ⟨e,rfl⟩
 ·omega
 ·rw[dq];have:=rV (aK L);omega
 ·simp only[aO,ae,dq,kX];omega
 ·have:=h.len;omega
 ·have:=Ab (by omega:W≤32768) (cB W L) [] (mK hw (hfx (by omega)));rw[dq];simp only[bI] at this;omega
 ·have:=xV hw (two:=o.two) (al:=o.al) (every:=o.every) (cB W L) 0 [] [] (mK hw (hfx (by omega))) ⟨List.Pairwise.nil,fun x hx=>by cases hx⟩;have h2:=Ac o.two o.al o.fin (dC W o.two o.al o.every 0 [] (cB W L) []);rw[dq,fe];simp only[bI] at this;omega
 ·have:=xR hw (cB W L) [] (mK hw (hfx (by omega))) ⟨List.Pairwise.nil,fun x hx=>by cases hx⟩;have h2:gO.length=24:=by decide
  rw[dq,gt,ae];omega
theorem Ad {w:World} {a b:List Nat} {va vb:Value} (ha:Reads w 1 va a.length (a.map uv)) (hb:Reads w 1 vb b.length (b.map uv)) (hl:a.length≤1000000) (hla:∀ x∈a,x<4294967296) (hlb:∀ x∈b,x<4294967296):
  Calls Tryz.prog 11 #[va,vb] w fun e w'=>e= .returned (.bool (decide (a=b)))∧∃ q,w'=w.drewN q:=by
 obtain⟨aa,ca,rfl⟩:=ha.sub;obtain⟨ab,cb,rfl⟩:=hb.sub
 by_cases hne:a.length=b.length
 rotate_left
 ·have hd:decide (a=b)=false:=decide_eq_false fun e=>hne (by rw[e])
  have hneI:¬ (a.length:Int)=b.length:=by omega
  rw[hd];clear ha hb hne;go_enter Tryz.func11,Tryz.ntmps11;go_wp2_with fail;go_ret;exact⟨rfl,0,rfl⟩
 obtain⟨n,hn⟩:∃ n,a.length=n:=⟨_,rfl⟩;rw[← hne,hn] at hb;rw[hn] at ha hl hne ⊢;have HA:=ac ha;have HB:=ac hb;have HN:=ac hn;have HNE:=ac hne;obtain⟨res,hres⟩:∃ res,decide (a=b)=res:=⟨_,rfl⟩;rw[← hne];rw[hres];have HR:=ac hres;clear ha hb hn hne hres;go_enter Tryz.func11,Tryz.ntmps11;go_wp2_with fail
 go_loopw [5] (fun vi wr=>∃ (k q:Nat),k≤n∧vi= .int .i64 k∧wr=w.drewN q∧RowKit.Hid (a.take k=b.take k)) (fun vi _=>n-(intOf vi).toNat)
 case atStart=>exact⟨0,0,Nat.zero_le _,rfl,rfl,ac rfl⟩
 case round=>
  obtain⟨k,q,hk,rfl,rfl,hQ⟩:=hrel
  by_cases hkn:k<n
  ·have hkI:(k:Int)<n:=by omega
   obtain⟨x,hx⟩:∃ x,a[k]? =some x:=⟨a[k]'(by rw[HN.out];exact hkn),au _⟩;obtain⟨y,hy⟩:∃ y,b[k]? =some y:=⟨b[k]'(by rw[← HNE.out];exact hkn),au _⟩;obtain⟨ga,oa,rfl,ha⟩:=HA.out.at_ hkn;obtain⟨gb,ob,rfl,hb⟩:=HB.out.at_ hkn;rw[aC,hx] at ha;rw[aC,hy] at hb;simp only[b7,uv] at ha hb;have ha:(w.drewN q).cell? ⟨ga,oa+k,none⟩=some (.int .u32 (x:Int)):=ha;have hb:(w.drewN q).cell? ⟨gb,ob+k,none⟩=some (.int .u32 (y:Int)):=hb
   by_cases he:x=y
   ·have HQ:=ac (show a.take (k+1)=b.take (k+1) by rw[jq hx,jq hy,hQ.out,he]);have heI:(x:Int)=y:=by omega
    clear hx hy hQ;go_upto_region 6 with (fail)
    go_region
    go_wp2_with fail;exact⟨⟨k+1,q+1,by omega,by go_num,by rw[← World.drewN_drewN],HQ⟩,by simp [intOf];omega⟩
   ·have heI:¬ (x:Int)=y:=by omega
    have HF:=ac (show res=false by
     rw[← HR.out];exact decide_eq_false fun e=>he (by rw[e,hy] at hx;exact(fv hx).symm))
    clear hx hy hQ he;go_upto_region 6 with (fail)
    go_region
    go_wp2_with fail;go_ret;exact⟨by rw[HF.out];rfl,q+1,by rw[← World.drewN_drewN]⟩
  ·obtain rfl:k=n:=by omega
   have HT:=ac (show res=true by
    rw[← HR.out];refine decide_eq_true ?_;have h:=hQ.out;rw[← HN.out,cS,HN.out,HNE.out,cS] at h;exact h)
   go_wp2_with fail;go_ret;exact⟨by rw[HT.out];rfl,q,rfl⟩
def JR (w0:World) (F:SProp) (o:Opt) (W H per wide:Nat) (l:List Nat) (e:Ending) (w':World):Prop:=
 ((∀ x∈l,x<2^wide)→∃ v' z,e= .returned (.tuple #[v',.int .i64 0])∧TellS o W (dH o.predict o.big wide per (W*per) l H) z∧St w0 w' (own 5 1 v' z.length ((if o.low=true then z.map db else z).map bv)*F))∧
 ((¬ ∀ x∈l,x<2^wide)→e= .returned (.tuple #[.slice none 0 0,.int .i64 7])∧St w0 w' F)
theorem JS (predict big:Bool) {wide:Nat} (per:Nat) (row:List Nat):(jr predict big wide per row).length=(row.length*wide+7)/8:=by
 rw[jr,r8];cases predict <;> simp [nj]
theorem mL {L:List (List UInt8)} {c:Nat} (h:∀ X∈L,X.length=c):(aK L).length=L.length*c:=by
 induction L with
 | nil=>simp [aK]
 | cons X r ih=>
  have:=ih (fun Y hY=>h Y (by simp [hY]));have e:=h X (by simp);simp only[aK,oH,ae,aO] at*
  rw[this,e,dF];omega
theorem mM {predict big:Bool} {wide per n H:Nat} {l:List Nat} (hl:H*n=l.length):∀ X∈dH predict big wide per n l H,X.length=(n*wide+7)/8:=by
 intro X hX;obtain⟨y,hy,rfl⟩:=cu.1 hX;rw[iP] at hy;rw[JS,py];rw[← hl,← dF];exact ef _ hy
theorem lE (predict big:Bool) (wide per n H:Nat) (l:List Nat):(dH predict big wide per n l H).length=H:=by rw[dH,bS,kK]
theorem Ae {w0 w:World} {F:SProp} (h:St w0 w F) (htab:dA w0 F) {l:List Nat} {v:Value} (hv:Stb w0 F (fun w=>Reads w 1 v l.length (l.map uv))) (hb:∀ x∈l,x<4294967296) {W H per wide:Nat} (hl:H*(W*per)=l.length) (hl2:l.length≤2000) (hW:W≤400) (hH:H≤300) (o:Opt)
  (hcan:fs W H per=true) (hleg:o.legal per wide=true):
  Calls Tryz.prog 8 #[jO W H per wide v,o.v] w fun e w'=>JR w0 F o W H per wide l e w':=by
 obtain⟨g1,g2,g3,g4,g5,g6,g7,g8,g9⟩:=qQ hleg;have hW1:1≤W:=by simp [fs] at hcan;omega
 have hH1:1≤H:=by simp [fs] at hcan;omega
 have HC:=ac (fun w=>ug (W:Int) (H:Int) (per:Int) w);rw[hcan] at HC;have HRW:=ac (fun(G:SProp) (w:World) (h:St w0 w G) (hv:Stb w0 G (fun w=>Reads w 1 v l.length (l.map uv)))=>CL h hv hb (W:=W) (H:=H) (per:=per) (wide:=wide) (n:=W*per) hW1 (by omega) (by omega) (by omega) (by omega) (by omega) (by omega) rfl hl (by omega) o (fun hp=>by have:=g8 hp;omega));have HTL:=ac (fun(G:SProp) (w:World) (h:St w0 w G) (ht:dA w0 G) (R:List (Value × List UInt8)) (v':Value) (hv:Stb w0 G (fun w=>Reads w 1 v' R.length (R.map Prod.fst))) (hr:Stb w0 G (fun w=>∀ x∈R,Reads w 1 x.1 x.2.length (x.2.map bv))) (hR:R.map Prod.snd=dH o.predict o.big wide per (W*per) l H)=>by
  have hRl:R.length=H:=by rw[← lE o.predict o.big wide per (W*per) H l,← hR,bS]
  have hX:∀ x∈R,x.2.length=(W*per*wide+7)/8:=fun x hx=>mM hl _ (by rw[← hR];exact AG hx)
  have hb1:W*per*wide≤102400:=dL (eS (eS hW (by omega:per≤8)) (by omega:wide≤32)) (by decide);have hJ:(aK (R.map Prod.snd)).length≤1000000:=by
   rw[hR,mL (mM hl),lE];have e1:H*((W*per*wide+7)/8)≤H*(4*(W*per)+1):=jm _ (by have:W*per*wide≤W*per*32:=jm _ (by omega);omega);have e2:H*(4*(W*per)+1)=4*(H*(W*per))+H:=by rw[m3,m4];omega
   omega
  exact JQ h ht (R:=R) (v:=v') hv hr (by omega) hW1 hW (fun x hx=>by rw[hX x hx];omega) hJ o hleg (fun hp hwd x hx=>by
   have hp':per=1:=by omega
   have hwd':wide=1:=by omega
   rw[hX x hx,hp',hwd'];omega) (ph:=(H:Int)) (pper:=(per:Int)) (pwide:=(wide:Int)) (pv:=v))
 have HLN:=ac (fun z (hz:TellS o W (dH o.predict o.big wide per (W*per) l H) z)=>hz.len (by rw[lE];exact hH)
  (by
   rw[mL (mM hl),lE];have e1:H*((W*per*wide+7)/8)≤H*(4*(W*per)+1):=jm _ (by have:W*per*wide≤W*per*32:=jm _ (by omega);omega);have e2:H*(4*(W*per)+1)=4*(H*(W*per))+H:=by rw[m3,m4];omega
   omega) hW (fun hs X hX=>by
   have hf:=g6 hs;have hp':per=1:=by omega
   have hwd':wide=1:=by omega
   rw[mM hl X hX,hp',hwd'];omega))
 have HLG:=ac (fun(G:SProp) (w:World) (h:St w0 w G)=>pB h o (per:Int) (wide:Int));rw[hleg] at HLG;obtain⟨m,hm⟩:∃ m,W*H=m:=⟨_,rfl⟩;have hmI:(W:Int)*(H:Int)=(m:Int):=by rw[← hm];simp
 have hkI:(m:Int)*(per:Int)=(l.length:Int):=by rw[← hl,← hm];simp [Int.mul_comm,Int.mul_left_comm,Int.mul_assoc]
 have hm2:m≤120000:=by rw[← hm];exact dL (eS hW hH) (by decide)
 obtain⟨rr,hrr⟩:∃ rr,dH o.predict o.big wide per (W*per) l H=rr:=⟨_,rfl⟩;rw[hrr] at HLN HTL;obtain⟨a0,c0,rfl⟩:=(hv w h).sub;have HV:=ac hv;have HT:=ac htab;have HRR:=ac hrr;obtain⟨L,hL⟩:∃ L,l.length=L:=⟨_,rfl⟩;rw[hL] at hkI hl2 HV HRW HTL ⊢;have HLL:=ac hL;clear hL hv htab hcan hleg g1 g2 g3 g4 g5 g6 g7 g8 g9 hm hl hrr hb;have h3:=fD h (.cells #[.int .i64 (W:Int),.int .i64 (H:Int),.int .i64 (per:Int),.int .i64 (wide:Int),.slice a0 L c0] 24) (.cells (ba o) 28);have f0:=h3.right.cell 0 rfl;have f1:=h3.right.cell 1 rfl;have f2:=h3.right.cell 2 rfl;have f3:=h3.right.cell 3 rfl;have f4:=h3.right.cell 4 rfl;have H3:=ac h3;clear h3 h;have hov:o.v= .agg (ba o):=rfl;simp only[jO,hov] at HRW HTL HLG ⊢;obtain⟨ob,hob⟩:∃ ob,ba o=ob:=⟨_,rfl⟩;have hobs:ob.size=14:=by rw[← hob];rfl
 have hob8:ob[8]? =some (.bool o.low):=by rw[← hob];rfl
 have HO8:=ac hob8;have HOS:=ac hobs;rw[hob] at HRW HTL HLG H3 f0 f1 f2 f3 f4 ⊢;clear hob hov hobs hob8;go_enter Tryz.func8,Tryz.ntmps8;go_wp2_with (first
  | (go_at_call 17;apply ap)
  | (refine fq rfl 24 _ rfl (H4.out.perm (ak _ _ _)) rfl Tryz.underlying24 rfl (by show _=some 5;kernel_rfl) ?_)
  | (refine fq rfl 28 _ rfl H4.out rfl Tryz.underlying28 rfl (by rw[HOS.out];kernel_rfl) ?_)
  | (go_at_call 9;refine(HLG.out _ _ H3.out).mono ?_;rintro e w4 ⟨rfl,h4⟩;have H4:=ac h4;clear h4 f0 f1 f2 f3 f4 H3)
  | (refine fq rfl 28 _ rfl H3.out rfl Tryz.underlying28 rfl (by rw[HOS.out];kernel_rfl) ?_)
  | (go_at_call 16;refine(HC.out _).mono ?_;rintro e w1 ⟨rfl,rfl⟩))
 refine on ((HRW.out _ _ H4.out (fun w h=>HV.out w h.right.right)).mono ?_);rintro e w5 hd
 by_cases hall:∀ x∈l,x<2^wide
 ·obtain⟨v5,R,rfl,hR,h5⟩:=hd.1 hall;have HALL:=ac hall;have HTR:=ac (HTL.out _ _ h5 (fun w h=>HT.out w h.right.right.right.right) R v5 Stb.of_own (fun w h x hx=>CE R _ h.right x hx) (hR.trans HRR.out));have hrr2:=hR.trans HRR.out;rw[hrr2] at HTR;have H5:=ac (h5.perm (show _=blk (w.heap.size+1) (.cells ob 28)*(blk w.heap.size (.cells #[.int .i64 (W:Int),.int .i64 (H:Int),.int .i64 (per:Int),.int .i64 (wide:Int),.slice a0 L c0] 24)*(own 32 1 v5 R.length (R.map Prod.fst)*(fc R*F))) by ac_rfl));clear hd hall hR hrr2 h5 H4 HRW HC HLG;go_wp2_with (first
   | (go_at_call 18;apply ap)
   | (refine fq rfl 24 _ rfl (H5.out.perm (ak _ _ _)) rfl Tryz.underlying24 rfl (by show _=some 5;kernel_rfl) ?_)
   | (refine fq rfl 28 _ rfl H5.out rfl Tryz.underlying28 rfl (by rw[HOS.out];kernel_rfl) ?_))
  refine on (HTR.out.mono ?_);rintro e w6 ⟨v6,z,rfl,hz,h6⟩;have hzl:=HLN.out z hz;have HZ:=ac hz;have h6':=h6.perm (show _=blk (w.heap.size+1) (.cells ob 28)*(blk w.heap.size (.cells #[.int .i64 (W:Int),.int .i64 (H:Int),.int .i64 (per:Int),.int .i64 (wide:Int),.slice a0 L c0] 24)*(own 32 1 v5 R.length (R.map Prod.fst)*(fc R*(own 5 1 v6 z.length (z.map bv)*F)))) by ac_rfl);have k8:=h6'.cell 8 HO8.out;have HRV:=ac (vQ h6' z (v:=v6) (fun w h=>h.right.right.right.right.reads) (by omega));have H6:=ac h6';clear h6 h6' hz HTR H5;cases hlow:o.low
  ·rw[hlow] at k8;go_wp2_with fail;go_ret2;refine⟨fun _=>⟨v6,z,rfl,by rw[HRR.out];exact HZ.out,?_⟩,fun hn=>absurd HALL.out hn⟩;rw[hlow];exact H6.out.right.right.right.right
  ·rw[hlow] at k8;go_wp2_with (go_at_call 19;refine HRV.out.mono ?_;rintro e w7 ⟨v7,rfl,h7⟩;have H7:=ac h7;clear h7);go_ret2;refine⟨fun _=>⟨v7,z,rfl,by rw[HRR.out];exact HZ.out,?_⟩,fun hn=>absurd HALL.out hn⟩;rw[hlow,if_pos rfl];have h8:=H7.out.perm (show _=blk (w.heap.size+1) (.cells ob 28)*(blk w.heap.size (.cells #[.int .i64 (W:Int),.int .i64 (H:Int),.int .i64 (per:Int),.int .i64 (wide:Int),.slice a0 L c0] 24)*(own 32 1 v5 R.length (R.map Prod.fst)*(fc R*(own 5 1 v6 z.length (z.map bv)*(own 5 1 v7 (z.map db).length ((z.map db).map bv)*F))))) by ac_rfl);rw[bS] at h8;exact h8.right.right.right.right.right
 ·obtain⟨rfl,h5⟩:=hd.2 hall;have HALL:=ac hall;have H5:=ac h5.right.right;clear hd hall h5 H4 HRW HC HLG;go_wp2_with fail;go_ret2;exact⟨fun ha=>absurd ha HALL.out,fun _=>⟨rfl,H5.out⟩⟩
theorem JT {w0 w:World} {F:SProp} (h:St w0 w F) {a0:Option Addr} {L c0:Nat} {W H per wide:Int} (o:Opt) (hcan:fs W H per=true) (hLk:(L:Int)=W*H*per) (hleg:o.legal per wide=false):
  Calls Tryz.prog 8 #[.agg #[.int .i64 W,.int .i64 H,.int .i64 per,.int .i64 wide,.slice a0 L c0],o.v] w fun e w'=>e= .returned (.tuple #[.slice none 0 0,.int .i64 10])∧St w0 w' F:=by
 have h3:=fD h (.cells #[.int .i64 W,.int .i64 H,.int .i64 per,.int .i64 wide,.slice a0 L c0] 24) (.cells (ba o) 28);have f0:=h3.right.cell 0 rfl;have f1:=h3.right.cell 1 rfl;have f2:=h3.right.cell 2 rfl;have f3:=h3.right.cell 3 rfl;have f4:=h3.right.cell 4 rfl;have HC:=ac (fun w=>ug W H per w);have HLG:=ac (fun(G:SProp) (w:World) (h:St w0 w G)=>pB h o per wide);rw[hleg] at HLG;rw[hcan] at HC;have H3:=ac h3;clear h3 h hleg;have hov:o.v= .agg (ba o):=rfl;have HOS:=ac (show(ba o).size=14 from rfl);rw[hov] at HLG ⊢;generalize ba o=ob at*
 clear hov;obtain⟨m,hm⟩:∃ m,W*H=m:=⟨_,rfl⟩;rw[hm] at hLk;simp only[fs,cR,decide_eq_true_eq] at hcan;have m1:0≤m:=by rw[← hm];exact ri (by omega) (by omega)
 have m2:m≤1073741824:=by rw[← hm];exact oO (oP hcan.2.2.1 hcan.2.2.2.1 (by omega) (by omega)) (by decide)
 have k2:(L:Int)≤8589934592:=by rw[hLk];exact oO (oP m2 hcan.2.2.2.2.2.1 (by omega) (by omega)) (by decide)
 have hLk2:=hLk.symm;clear hcan hLk;go_enter Tryz.func8,Tryz.ntmps8;go_wp2_with (first
  | (go_at_call 9;refine(HLG.out _ _ H3.out).mono ?_;rintro e w4 ⟨rfl,h4⟩;have H4:=ac h4;clear h4 f0 f1 f2 f3 f4 H3)
  | (refine fq rfl 28 _ rfl H3.out rfl Tryz.underlying28 rfl (by rw[HOS.out];kernel_rfl) ?_)
  | (go_at_call 16;refine(HC.out _).mono ?_;rintro e w1 ⟨rfl,rfl⟩))
 go_ret2;exact⟨rfl,H4.out.right.right⟩
def j7 (l:List Nat) (wide:Int) (i:Nat):Nat:=if 1≤wide∧wide<32 then l.getD (i%l.length) 0%2^wide.toNat else l.getD (i%l.length) 0
def ec (l:List Nat) (wide:Int) (n:Nat):List Nat:=(List.range n).map (j7 l wide)
theorem JU (l:List Nat) (wide:Int) (n:Nat):(ec l wide n).length=n:=by rw[ec,bS,kK]
theorem mN (l:List Nat) (wide:Int) (n:Nat):ec l wide (n+1)=ec l wide n++[j7 l wide n]:=by
 rw[ec,gT,List.map_append];rfl
theorem Af {l:List Nat} {m:Nat} (hm:0<m) (h:∀ x∈l,x<m) (i:Nat):l.getD i 0<m:=by
 rw[List.getD_eq_getElem?_getD];cases e:l[i]? with
 | none=>exact hm
 | some x=>exact h x (aI e)
theorem JV {l:List Nat} {wide:Int} {n:Nat} (h:∀ x∈l,x<4294967296):∀ x∈ec l wide n,x<4294967296∧(1≤wide→wide≤32→x<2^wide.toNat):=by
 intro x hx;obtain⟨i,_,rfl⟩:=cu.1 hx;have h1:=Af (by decide) h (i%l.length);unfold j7
 by_cases c:1≤wide∧wide<32
 ·rw[if_pos c];have hp:=mU wide.toNat;exact⟨jh (Nat.mod_le _ _) h1,fun _ _=>lK _ hp⟩
 ·rw[if_neg c];refine⟨h1,fun h2 h3=> ?_⟩;have:wide=32:=by omega
  subst this;exact h1
def uh (W H per:Int):Prop:=1≤W∧1≤H∧1≤per∧W≤60∧H≤30∧per≤8∧W*H*per≤1500
theorem JW {w0 w:World} {F:SProp} (h:St w0 w F) {W H per wide:Int} {a0:Option Addr} {L c0:Nat} (hbad:¬ uh W H per):
  Calls Tryz.prog 6 #[.agg #[.int .i64 W,.int .i64 H,.int .i64 per,.int .i64 wide,.slice a0 L c0]] w fun e w'=>e= .returned (.tuple #[.agg #[.int .i64 W,.int .i64 H,.int .i64 per,.int .i64 wide,.slice a0 L c0],.bool false])∧St w0 w' F:=by
 have h3:=fD h (.cells #[.int .i64 W,.int .i64 H,.int .i64 per,.int .i64 wide,.slice a0 L c0] 24) (.cells #[.int .i64 0,.int .i64 0,.int .i64 0,.int .i64 0,.slice none 0 0] 24);have f0:=h3.right.cell 0 rfl;have f1:=h3.right.cell 1 rfl;have f2:=h3.right.cell 2 rfl;have HR8:=ac (fD h (.cells #[.int .i64 W,.int .i64 H,.int .i64 per,.int .i64 wide,.slice a0 L c0] 24) (.cells #[.int .i64 W,.int .i64 H,.int .i64 per,.int .i64 wide,.slice a0 L c0] 24));clear h3 h
 by_cases a0:1≤W
 rotate_left
 ·have b0:W<1:=by omega
  clear hbad;go_enter Tryz.func6,Tryz.ntmps6;go_wp2_with fail;refine j5 rfl rfl HR8.out.at_ Tryz.underlying24 rfl (by show _=some 5;kernel_rfl) rfl ?_;exact⟨rfl,HR8.out.right.right⟩
 have b0:¬ W<1:=by omega
 by_cases a1:1≤H
 rotate_left
 ·have b1:H<1:=by omega
  clear hbad;go_enter Tryz.func6,Tryz.ntmps6;go_wp2_with fail;refine j5 rfl rfl HR8.out.at_ Tryz.underlying24 rfl (by show _=some 5;kernel_rfl) rfl ?_;exact⟨rfl,HR8.out.right.right⟩
 have b1:¬ H<1:=by omega
 by_cases a2:1≤per
 rotate_left
 ·have b2:per<1:=by omega
  clear hbad;go_enter Tryz.func6,Tryz.ntmps6;go_wp2_with fail;refine j5 rfl rfl HR8.out.at_ Tryz.underlying24 rfl (by show _=some 5;kernel_rfl) rfl ?_;exact⟨rfl,HR8.out.right.right⟩
 have b2:¬ per<1:=by omega
 by_cases a3:W≤60
 rotate_left
 ·have b3:60<W:=by omega
  clear hbad;go_enter Tryz.func6,Tryz.ntmps6;go_wp2_with fail;refine j5 rfl rfl HR8.out.at_ Tryz.underlying24 rfl (by show _=some 5;kernel_rfl) rfl ?_;exact⟨rfl,HR8.out.right.right⟩
 have b3:¬ 60<W:=by omega
 by_cases a4:H≤30
 rotate_left
 ·have b4:30<H:=by omega
  clear hbad;go_enter Tryz.func6,Tryz.ntmps6;go_wp2_with fail;refine j5 rfl rfl HR8.out.at_ Tryz.underlying24 rfl (by show _=some 5;kernel_rfl) rfl ?_;exact⟨rfl,HR8.out.right.right⟩
 have b4:¬ 30<H:=by omega
 by_cases a5:per≤8
 rotate_left
 ·have b5:8<per:=by omega
  clear hbad;go_enter Tryz.func6,Tryz.ntmps6;go_wp2_with fail;refine j5 rfl rfl HR8.out.at_ Tryz.underlying24 rfl (by show _=some 5;kernel_rfl) rfl ?_;exact⟨rfl,HR8.out.right.right⟩
 have b5:¬ 8<per:=by omega
 have hm0:¬ W*H*per≤1500:=fun hp=>hbad ⟨a0,a1,a2,a3,a4,a5,hp⟩
 obtain⟨m,hm⟩:∃ m,W*H=m:=⟨_,rfl⟩;obtain⟨k,hk⟩:∃ k,m*per=k:=⟨_,rfl⟩;have m1:0≤m:=by rw[← hm];exact ri (by omega) (by omega)
 have m2:m≤1800:=by rw[← hm];exact oO (oP a3 a4 (by omega) (by omega)) (by decide)
 have k1:0≤k:=by rw[← hk];exact ri m1 (by omega)
 have k2:k≤14400:=by rw[← hk];exact oO (oP m2 a5 (by omega) (by omega)) (by decide)
 rw[hm,hk] at hm0;have hm1:1500<k:=by omega
 clear hbad;go_enter Tryz.func6,Tryz.ntmps6;go_wp2_with fail;refine j5 rfl rfl HR8.out.at_ Tryz.underlying24 rfl (by show _=some 5;kernel_rfl) rfl ?_;exact⟨rfl,HR8.out.right.right⟩
theorem mO (w:World) (x:Int):Reads (w.alloc (.cells #[.int .u32 x] 48)) 1 (.slice (some ⟨w.heap.size,0,none⟩) 1 1) 1 [.int .u32 x]:=
 (St.own_blk (e:=48) (size:=1) (n:=1) (cap:=1) (xs:=[.int .u32 x]) ((St.init w).alloc _) (Nat.le_refl _) (by decide) rfl rfl).reads
theorem JX {w0 w:World} {F:SProp} (h:St w0 w F) {W H per:Nat} {wide:Int} {l:List Nat} {v:Value} (hv:Stb w0 F (fun w=>Reads w 1 v l.length (l.map uv))) (hlt:∀ x∈l,x<4294967296) (hok:uh W H per) {n:Nat} (hn:W*H*per=n):
  Calls Tryz.prog 6 #[.agg #[.int .i64 (W:Int),.int .i64 (H:Int),.int .i64 (per:Int),.int .i64 wide,v]] w fun e w'=>∃ v',e= .returned (.tuple #[.agg #[.int .i64 (W:Int),.int .i64 (H:Int),.int .i64 (per:Int),.int .i64 wide,v'],.bool true])∧St w0 w' (own 48 1 v' n ((ec l wide n).map uv)*F):=by
 obtain⟨b0,b1,b2,b3,b4,b5,b6⟩:=hok;obtain⟨m,hm⟩:∃ m,W*H=m:=⟨_,rfl⟩;have hmI:(W:Int)*(H:Int)=(m:Int):=by rw[← hm];simp
 have hnI:(m:Int)*(per:Int)=(n:Int):=by rw[← hn,← hm];simp
 have hm2:m≤1800:=by rw[← hm];exact eS (by omega:W≤60) (by omega:H≤30)
 have hn2:n≤1500:=by have:=b6;rw[hmI,hnI] at this;omega
 obtain⟨L,hL⟩:∃ L,l.length=L:=⟨_,rfl⟩;rw[hL] at hv;obtain⟨a0,c0,rfl⟩:=(hv w h).sub;have hll:L≤9223372036854775807:=by have:=iq (hv w h);unfold maxLen at this;omega
 have h3:=fD h (.cells #[.int .i64 (W:Int),.int .i64 (H:Int),.int .i64 (per:Int),.int .i64 wide,.slice a0 L c0] 24) (.cells #[.int .i64 0,.int .i64 0,.int .i64 0,.int .i64 0,.slice none 0 0] 24);have f0:=h3.right.cell 0 rfl;have f1:=h3.right.cell 1 rfl;have f2:=h3.right.cell 2 rfl;have f4:=h3.right.cell 4 rfl;have h5:=(fD h (.cells #[.int .i64 (W:Int),.int .i64 (H:Int),.int .i64 (per:Int),.int .i64 wide,.slice none 0 0] 24) (.cells #[.int .i64 0,.int .i64 0,.int .i64 0,.int .i64 0,.slice none 0 0] 24)).perm (ak _ _ _);have HV:=ac hv;have HLT:=ac hlt;have HLL:=ac hL;have H5:=ac (St.own_nil 48 1 h5);clear h h3 h5 hv hlt hL hm hn b6;have T:=l8;go_enter Tryz.func6,Tryz.ntmps6;go_wp2_with fail;clear f0 f1 f2 f4;generalize w.heap.size=gp at*
 go_loopw [58] (fun vi wr=>∃ (k:Nat) (ao:Option Addr) (co:Nat),k≤n∧vi= .int .i64 k∧St w0 wr (own 48 1 (.slice ao k co) k ((ec l wide k).map uv)*(blk gp (.cells #[.int .i64 (W:Int),.int .i64 (H:Int),.int .i64 (per:Int),.int .i64 wide,.slice ao k co] 24)*(blk (gp+1) (.cells #[.int .i64 0,.int .i64 0,.int .i64 0,.int .i64 0,.slice none 0 0] 24)*F)))) (fun vi _=>n-(intOf vi).toNat)
 case atStart=>exact⟨0,none,0,Nat.zero_le _,rfl,H5.out⟩
 case round=>
  clear H5;obtain⟨k,ao,co,hk,rfl,hst⟩:=hrel
  by_cases hkn:k<n
  ·have hkI:(k:Int)<n:=by omega
   have g3:=hst.right.cell 3 rfl;have g4:=hst.right.cell 4 rfl;have HST:=ac hst
   by_cases hL0:0<L
   ·have hL0I:(0:Int)<L:=by omega
    have hqL:k%L<L:=lK _ hL0;obtain⟨b,off,rfl,hc⟩:=(HV.out _ hst.right.right.right).at_ hqL;have hx:(l.map uv)[k%L]? =some (uv (l.getD (k%L) 0)):=by
     rw[aC,List.getD_eq_getElem?_getD,au (by rw[HLL.out];exact hqL)];rfl
    rw[hx] at hc;simp only[uv] at hc;have hx32:=Af (by decide) HLT.out (k%L);obtain⟨q,hq⟩:∃ q,k%L=q:=⟨_,rfl⟩;have hqI:(k:Int)%(L:Int)=(q:Int):=by rw[← hq];simp
    have HX0:=ac (show l.getD (k%l.length) 0=l.getD q 0 by rw[HLL.out,hq]);rw[hq] at hc hx32 hqL;generalize l.getD q 0=x0 at*
    have hqLI:(q:Int)<L:=by omega
    clear hst hx hq
    by_cases hw:1≤wide∧wide<32
    ·obtain⟨wn,rfl⟩:=oQ (show 0≤wide by omega);have hw1:(1:Int)≤wn:=hw.1;have hw2:(wn:Int)<32:=hw.2;obtain⟨x,hx⟩:∃ x,x0%2^wn=x:=⟨_,rfl⟩;have HXV:=ac (show j7 l (wn:Int) k=x by rw[j7,if_pos hw,HX0.out];exact hx);have hp:=mU wn;have hp2:2^wn<4294967296:=AE (by decide) (show wn<32 by omega);have hpI:(2:Int)^wn=((2^wn:Nat):Int):=by simp
     have hxI:(x0:Int)%(2:Int)^wn=(x:Int):=by rw[hpI,← hx];simp
     obtain⟨p2,hp2e⟩:∃ p2:Nat,2^wn=p2:=⟨_,rfl⟩;rw[hpI] at hxI;rw[hp2e] at hp hp2 hpI hxI;have hx32':x<4294967296:=by rw[← hx];exact jh (Nat.mod_le _ _) hx32
     have HXI:=ac hxI;clear hw hx hp2e hxI;go_wp2_with (at_builtin;apply ap);have h1:=HST.out.drop_alloc (.cells #[.int .u32 ((x0:Int)%(p2:Int))] 48);refine on (aG T rfl _ _ rfl rfl h1 rfl (mO wr ((x0:Int)%(p2:Int))) (by intro u hu;rw[List.mem_singleton.1 hu];rfl) (by unfold maxLen;omega) (by omega) ?_);intro v4 w4 h4 _;have h4:St w0 w4 (own 48 1 v4 (k+1) ((ec l (wn:Int) (k+1)).map uv)*(blk gp (.cells #[.int .i64 (W:Int),.int .i64 (H:Int),.int .i64 (per:Int),.int .i64 (wn:Int),.slice ao k co] 24)*(blk (gp+1) (.cells #[.int .i64 0,.int .i64 0,.int .i64 0,.int .i64 0,.slice none 0 0] 24)*F))):=by
      rw[HXI.out] at h4;rw[mN,HXV.out,List.map_append];exact h4
     obtain⟨a4,c4,rfl⟩:=h4.reads.sub;have h5:=h4.perm (ak _ _ _);have s4:=h5.cell 4 rfl;have r4:=h5.free 4;have h6:St w0 _ (blk gp (.cells #[.int .i64 (W:Int),.int .i64 (H:Int),.int .i64 (per:Int),.int .i64 (wn:Int),.slice a4 (k+1) c4] 24)*(own 48 1 (.slice a4 (k+1) c4) (k+1) ((ec l (wn:Int) (k+1)).map uv)*(blk (gp+1) (.cells #[.int .i64 0,.int .i64 0,.int .i64 0,.int .i64 0,.slice none 0 0] 24)*F))):=h5.set 4 (.slice a4 (k+1) c4);have H7:=ac (h6.perm (ak _ _ _));clear h1 h4 h5 h6 HST;go_wp2_with fail;exact⟨⟨k+1,a4,c4,by omega,by go_num,H7.out⟩,by simp [intOf];omega⟩
    ·have HXV:=ac (show j7 l wide k=x0 by rw[j7,if_neg hw,HX0.out]);have hx32':=hx32;generalize x0=x at*
     by_cases hw1:1≤wide
     ·have hw2:¬ wide<32:=fun h=>hw ⟨hw1,h⟩
      clear hw;go_wp2_with (at_builtin;apply ap);have h1:=HST.out.drop_alloc (.cells #[.int .u32 ((x:Int))] 48);refine on (aG T rfl _ _ rfl rfl h1 rfl (mO wr ((x:Int))) (by intro u hu;rw[List.mem_singleton.1 hu];rfl) (by unfold maxLen;omega) (by omega) ?_);intro v4 w4 h4 _;have h4:St w0 w4 (own 48 1 v4 (k+1) ((ec l wide (k+1)).map uv)*(blk gp (.cells #[.int .i64 (W:Int),.int .i64 (H:Int),.int .i64 (per:Int),.int .i64 wide,.slice ao k co] 24)*(blk (gp+1) (.cells #[.int .i64 0,.int .i64 0,.int .i64 0,.int .i64 0,.slice none 0 0] 24)*F))):=by
       rw[mN,HXV.out,List.map_append];exact h4
      obtain⟨a4,c4,rfl⟩:=h4.reads.sub;have h5:=h4.perm (ak _ _ _);have s4:=h5.cell 4 rfl;have r4:=h5.free 4;have h6:St w0 _ (blk gp (.cells #[.int .i64 (W:Int),.int .i64 (H:Int),.int .i64 (per:Int),.int .i64 wide,.slice a4 (k+1) c4] 24)*(own 48 1 (.slice a4 (k+1) c4) (k+1) ((ec l wide (k+1)).map uv)*(blk (gp+1) (.cells #[.int .i64 0,.int .i64 0,.int .i64 0,.int .i64 0,.slice none 0 0] 24)*F))):=h5.set 4 (.slice a4 (k+1) c4);have H7:=ac (h6.perm (ak _ _ _));clear h1 h4 h5 h6 HST;go_wp2_with fail;exact⟨⟨k+1,a4,c4,by omega,by go_num,H7.out⟩,by simp [intOf];omega⟩
     ·clear hw;go_wp2_with (at_builtin;apply ap);have h1:=HST.out.drop_alloc (.cells #[.int .u32 ((x:Int))] 48);refine on (aG T rfl _ _ rfl rfl h1 rfl (mO wr ((x:Int))) (by intro u hu;rw[List.mem_singleton.1 hu];rfl) (by unfold maxLen;omega) (by omega) ?_);intro v4 w4 h4 _;have h4:St w0 w4 (own 48 1 v4 (k+1) ((ec l wide (k+1)).map uv)*(blk gp (.cells #[.int .i64 (W:Int),.int .i64 (H:Int),.int .i64 (per:Int),.int .i64 wide,.slice ao k co] 24)*(blk (gp+1) (.cells #[.int .i64 0,.int .i64 0,.int .i64 0,.int .i64 0,.slice none 0 0] 24)*F))):=by
       rw[mN,HXV.out,List.map_append];exact h4
      obtain⟨a4,c4,rfl⟩:=h4.reads.sub;have h5:=h4.perm (ak _ _ _);have s4:=h5.cell 4 rfl;have r4:=h5.free 4;have h6:St w0 _ (blk gp (.cells #[.int .i64 (W:Int),.int .i64 (H:Int),.int .i64 (per:Int),.int .i64 wide,.slice a4 (k+1) c4] 24)*(own 48 1 (.slice a4 (k+1) c4) (k+1) ((ec l wide (k+1)).map uv)*(blk (gp+1) (.cells #[.int .i64 0,.int .i64 0,.int .i64 0,.int .i64 0,.slice none 0 0] 24)*F))):=h5.set 4 (.slice a4 (k+1) c4);have H7:=ac (h6.perm (ak _ _ _));clear h1 h4 h5 h6 HST;go_wp2_with fail;exact⟨⟨k+1,a4,c4,by omega,by go_num,H7.out⟩,by simp [intOf];omega⟩
   ·have hL0I:¬ (0:Int)<L:=by omega
    have hl0:l=[]:=bG (by rw[HLL.out];omega);have HXV:=ac (show j7 l wide k=0 by rw[j7,hl0];split <;> simp);clear hst hl0
    by_cases hw:1≤wide∧wide<32
    ·obtain⟨wn,rfl⟩:=oQ (show 0≤wide by omega);have hw1:(1:Int)≤wn:=hw.1;have hw2:(wn:Int)<32:=hw.2;have hp:=mU wn;have hp2:2^wn<4294967296:=AE (by decide) (show wn<32 by omega);have hpI:(2:Int)^wn=((2^wn:Nat):Int):=by simp
     obtain⟨p2,hp2e⟩:∃ p2:Nat,2^wn=p2:=⟨_,rfl⟩;rw[hp2e] at hp hp2 hpI;clear hw hp2e;go_wp2_with (at_builtin;apply ap);have h1:=HST.out.drop_alloc (.cells #[.int .u32 (0)] 48);refine on (aG T rfl _ _ rfl rfl h1 rfl (mO wr (0)) (by intro u hu;rw[List.mem_singleton.1 hu];rfl) (by unfold maxLen;omega) (by omega) ?_);intro v4 w4 h4 _;have h4:St w0 w4 (own 48 1 v4 (k+1) ((ec l (wn:Int) (k+1)).map uv)*(blk gp (.cells #[.int .i64 (W:Int),.int .i64 (H:Int),.int .i64 (per:Int),.int .i64 (wn:Int),.slice ao k co] 24)*(blk (gp+1) (.cells #[.int .i64 0,.int .i64 0,.int .i64 0,.int .i64 0,.slice none 0 0] 24)*F))):=by
      rw[mN,HXV.out,List.map_append];exact h4
     obtain⟨a4,c4,rfl⟩:=h4.reads.sub;have h5:=h4.perm (ak _ _ _);have s4:=h5.cell 4 rfl;have r4:=h5.free 4;have h6:St w0 _ (blk gp (.cells #[.int .i64 (W:Int),.int .i64 (H:Int),.int .i64 (per:Int),.int .i64 (wn:Int),.slice a4 (k+1) c4] 24)*(own 48 1 (.slice a4 (k+1) c4) (k+1) ((ec l (wn:Int) (k+1)).map uv)*(blk (gp+1) (.cells #[.int .i64 0,.int .i64 0,.int .i64 0,.int .i64 0,.slice none 0 0] 24)*F))):=h5.set 4 (.slice a4 (k+1) c4);have H7:=ac (h6.perm (ak _ _ _));clear h1 h4 h5 h6 HST;go_wp2_with fail;exact⟨⟨k+1,a4,c4,by omega,by go_num,H7.out⟩,by simp [intOf];omega⟩
    ·by_cases hw1:1≤wide
     ·have hw2:¬ wide<32:=fun h=>hw ⟨hw1,h⟩
      clear hw;go_wp2_with (at_builtin;apply ap);have h1:=HST.out.drop_alloc (.cells #[.int .u32 (0)] 48);refine on (aG T rfl _ _ rfl rfl h1 rfl (mO wr (0)) (by intro u hu;rw[List.mem_singleton.1 hu];rfl) (by unfold maxLen;omega) (by omega) ?_);intro v4 w4 h4 _;have h4:St w0 w4 (own 48 1 v4 (k+1) ((ec l wide (k+1)).map uv)*(blk gp (.cells #[.int .i64 (W:Int),.int .i64 (H:Int),.int .i64 (per:Int),.int .i64 wide,.slice ao k co] 24)*(blk (gp+1) (.cells #[.int .i64 0,.int .i64 0,.int .i64 0,.int .i64 0,.slice none 0 0] 24)*F))):=by
       rw[mN,HXV.out,List.map_append];exact h4
      obtain⟨a4,c4,rfl⟩:=h4.reads.sub;have h5:=h4.perm (ak _ _ _);have s4:=h5.cell 4 rfl;have r4:=h5.free 4;have h6:St w0 _ (blk gp (.cells #[.int .i64 (W:Int),.int .i64 (H:Int),.int .i64 (per:Int),.int .i64 wide,.slice a4 (k+1) c4] 24)*(own 48 1 (.slice a4 (k+1) c4) (k+1) ((ec l wide (k+1)).map uv)*(blk (gp+1) (.cells #[.int .i64 0,.int .i64 0,.int .i64 0,.int .i64 0,.slice none 0 0] 24)*F))):=h5.set 4 (.slice a4 (k+1) c4);have H7:=ac (h6.perm (ak _ _ _));clear h1 h4 h5 h6 HST;go_wp2_with fail;exact⟨⟨k+1,a4,c4,by omega,by go_num,H7.out⟩,by simp [intOf];omega⟩
     ·clear hw;go_wp2_with (at_builtin;apply ap);have h1:=HST.out.drop_alloc (.cells #[.int .u32 (0)] 48);refine on (aG T rfl _ _ rfl rfl h1 rfl (mO wr (0)) (by intro u hu;rw[List.mem_singleton.1 hu];rfl) (by unfold maxLen;omega) (by omega) ?_);intro v4 w4 h4 _;have h4:St w0 w4 (own 48 1 v4 (k+1) ((ec l wide (k+1)).map uv)*(blk gp (.cells #[.int .i64 (W:Int),.int .i64 (H:Int),.int .i64 (per:Int),.int .i64 wide,.slice ao k co] 24)*(blk (gp+1) (.cells #[.int .i64 0,.int .i64 0,.int .i64 0,.int .i64 0,.slice none 0 0] 24)*F))):=by
       rw[mN,HXV.out,List.map_append];exact h4
      obtain⟨a4,c4,rfl⟩:=h4.reads.sub;have h5:=h4.perm (ak _ _ _);have s4:=h5.cell 4 rfl;have r4:=h5.free 4;have h6:St w0 _ (blk gp (.cells #[.int .i64 (W:Int),.int .i64 (H:Int),.int .i64 (per:Int),.int .i64 wide,.slice a4 (k+1) c4] 24)*(own 48 1 (.slice a4 (k+1) c4) (k+1) ((ec l wide (k+1)).map uv)*(blk (gp+1) (.cells #[.int .i64 0,.int .i64 0,.int .i64 0,.int .i64 0,.slice none 0 0] 24)*F))):=h5.set 4 (.slice a4 (k+1) c4);have H7:=ac (h6.perm (ak _ _ _));clear h1 h4 h5 h6 HST;go_wp2_with fail;exact⟨⟨k+1,a4,c4,by omega,by go_num,H7.out⟩,by simp [intOf];omega⟩
  ·obtain rfl:k=n:=by omega
   have h8:=hst.perm (show _=blk (gp+1) (.cells #[.int .i64 0,.int .i64 0,.int .i64 0,.int .i64 0,.slice none 0 0] 24)*(blk gp (.cells #[.int .i64 (W:Int),.int .i64 (H:Int),.int .i64 (per:Int),.int .i64 wide,.slice ao k co] 24)*(own 48 1 (.slice ao k co) k ((ec l wide k).map uv)*F)) by ac_rfl);have HP8:=ac (h8.perm (ak _ _ _));have HB8:=ac h8;have HR8:=ac (h8.setRow #[.int .i64 (W:Int),.int .i64 (H:Int),.int .i64 (per:Int),.int .i64 wide,.slice ao k co]);clear hst h8;go_wp2_with (first | (refine fq rfl 24 _ rfl HP8.out rfl Tryz.underlying24 rfl (by show _=some 5;kernel_rfl) ?_) | (refine mJ rfl 24 _ _ rfl HB8.out rfl rfl (by show _=some 5;kernel_rfl) rfl rfl ?_));refine j5 rfl rfl HR8.out.at_ Tryz.underlying24 rfl (by show _=some 5;kernel_rfl) rfl ?_;exact⟨_,rfl,HR8.out.right.right⟩
end Go.Proofs.YtboflbdniogcdaaGreatDoor
