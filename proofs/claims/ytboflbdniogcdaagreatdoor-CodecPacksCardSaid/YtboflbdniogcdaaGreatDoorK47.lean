/-
  Parts of a proof.
-/
import Derived.Test.YtboflbdniogcdaaGreatDoorK33
import Derived.Test.YtboflbdniogcdaaGreatDoorK45
import Derived.Test.YtboflbdniogcdaaGreatDoorK46
import Derived.Test.YtboflbdniogcdaaGreatDoorK14
import Derived.Test.YtboflbdniogcdaaGreatDoorK11
set_option linter.unusedVariables false
set_option linter.unusedSimpArgs false
set_option maxRecDepth 100000
set_option maxHeartbeats 100000000
namespace Go.Proofs.YtboflbdniogcdaaGreatDoor
open Go.RowKit Go.Mz
def fp (w h per:Int):Bool:=decide (1≤w)&&(decide (1≤h)&&(decide (w≤32768)&&(decide (h≤32768)&&(decide (1≤per)&&(decide (per≤8)&&decide (w*h*per≤4194304))))))
theorem sK (w h per:Int) (W:World):Calls Tryz.prog 16 #[.int .i64 w,.int .i64 h,.int .i64 per] W fun r w'=>r= .returned (.bool (fp w h per))∧w'=W:=by
 by_cases a1:1≤w
 rotate_left
 ·have d1:decide (1≤w)=false:=decide_eq_false a1;rw[fp,d1];go_enter Tryz.func16,Tryz.ntmps16;go_wp2_with fail;go_ret;exact⟨by first | rfl | simp,rfl⟩
 by_cases a2:1≤h
 rotate_left
 ·have d1:decide (1≤w)=true:=decide_eq_true a1;have d2:decide (1≤h)=false:=decide_eq_false a2;rw[fp,d1,d2];go_enter Tryz.func16,Tryz.ntmps16;go_wp2_with fail;go_ret;exact⟨by first | rfl | simp,rfl⟩
 by_cases a3:w≤32768
 rotate_left
 ·have d1:decide (1≤w)=true:=decide_eq_true a1;have d2:decide (1≤h)=true:=decide_eq_true a2;have d3:decide (w≤32768)=false:=decide_eq_false a3;rw[fp,d1,d2,d3];go_enter Tryz.func16,Tryz.ntmps16;go_wp2_with fail;go_ret;exact⟨by first | rfl | simp,rfl⟩
 by_cases a4:h≤32768
 rotate_left
 ·have d1:decide (1≤w)=true:=decide_eq_true a1;have d2:decide (1≤h)=true:=decide_eq_true a2;have d3:decide (w≤32768)=true:=decide_eq_true a3;have d4:decide (h≤32768)=false:=decide_eq_false a4;rw[fp,d1,d2,d3,d4];go_enter Tryz.func16,Tryz.ntmps16;go_wp2_with fail;go_ret;exact⟨by first | rfl | simp,rfl⟩
 by_cases a5:1≤per
 rotate_left
 ·have d1:decide (1≤w)=true:=decide_eq_true a1;have d2:decide (1≤h)=true:=decide_eq_true a2;have d3:decide (w≤32768)=true:=decide_eq_true a3;have d4:decide (h≤32768)=true:=decide_eq_true a4;have d5:decide (1≤per)=false:=decide_eq_false a5;rw[fp,d1,d2,d3,d4,d5];go_enter Tryz.func16,Tryz.ntmps16;go_wp2_with fail;go_ret;exact⟨by first | rfl | simp,rfl⟩
 by_cases a6:per≤8
 rotate_left
 ·have d1:decide (1≤w)=true:=decide_eq_true a1;have d2:decide (1≤h)=true:=decide_eq_true a2;have d3:decide (w≤32768)=true:=decide_eq_true a3;have d4:decide (h≤32768)=true:=decide_eq_true a4;have d5:decide (1≤per)=true:=decide_eq_true a5;have d6:decide (per≤8)=false:=decide_eq_false a6;rw[fp,d1,d2,d3,d4,d5,d6];go_enter Tryz.func16,Tryz.ntmps16;go_wp2_with fail;go_ret;exact⟨by first | rfl | simp,rfl⟩
 have d1:decide (1≤w)=true:=decide_eq_true a1;have d2:decide (1≤h)=true:=decide_eq_true a2;have d3:decide (w≤32768)=true:=decide_eq_true a3;have d4:decide (h≤32768)=true:=decide_eq_true a4;have d5:decide (1≤per)=true:=decide_eq_true a5;have d6:decide (per≤8)=true:=decide_eq_true a6;rw[fp,d1,d2,d3,d4,d5,d6];obtain⟨m,hm⟩:∃ m,w*h=m:=⟨_,rfl⟩;obtain⟨k,hk⟩:∃ k,m*per=k:=⟨_,rfl⟩;have m1:0≤m:=by rw[← hm];exact qj (by omega) (by omega)
 have m2:m≤1073741824:=by rw[← hm];exact nF (nG a3 a4 (by omega) (by omega)) (by decide)
 have k1:0≤k:=by rw[← hk];exact qj m1 (by omega)
 have k2:k≤8589934592:=by rw[← hk];exact nF (nG m2 a6 (by omega) (by omega)) (by decide)
 rw[hm,hk];go_enter Tryz.func16,Tryz.ntmps16;go_wp2_with fail;go_ret;exact⟨by first | rfl | simp,rfl⟩
theorem pR {per wide n:Int} {predict two:Bool} {every how:Int} (h:fN per wide n predict two every how=true):
  (n=1∨n=2∨n=3∨n=4∨n=5∨n=8∨n=32773∨n=32946)∧1≤per∧per≤8∧1≤wide∧wide≤32∧(n=2∨n=3∨n=4→per=1∧wide=1)∧(n=3→two=true→1≤every)∧(predict=true→wide=8∨wide=16∨wide=32)∧(n=8∨n=32946→0≤how∧how≤2):=by
 simp only[fN,eL,ie,gP,cS,nH,jR,beq_iff_eq,decide_eq_true_eq,Bool.or_eq_false_iff,Bool.and_eq_false_iff,beq_eq_false_iff_ne,bne_iff_ne,ne_eq,decide_eq_false_iff_not,Bool.not_eq_false',bne_eq_false_iff_eq] at h;obtain⟨⟨⟨⟨⟨⟨⟨⟨⟨h1,h2⟩,h3⟩,h4⟩,h5⟩,h6⟩,h7⟩,h8⟩,h9⟩,h10⟩:=h;refine⟨by omega,by omega,by omega,by omega,by omega,by omega,?_,?_,by omega⟩
 ·rintro rfl rfl;simp at h7;omega
 ·rintro rfl;simp at h9;omega
def TellS (o:Opt) (W:Nat) (L:List (List UInt8)) (z:List UInt8):Prop:=
 (o.scheme=1∧z=aH L)∨(o.scheme=5∧z=aq false (br (aH L)))∨
 ((o.scheme=8∨o.scheme=32946)∧∃ hw x,hw≤2∧DefS (aH L) hw x∧x.length≤100000000∧z=(120:UInt8)::1::(aq true x++dx true (eK (aH L)) 4))∨
 (o.scheme=32773∧PbRows L z)∨(o.scheme=2∧z=aq false (bj W (cu W L) []))∨
 (o.scheme=3∧z=aq false (fD W o.two o.al o.fin o.every (cu W L)))∨(o.scheme=4∧z=aq false (iM W (cu W L)))
theorem IG {w0 w:World} {F:SProp} (h:St w0 w F) (htab:eu w0 F) {R:List (Value × List UInt8)} {v:Value} (hv:Stb w0 F (fun w=>Reads w 1 v R.length (R.map Prod.fst))) (hr:Stb w0 F (fun w=>∀ x∈R,Reads w 1 x.1 x.2.length (x.2.map bv))) (hN:R.length≤300) {W:Nat} (h1:1≤W) (hw:W≤400) (hL:∀ x∈R,x.2.length≤1000000) (hJ:(aH (R.map Prod.snd)).length≤1000000) (o:Opt)
  {per wide:Int} (hleg:o.legal per wide=true) (hfx:per=1→wide=1→∀ x∈R,(W+7)/8≤x.2.length) {ph pper pwide:Int} {pv:Value}:
  Calls Tryz.prog 18 #[v,.agg #[.int .i64 (W:Int),.int .i64 ph,.int .i64 pper,.int .i64 pwide,pv],o.v] w fun e w'=>∃ v' z,e= .returned (.tuple #[v',.int .i64 0])∧TellS o W (R.map Prod.snd) z∧St w0 w' (own 5 1 v' z.length (z.map bv)*F):=by
 obtain⟨g1,g2,g3,g4,g5,g6,g7,g8,g9⟩:=pR hleg
 rcases g1 with e | e | e | e | e | e | e | e
 ·refine(B9 h hv hr (by omega) (by omega) o e _).mono ?_;rintro r w' ⟨v',rfl,hs⟩;exact⟨v',_,rfl,.inl ⟨e,rfl⟩,hs⟩
 ·have hf:=g6 (by omega);refine(rS h htab hv hr hN h1 hw (fun x hx=>⟨hfx hf.1 hf.2 x hx,hL x hx⟩) o (.inl ⟨e,rfl⟩)).mono ?_;rintro r w' ⟨v',rfl,hs⟩;exact⟨v',_,rfl,.inr (.inr (.inr (.inr (.inl ⟨e,rfl⟩)))),hs⟩
 ·have hf:=g6 (by omega);refine(rS h htab hv hr hN h1 hw (fun x hx=>⟨hfx hf.1 hf.2 x hx,hL x hx⟩) o (.inr (.inl ⟨e,rfl,fun ht=>g7 e ht⟩))).mono ?_;rintro r w' ⟨v',rfl,hs⟩;exact⟨v',_,rfl,.inr (.inr (.inr (.inr (.inr (.inl ⟨e,rfl⟩))))),hs⟩
 ·have hf:=g6 (by omega);refine(rS h htab hv hr hN h1 hw (fun x hx=>⟨hfx hf.1 hf.2 x hx,hL x hx⟩) o (.inr (.inr ⟨e,rfl⟩))).mono ?_;rintro r w' ⟨v',rfl,hs⟩;exact⟨v',_,rfl,.inr (.inr (.inr (.inr (.inr (.inr ⟨e,rfl⟩))))),hs⟩
 ·refine(Ca h hv hr (by omega) (by omega) o e _).mono ?_;rintro r w' ⟨v',rfl,hs⟩;exact⟨v',_,rfl,.inr (.inl ⟨e,rfl⟩),hs⟩
 ·have hq:=g9 (.inl e);refine(yC h hv hr (by omega) (by omega) o (.inl e) (hw:=o.how.toNat) (by omega) (by omega) _).mono ?_;rintro r w' ⟨v',x,z,rfl,hd,hxl,hz,hs⟩;exact⟨v',z,rfl,.inr (.inr (.inl ⟨.inl e,o.how.toNat,x,by omega,hd,hxl,hz⟩)),hs⟩
 ·refine(Ep h hv hr (by omega) (by omega) o e _).mono ?_;rintro r w' ⟨v',z,rfl,hp,hs⟩;exact⟨v',z,rfl,.inr (.inr (.inr (.inl ⟨e,hp⟩))),hs⟩
 ·have hq:=g9 (.inr e);refine(yC h hv hr (by omega) (by omega) o (.inr e) (hw:=o.how.toNat) (by omega) (by omega) _).mono ?_;rintro r w' ⟨v',x,z,rfl,hd,hxl,hz,hs⟩;exact⟨v',z,rfl,.inr (.inr (.inl ⟨.inr e,o.how.toNat,x,by omega,hd,hxl,hz⟩)),hs⟩
theorem yH {width:Nat} (hw:width≤32768):∀ (L:List (List Nat)) (acc:List Nat),(∀ l∈L,gF width l)→(bj width L acc).length≤acc.length+130000*L.length:=by
 intro L
 induction L with
 | nil=>intro acc _;simp [bj]
 | cons l r ih=>
  intro acc h;rw[bj];have h1:=ih (dn (acc++cE false (bY 0 l width))) (fun x hx=>h x (by simp [hx]));have h2:=rM (acc++cE false (bY 0 l width));have h3:=oR (h l (by simp)) hw;rw[ae] at h2;rw[aK];omega
theorem lL {W:Nat} (hw:W≤400) {L:List (List UInt8)} (h:∀ X∈L,(W+7)/8≤X.length):∀ l∈cu W L,gF W l:=by
 intro l hl;obtain⟨X,hX,rfl⟩:=bW.1 hl;have:=h X hX;exact ww (by rw[aJ,eg];omega) hw
theorem yI (two al fin:Bool) (acc:List Nat):(jH two al fin acc).length≤acc.length+120:=by
 cases fin
 ·exact p9 _ _
 ·have h1:=dO two al true acc;have h2:=dO two false true (ak two al true acc);have h3:=dO two false true (ak two false true (ak two al true acc));have h4:=dO two false true (ak two false true (ak two false true (ak two al true acc)));have h5:=dO two false true (ak two false true (ak two false true (ak two false true (ak two al true acc))));have h6:=dO two false true (ak two false true (ak two false true (ak two false true (ak two false true (ak two al true acc)))));have e:jH two al true acc=ak two false true (ak two false true (ak two false true (ak two false true (ak two false true (ak two al true acc))))):=rfl;rw[e];omega
theorem TellS.len {o:Opt} {W:Nat} {L:List (List UInt8)} {z:List UInt8} (h:TellS o W L z) (hN:L.length≤300) (hJ:(aH L).length≤1000000) (hw:W≤400) (hfx:o.scheme=2∨o.scheme=3∨o.scheme=4→∀ X∈L,(W+7)/8≤X.length):z.length≤1000000000:=by
 have hcl:(cu W L).length=L.length:=by rw[cu,bI]
 rcases h with ⟨_,rfl⟩ | ⟨_,rfl⟩ | ⟨_,hw,x,_,_,hx,rfl⟩ | ⟨_,h⟩ | ⟨e,rfl⟩ | ⟨e,rfl⟩ | ⟨e,rfl⟩
 ·omega
 ·rw[dm];have:=mu (aH L);omega
 ·simp only[aK,ae,dm,jV];omega
 ·have:=h.len;omega
 ·have:=yH (by omega:W≤32768) (cu W L) [] (lL hw (hfx (by omega)));rw[dm];simp only[bD] at this;omega
 ·have:=wi hw (two:=o.two) (al:=o.al) (every:=o.every) (cu W L) 0 [] [] (lL hw (hfx (by omega))) ⟨List.Pairwise.nil,fun x hx=>by cases hx⟩;have h2:=yI o.two o.al o.fin (dF W o.two o.al o.every 0 [] (cu W L) []);rw[dm,fD];simp only[bD] at this;omega
 ·have:=wh hw (cu W L) [] (lL hw (hfx (by omega))) ⟨List.Pairwise.nil,fun x hx=>by cases hx⟩;have h2:jh.length=24:=by decide
  rw[dm,iM,ae];omega
theorem sL {w:World} {a b:List Nat} {va vb:Value} (ha:Reads w 1 va a.length (a.map uv)) (hb:Reads w 1 vb b.length (b.map uv)) (hl:a.length≤1000000) (hla:∀ x∈a,x<4294967296) (hlb:∀ x∈b,x<4294967296):
  Calls Tryz.prog 11 #[va,vb] w fun e w'=>e= .returned (.bool (decide (a=b)))∧∃ q,w'=w.drewN q:=by
 obtain⟨aa,ca,rfl⟩:=ha.sub;obtain⟨ab,cb,rfl⟩:=hb.sub
 by_cases hne:a.length=b.length
 rotate_left
 ·have hd:decide (a=b)=false:=decide_eq_false fun e=>hne (by rw[e])
  have hneI:¬ (a.length:Int)=b.length:=by omega
  rw[hd];clear ha hb hne;go_enter Tryz.func11,Tryz.ntmps11;go_wp2_with fail;go_ret;exact⟨rfl,0,rfl⟩
 obtain⟨n,hn⟩:∃ n,a.length=n:=⟨_,rfl⟩;rw[← hne,hn] at hb;rw[hn] at ha hl hne ⊢;have HA:=ac ha;have HB:=ac hb;have HN:=ac hn;have HNE:=ac hne;obtain⟨res,hres⟩:∃ res,decide (a=b)=res:=⟨_,rfl⟩;rw[← hne];rw[hres];have HR:=ac hres;clear ha hb hn hne hres;go_enter Tryz.func11,Tryz.ntmps11;go_wp2_with fail
 go_loopw [5] (fun vi wr=>∃ (k q:Nat),k≤n∧vi= .int .i64 k∧wr=w.drewN q∧RowKit.Hid (a.take k=b.take k)) (fun vi _=>n-(intOf vi).toNat)
 case atStart=>exact⟨0,0,Nat.zero_le _,rfl,rfl,ac rfl⟩
 case round=>
  obtain⟨k,q,hk,rfl,rfl,hQ⟩:=hrel
  by_cases hkn:k<n
  ·have hkI:(k:Int)<n:=by omega
   obtain⟨x,hx⟩:∃ x,a[k]? =some x:=⟨a[k]'(by rw[HN.out];exact hkn),ai _⟩;obtain⟨y,hy⟩:∃ y,b[k]? =some y:=⟨b[k]'(by rw[← HNE.out];exact hkn),ai _⟩;obtain⟨ga,oa,rfl,ha⟩:=HA.out.at_ hkn;obtain⟨gb,ob,rfl,hb⟩:=HB.out.at_ hkn;rw[au,hx] at ha;rw[au,hy] at hb;simp only[cB,uv] at ha hb;have ha:(w.drewN q).cell? ⟨ga,oa+k,none⟩=some (.int .u32 (x:Int)):=ha;have hb:(w.drewN q).cell? ⟨gb,ob+k,none⟩=some (.int .u32 (y:Int)):=hb
   by_cases he:x=y
   ·have HQ:=ac (show a.take (k+1)=b.take (k+1) by rw[fZ hx,fZ hy,hQ.out,he]);have heI:(x:Int)=y:=by omega
    clear hx hy hQ;go_upto_region 6 with (fail)
    go_region
    go_wp2_with fail;exact⟨⟨k+1,q+1,by omega,by go_num,by rw[← World.drewN_drewN],HQ⟩,by simp [intOf];omega⟩
   ·have heI:¬ (x:Int)=y:=by omega
    have HF:=ac (show res=false by
     rw[← HR.out];exact decide_eq_false fun e=>he (by rw[e,hy] at hx;exact(gm hx).symm))
    clear hx hy hQ he;go_upto_region 6 with (fail)
    go_region
    go_wp2_with fail;go_ret;exact⟨by rw[HF.out];rfl,q+1,by rw[← World.drewN_drewN]⟩
  ·obtain rfl:k=n:=by omega
   have HT:=ac (show res=true by
    rw[← HR.out];refine decide_eq_true ?_;have h:=hQ.out;rw[← HN.out,cI,HN.out,HNE.out,cI] at h;exact h)
   go_wp2_with fail;go_ret;exact⟨by rw[HT.out];rfl,q,rfl⟩
theorem IH {w0 w:World} {F:SProp} (h:St w0 w F) (o:Opt) (per wide:Int):
  Calls Tryz.prog 10 #[.int .i64 per,.int .i64 wide,o.v] w fun r w'=>r= .returned (.bool (o.legal per wide))∧St w0 w' F:=by
 obtain⟨big,large,tiled,ow,oh,planar,n,predict,low,two,every,al,fin,how⟩:=o;simp only[Opt.v,Opt.legal];have h0:=h.alloc (.cells #[.bool big,.bool large,.bool tiled,.int .i64 ow,.int .i64 oh,.bool planar,.int .i64 n,.bool predict,.bool low,.bool two,.int .i64 every,.bool al,.bool fin,.int .i64 how] 28);have k6:=h0.cell 6 rfl;have k7:=h0.cell 7 rfl;have k9:=h0.cell 9 rfl;have k10:=h0.cell 10 rfl;have k13:=h0.cell 13 rfl;have H:=ac h0;clear h h0
 by_cases hS:eL n=true
 have hn:n=1∨n=2∨n=3∨n=4∨n=5∨n=8∨n=32773∨n=32946:=by simp [eL] at hS;omega
 clear hS
 rcases hn with rfl | rfl | rfl | rfl | rfl | rfl | rfl | rfl
 by_cases a1:1≤per
 have a1':¬ per<1:=by omega
 by_cases a2:per≤8
 have a2':¬ 8<per:=by omega
 by_cases a3:1≤wide
 have a3':¬ wide<1:=by omega
 by_cases a4:wide≤32
 have a4':¬ 32<wide:=by omega
 cases predict;rotate_left;rotate_left;have a4':32<wide:=by omega
 have a3'':¬ wide<1:=by omega
 rotate_left;have a3':wide<1:=by omega
 rotate_left;have a2':8<per:=by omega
 have a1'':¬ per<1:=by omega
 rotate_left;have a1':per<1:=by omega
 rotate_left
 by_cases a1:1≤per
 have a1':¬ per<1:=by omega
 by_cases a2:per≤8
 have a2':¬ 8<per:=by omega
 by_cases a3:1≤wide
 have a3':¬ wide<1:=by omega
 by_cases a4:wide≤32
 have a4':¬ 32<wide:=by omega
 by_cases f1:per=1
 subst f1
 by_cases f2:wide=1
 subst f2;cases predict;rotate_left;rotate_left;rotate_left;rotate_left;have a4':32<wide:=by omega
 have a3'':¬ wide<1:=by omega
 rotate_left;have a3':wide<1:=by omega
 rotate_left;have a2':8<per:=by omega
 have a1'':¬ per<1:=by omega
 rotate_left;have a1':per<1:=by omega
 rotate_left
 by_cases a1:1≤per
 have a1':¬ per<1:=by omega
 by_cases a2:per≤8
 have a2':¬ 8<per:=by omega
 by_cases a3:1≤wide
 have a3':¬ wide<1:=by omega
 by_cases a4:wide≤32
 have a4':¬ 32<wide:=by omega
 by_cases f1:per=1
 subst f1
 by_cases f2:wide=1
 subst f2;cases two;cases predict;rotate_left;rotate_left
 by_cases q1:every<1
 rotate_left;have q2:1≤every:=by omega
 cases predict;rotate_left;rotate_left;rotate_left;rotate_left;have a4':32<wide:=by omega
 have a3'':¬ wide<1:=by omega
 rotate_left;have a3':wide<1:=by omega
 rotate_left;have a2':8<per:=by omega
 have a1'':¬ per<1:=by omega
 rotate_left;have a1':per<1:=by omega
 rotate_left
 by_cases a1:1≤per
 have a1':¬ per<1:=by omega
 by_cases a2:per≤8
 have a2':¬ 8<per:=by omega
 by_cases a3:1≤wide
 have a3':¬ wide<1:=by omega
 by_cases a4:wide≤32
 have a4':¬ 32<wide:=by omega
 by_cases f1:per=1
 subst f1
 by_cases f2:wide=1
 subst f2;cases predict;rotate_left;rotate_left;rotate_left;rotate_left;have a4':32<wide:=by omega
 have a3'':¬ wide<1:=by omega
 rotate_left;have a3':wide<1:=by omega
 rotate_left;have a2':8<per:=by omega
 have a1'':¬ per<1:=by omega
 rotate_left;have a1':per<1:=by omega
 rotate_left
 by_cases a1:1≤per
 have a1':¬ per<1:=by omega
 by_cases a2:per≤8
 have a2':¬ 8<per:=by omega
 by_cases a3:1≤wide
 have a3':¬ wide<1:=by omega
 by_cases a4:wide≤32
 have a4':¬ 32<wide:=by omega
 cases predict;rotate_left
 by_cases p8:wide=8
 subst p8;rotate_left;have p8b:(wide != 8)=true:=by simpa using p8
 by_cases p16:wide=16
 subst p16;rotate_left;have p16b:(wide != 16)=true:=by simpa using p16
 by_cases p32:wide=32
 subst p32;rotate_left;have p32b:(wide != 32)=true:=by simpa using p32
 rotate_left;have a4':32<wide:=by omega
 have a3'':¬ wide<1:=by omega
 rotate_left;have a3':wide<1:=by omega
 rotate_left;have a2':8<per:=by omega
 have a1'':¬ per<1:=by omega
 rotate_left;have a1':per<1:=by omega
 rotate_left
 by_cases a1:1≤per
 have a1':¬ per<1:=by omega
 by_cases a2:per≤8
 have a2':¬ 8<per:=by omega
 by_cases a3:1≤wide
 have a3':¬ wide<1:=by omega
 by_cases a4:wide≤32
 have a4':¬ 32<wide:=by omega
 cases predict
 by_cases g1:0≤how
 have g1b:decide (0≤how)=true:=decide_eq_true g1
 by_cases g2:how≤2
 have g2b:decide (how≤2)=true:=decide_eq_true g2;rotate_left;have g2b:decide (how≤2)=false:=decide_eq_false g2;rotate_left;have g1b:decide (0≤how)=false:=decide_eq_false g1;rotate_left
 by_cases p8:wide=8
 subst p8
 by_cases g1:0≤how
 have g1b:decide (0≤how)=true:=decide_eq_true g1
 by_cases g2:how≤2
 have g2b:decide (how≤2)=true:=decide_eq_true g2;rotate_left;have g2b:decide (how≤2)=false:=decide_eq_false g2;rotate_left;have g1b:decide (0≤how)=false:=decide_eq_false g1;rotate_left;have p8b:(wide != 8)=true:=by simpa using p8
 by_cases p16:wide=16
 subst p16
 by_cases g1:0≤how
 have g1b:decide (0≤how)=true:=decide_eq_true g1
 by_cases g2:how≤2
 have g2b:decide (how≤2)=true:=decide_eq_true g2;rotate_left;have g2b:decide (how≤2)=false:=decide_eq_false g2;rotate_left;have g1b:decide (0≤how)=false:=decide_eq_false g1;rotate_left;have p16b:(wide != 16)=true:=by simpa using p16
 by_cases p32:wide=32
 subst p32
 by_cases g1:0≤how
 have g1b:decide (0≤how)=true:=decide_eq_true g1
 by_cases g2:how≤2
 have g2b:decide (how≤2)=true:=decide_eq_true g2;rotate_left;have g2b:decide (how≤2)=false:=decide_eq_false g2;rotate_left;have g1b:decide (0≤how)=false:=decide_eq_false g1;rotate_left;have p32b:(wide != 32)=true:=by simpa using p32
 rotate_left;have a4':32<wide:=by omega
 have a3'':¬ wide<1:=by omega
 rotate_left;have a3':wide<1:=by omega
 rotate_left;have a2':8<per:=by omega
 have a1'':¬ per<1:=by omega
 rotate_left;have a1':per<1:=by omega
 rotate_left
 by_cases a1:1≤per
 have a1':¬ per<1:=by omega
 by_cases a2:per≤8
 have a2':¬ 8<per:=by omega
 by_cases a3:1≤wide
 have a3':¬ wide<1:=by omega
 by_cases a4:wide≤32
 have a4':¬ 32<wide:=by omega
 cases predict;rotate_left;rotate_left;have a4':32<wide:=by omega
 have a3'':¬ wide<1:=by omega
 rotate_left;have a3':wide<1:=by omega
 rotate_left;have a2':8<per:=by omega
 have a1'':¬ per<1:=by omega
 rotate_left;have a1':per<1:=by omega
 rotate_left
 by_cases a1:1≤per
 have a1':¬ per<1:=by omega
 by_cases a2:per≤8
 have a2':¬ 8<per:=by omega
 by_cases a3:1≤wide
 have a3':¬ wide<1:=by omega
 by_cases a4:wide≤32
 have a4':¬ 32<wide:=by omega
 cases predict
 by_cases g1:0≤how
 have g1b:decide (0≤how)=true:=decide_eq_true g1
 by_cases g2:how≤2
 have g2b:decide (how≤2)=true:=decide_eq_true g2;rotate_left;have g2b:decide (how≤2)=false:=decide_eq_false g2;rotate_left;have g1b:decide (0≤how)=false:=decide_eq_false g1;rotate_left
 by_cases p8:wide=8
 subst p8
 by_cases g1:0≤how
 have g1b:decide (0≤how)=true:=decide_eq_true g1
 by_cases g2:how≤2
 have g2b:decide (how≤2)=true:=decide_eq_true g2;rotate_left;have g2b:decide (how≤2)=false:=decide_eq_false g2;rotate_left;have g1b:decide (0≤how)=false:=decide_eq_false g1;rotate_left;have p8b:(wide != 8)=true:=by simpa using p8
 by_cases p16:wide=16
 subst p16
 by_cases g1:0≤how
 have g1b:decide (0≤how)=true:=decide_eq_true g1
 by_cases g2:how≤2
 have g2b:decide (how≤2)=true:=decide_eq_true g2;rotate_left;have g2b:decide (how≤2)=false:=decide_eq_false g2;rotate_left;have g1b:decide (0≤how)=false:=decide_eq_false g1;rotate_left;have p16b:(wide != 16)=true:=by simpa using p16
 by_cases p32:wide=32
 subst p32
 by_cases g1:0≤how
 have g1b:decide (0≤how)=true:=decide_eq_true g1
 by_cases g2:how≤2
 have g2b:decide (how≤2)=true:=decide_eq_true g2;rotate_left;have g2b:decide (how≤2)=false:=decide_eq_false g2;rotate_left;have g1b:decide (0≤how)=false:=decide_eq_false g1;rotate_left;have p32b:(wide != 32)=true:=by simpa using p32
 rotate_left;have a4':32<wide:=by omega
 have a3'':¬ wide<1:=by omega
 rotate_left;have a3':wide<1:=by omega
 rotate_left;have a2':8<per:=by omega
 have a1'':¬ per<1:=by omega
 rotate_left;have a1':per<1:=by omega
 rotate_left;have hS0:eL n=false:=by simpa using hS
 have hne:n≠1∧n≠2∧n≠3∧n≠4∧n≠5∧n≠8∧n≠32773∧n≠32946:=by simp [eL] at hS;omega
 obtain⟨_,_,_,_,_,n8,n773,n946⟩:=hne;clear hS;have n8b:(n==8)=false:=by simpa using n8
 have n946b:(n==32946)=false:=by simpa using n946
 have n773b:(n==32773)=false:=by simpa using n773
 by_cases b1:n<1
 rotate_left;have b2:5<n:=by omega
 rotate_left
 all_goals
  generalize hV:fN _ _ _ _ _ _ _=V;have HV:=ac hV;clear hV;go_enter Tryz.func10,Tryz.ntmps10;go_wp2_with fail;go_ret;exact⟨congrArg (fun b=>Ending.returned (.bool b)) (by rw[← HV.out];first | (simp [fN,eL,ie,gP];done) | (simp [fN,eL,ie,gP];omega) | (simp [fN,eL,ie,gP, *];done) | (simp [fN,eL,ie,gP, *];omega) | (simp [fN, *];done)),H.out.right⟩
def II (w0:World) (F:SProp) (o:Opt) (W H per wide:Nat) (l:List Nat) (e:Ending) (w':World):Prop:=
 ((∀ x∈l,x<2^wide)→∃ v' z,e= .returned (.tuple #[v',.int .i64 0])∧TellS o W (bV o.predict o.big wide per (W*per) l H) z∧St w0 w' (own 5 1 v' z.length ((if o.low=true then z.map bK else z).map bv)*F))∧
 ((¬ ∀ x∈l,x<2^wide)→e= .returned (.tuple #[.slice none 0 0,.int .i64 7])∧St w0 w' F)
theorem IJ (predict big:Bool) {wide:Nat} (per:Nat) (row:List Nat):(gO predict big wide per row).length=(row.length*wide+7)/8:=by
 rw[gO,qT];cases predict <;> simp [kD]
theorem ns {L:List (List UInt8)} {c:Nat} (h:∀ X∈L,X.length=c):(aH L).length=L.length*c:=by
 induction L with
 | nil=>simp [aH]
 | cons X r ih=>
  have:=ih (fun Y hY=>h Y (by simp [hY]));have e:=h X (by simp);simp only[aH,ta,ae,aK] at*
  rw[this,e,dC];omega
theorem lM {predict big:Bool} {wide per n H:Nat} {l:List Nat} (hl:H*n=l.length):∀ X∈bV predict big wide per n l H,X.length=(n*wide+7)/8:=by
 intro X hX;obtain⟨y,hy,rfl⟩:=bW.1 hX;rw[gJ] at hy;rw[IJ,mA];rw[← hl,← dC];exact dW _ hy
theorem jL (predict big:Bool) (wide per n H:Nat) (l:List Nat):(bV predict big wide per n l H).length=H:=by rw[bV,bI,jQ]
theorem yJ {w0 w:World} {F:SProp} (h:St w0 w F) (htab:eu w0 F) {l:List Nat} {v:Value} (hv:Stb w0 F (fun w=>Reads w 1 v l.length (l.map uv))) (hb:∀ x∈l,x<4294967296) {W H per wide:Nat} (hl:H*(W*per)=l.length) (hl2:l.length≤2000) (hW:W≤400) (hH:H≤300) (o:Opt)
  (hcan:fp W H per=true) (hleg:o.legal per wide=true):
  Calls Tryz.prog 8 #[jY W H per wide v,o.v] w fun e w'=>II w0 F o W H per wide l e w':=by
 obtain⟨g1,g2,g3,g4,g5,g6,g7,g8,g9⟩:=pR hleg;have hW1:1≤W:=by simp [fp] at hcan;omega
 have hH1:1≤H:=by simp [fp] at hcan;omega
 have HC:=ac (fun w=>sK (W:Int) (H:Int) (per:Int) w);rw[hcan] at HC;have HRW:=ac (fun(G:SProp) (w:World) (h:St w0 w G) (hv:Stb w0 G (fun w=>Reads w 1 v l.length (l.map uv)))=>Br h hv hb (W:=W) (H:=H) (per:=per) (wide:=wide) (n:=W*per) hW1 (by omega) (by omega) (by omega) (by omega) (by omega) (by omega) rfl hl (by omega) o (fun hp=>by have:=g8 hp;omega));have HTL:=ac (fun(G:SProp) (w:World) (h:St w0 w G) (ht:eu w0 G) (R:List (Value × List UInt8)) (v':Value) (hv:Stb w0 G (fun w=>Reads w 1 v' R.length (R.map Prod.fst))) (hr:Stb w0 G (fun w=>∀ x∈R,Reads w 1 x.1 x.2.length (x.2.map bv))) (hR:R.map Prod.snd=bV o.predict o.big wide per (W*per) l H)=>by
  have hRl:R.length=H:=by rw[← jL o.predict o.big wide per (W*per) H l,← hR,bI]
  have hX:∀ x∈R,x.2.length=(W*per*wide+7)/8:=fun x hx=>lM hl _ (by rw[← hR];exact zq hx)
  have hb1:W*per*wide≤102400:=cX (dv (dv hW (by omega:per≤8)) (by omega:wide≤32)) (by decide);have hJ:(aH (R.map Prod.snd)).length≤1000000:=by
   rw[hR,ns (lM hl),jL];have e1:H*((W*per*wide+7)/8)≤H*(4*(W*per)+1):=iV _ (by have:W*per*wide≤W*per*32:=iV _ (by omega);omega);have e2:H*(4*(W*per)+1)=4*(H*(W*per))+H:=by rw[mb,mc];omega
   omega
  exact IG h ht (R:=R) (v:=v') hv hr (by omega) hW1 hW (fun x hx=>by rw[hX x hx];omega) hJ o hleg (fun hp hwd x hx=>by
   have hp':per=1:=by omega
   have hwd':wide=1:=by omega
   rw[hX x hx,hp',hwd'];omega) (ph:=(H:Int)) (pper:=(per:Int)) (pwide:=(wide:Int)) (pv:=v))
 have HLN:=ac (fun z (hz:TellS o W (bV o.predict o.big wide per (W*per) l H) z)=>hz.len (by rw[jL];exact hH)
  (by
   rw[ns (lM hl),jL];have e1:H*((W*per*wide+7)/8)≤H*(4*(W*per)+1):=iV _ (by have:W*per*wide≤W*per*32:=iV _ (by omega);omega);have e2:H*(4*(W*per)+1)=4*(H*(W*per))+H:=by rw[mb,mc];omega
   omega) hW (fun hs X hX=>by
   have hf:=g6 hs;have hp':per=1:=by omega
   have hwd':wide=1:=by omega
   rw[lM hl X hX,hp',hwd'];omega))
 have HLG:=ac (fun(G:SProp) (w:World) (h:St w0 w G)=>mB h o (per:Int) (wide:Int));rw[hleg] at HLG;obtain⟨m,hm⟩:∃ m,W*H=m:=⟨_,rfl⟩;have hmI:(W:Int)*(H:Int)=(m:Int):=by rw[← hm];simp
 have hkI:(m:Int)*(per:Int)=(l.length:Int):=by rw[← hl,← hm];simp [Int.mul_comm,Int.mul_left_comm,Int.mul_assoc]
 have hm2:m≤120000:=by rw[← hm];exact cX (dv hW hH) (by decide)
 obtain⟨rr,hrr⟩:∃ rr,bV o.predict o.big wide per (W*per) l H=rr:=⟨_,rfl⟩;rw[hrr] at HLN HTL;obtain⟨a0,c0,rfl⟩:=(hv w h).sub;have HV:=ac hv;have HT:=ac htab;have HRR:=ac hrr;obtain⟨L,hL⟩:∃ L,l.length=L:=⟨_,rfl⟩;rw[hL] at hkI hl2 HV HRW HTL ⊢;have HLL:=ac hL;clear hL hv htab hcan hleg g1 g2 g3 g4 g5 g6 g7 g8 g9 hm hl hrr hb;have h3:=fy h (.cells #[.int .i64 (W:Int),.int .i64 (H:Int),.int .i64 (per:Int),.int .i64 (wide:Int),.slice a0 L c0] 24) (.cells (bA o) 28);have f0:=h3.right.cell 0 rfl;have f1:=h3.right.cell 1 rfl;have f2:=h3.right.cell 2 rfl;have f3:=h3.right.cell 3 rfl;have f4:=h3.right.cell 4 rfl;have H3:=ac h3;clear h3 h;have hov:o.v= .agg (bA o):=rfl;simp only[jY,hov] at HRW HTL HLG ⊢;obtain⟨ob,hob⟩:∃ ob,bA o=ob:=⟨_,rfl⟩;have hobs:ob.size=14:=by rw[← hob];rfl
 have hob8:ob[8]? =some (.bool o.low):=by rw[← hob];rfl
 have HO8:=ac hob8;have HOS:=ac hobs;rw[hob] at HRW HTL HLG H3 f0 f1 f2 f3 f4 ⊢;clear hob hov hobs hob8;go_enter Tryz.func8,Tryz.ntmps8;go_wp2_with (first
  | (go_at_call 17;apply ag)
  | (refine eW rfl 24 _ rfl (H4.out.perm (af _ _ _)) rfl Tryz.underlying24 rfl (by show _=some 5;kernel_rfl) ?_)
  | (refine eW rfl 28 _ rfl H4.out rfl Tryz.underlying28 rfl (by rw[HOS.out];kernel_rfl) ?_)
  | (go_at_call 9;refine(HLG.out _ _ H3.out).mono ?_;rintro e w4 ⟨rfl,h4⟩;have H4:=ac h4;clear h4 f0 f1 f2 f3 f4 H3)
  | (refine eW rfl 28 _ rfl H3.out rfl Tryz.underlying28 rfl (by rw[HOS.out];kernel_rfl) ?_)
  | (go_at_call 16;refine(HC.out _).mono ?_;rintro e w1 ⟨rfl,rfl⟩))
 refine on ((HRW.out _ _ H4.out (fun w h=>HV.out w h.right.right)).mono ?_);rintro e w5 hd
 by_cases hall:∀ x∈l,x<2^wide
 ·obtain⟨v5,R,rfl,hR,h5⟩:=hd.1 hall;have HALL:=ac hall;have HTR:=ac (HTL.out _ _ h5 (fun w h=>HT.out w h.right.right.right.right) R v5 Stb.of_own (fun w h x hx=>Bn R _ h.right x hx) (hR.trans HRR.out));have hrr2:=hR.trans HRR.out;rw[hrr2] at HTR;have H5:=ac (h5.perm (show _=blk (w.heap.size+1) (.cells ob 28)*(blk w.heap.size (.cells #[.int .i64 (W:Int),.int .i64 (H:Int),.int .i64 (per:Int),.int .i64 (wide:Int),.slice a0 L c0] 24)*(own 32 1 v5 R.length (R.map Prod.fst)*(fh R*F))) by ac_rfl));clear hd hall hR hrr2 h5 H4 HRW HC HLG;go_wp2_with (first
   | (go_at_call 18;apply ag)
   | (refine eW rfl 24 _ rfl (H5.out.perm (af _ _ _)) rfl Tryz.underlying24 rfl (by show _=some 5;kernel_rfl) ?_)
   | (refine eW rfl 28 _ rfl H5.out rfl Tryz.underlying28 rfl (by rw[HOS.out];kernel_rfl) ?_))
  refine on (HTR.out.mono ?_);rintro e w6 ⟨v6,z,rfl,hz,h6⟩;have hzl:=HLN.out z hz;have HZ:=ac hz;have h6':=h6.perm (show _=blk (w.heap.size+1) (.cells ob 28)*(blk w.heap.size (.cells #[.int .i64 (W:Int),.int .i64 (H:Int),.int .i64 (per:Int),.int .i64 (wide:Int),.slice a0 L c0] 24)*(own 32 1 v5 R.length (R.map Prod.fst)*(fh R*(own 5 1 v6 z.length (z.map bv)*F)))) by ac_rfl);have k8:=h6'.cell 8 HO8.out;have HRV:=ac (tX h6' z (v:=v6) (fun w h=>h.right.right.right.right.reads) (by omega));have H6:=ac h6';clear h6 h6' hz HTR H5;cases hlow:o.low
  ·rw[hlow] at k8;go_wp2_with fail;go_ret2;refine⟨fun _=>⟨v6,z,rfl,by rw[HRR.out];exact HZ.out,?_⟩,fun hn=>absurd HALL.out hn⟩;rw[hlow];exact H6.out.right.right.right.right
  ·rw[hlow] at k8;go_wp2_with (go_at_call 19;refine HRV.out.mono ?_;rintro e w7 ⟨v7,rfl,h7⟩;have H7:=ac h7;clear h7);go_ret2;refine⟨fun _=>⟨v7,z,rfl,by rw[HRR.out];exact HZ.out,?_⟩,fun hn=>absurd HALL.out hn⟩;rw[hlow,if_pos rfl];have h8:=H7.out.perm (show _=blk (w.heap.size+1) (.cells ob 28)*(blk w.heap.size (.cells #[.int .i64 (W:Int),.int .i64 (H:Int),.int .i64 (per:Int),.int .i64 (wide:Int),.slice a0 L c0] 24)*(own 32 1 v5 R.length (R.map Prod.fst)*(fh R*(own 5 1 v6 z.length (z.map bv)*(own 5 1 v7 (z.map bK).length ((z.map bK).map bv)*F))))) by ac_rfl);rw[bI] at h8;exact h8.right.right.right.right.right
 ·obtain⟨rfl,h5⟩:=hd.2 hall;have HALL:=ac hall;have H5:=ac h5.right.right;clear hd hall h5 H4 HRW HC HLG;go_wp2_with fail;go_ret2;exact⟨fun ha=>absurd ha HALL.out,fun _=>⟨rfl,H5.out⟩⟩
theorem IK {w0 w:World} {F:SProp} (h:St w0 w F) {a0:Option Addr} {L c0:Nat} {W H per wide:Int} (o:Opt) (hcan:fp W H per=true) (hLk:(L:Int)=W*H*per) (hleg:o.legal per wide=false):
  Calls Tryz.prog 8 #[.agg #[.int .i64 W,.int .i64 H,.int .i64 per,.int .i64 wide,.slice a0 L c0],o.v] w fun e w'=>e= .returned (.tuple #[.slice none 0 0,.int .i64 10])∧St w0 w' F:=by
 have h3:=fy h (.cells #[.int .i64 W,.int .i64 H,.int .i64 per,.int .i64 wide,.slice a0 L c0] 24) (.cells (bA o) 28);have f0:=h3.right.cell 0 rfl;have f1:=h3.right.cell 1 rfl;have f2:=h3.right.cell 2 rfl;have f3:=h3.right.cell 3 rfl;have f4:=h3.right.cell 4 rfl;have HC:=ac (fun w=>sK W H per w);have HLG:=ac (fun(G:SProp) (w:World) (h:St w0 w G)=>mB h o per wide);rw[hleg] at HLG;rw[hcan] at HC;have H3:=ac h3;clear h3 h hleg;have hov:o.v= .agg (bA o):=rfl;have HOS:=ac (show(bA o).size=14 from rfl);rw[hov] at HLG ⊢;generalize bA o=ob at*
 clear hov;obtain⟨m,hm⟩:∃ m,W*H=m:=⟨_,rfl⟩;rw[hm] at hLk;simp only[fp,cS,decide_eq_true_eq] at hcan;have m1:0≤m:=by rw[← hm];exact qj (by omega) (by omega)
 have m2:m≤1073741824:=by rw[← hm];exact nF (nG hcan.2.2.1 hcan.2.2.2.1 (by omega) (by omega)) (by decide)
 have k2:(L:Int)≤8589934592:=by rw[hLk];exact nF (nG m2 hcan.2.2.2.2.2.1 (by omega) (by omega)) (by decide)
 have hLk2:=hLk.symm;clear hcan hLk;go_enter Tryz.func8,Tryz.ntmps8;go_wp2_with (first
  | (go_at_call 9;refine(HLG.out _ _ H3.out).mono ?_;rintro e w4 ⟨rfl,h4⟩;have H4:=ac h4;clear h4 f0 f1 f2 f3 f4 H3)
  | (refine eW rfl 28 _ rfl H3.out rfl Tryz.underlying28 rfl (by rw[HOS.out];kernel_rfl) ?_)
  | (go_at_call 16;refine(HC.out _).mono ?_;rintro e w1 ⟨rfl,rfl⟩))
 go_ret2;exact⟨rfl,H4.out.right.right⟩
theorem IL {P:List Nat} {W:Nat} (hb:Bit P) (hP:P.length=W):ay ((aF false (aq false P)).take W)=ay P:=by
 rw[rP hb,dn,lf hP]
theorem sM {Ps:List (List Nat)} {W:Nat} (hP:∀ P∈Ps,P.length=W∧Bit P):cu W (Ps.map (aq false))=Ps.map ay:=by
 rw[cu,eF];exact iU fun P h=>IL (hP P h).2 (hP P h).1
def UntOut (w0:World) (E F:SProp) (J:List UInt8) (e:Ending) (w':World):Prop:=
 ∃ v' G,e= .returned (.tuple #[v',.int .i64 0])∧St w0 w' (G*(E*F))∧Stb w0 (G*F) (fun w=>Reads w 1 v' J.length (J.map bv))
theorem UntOut.of_own {w0:World} {E F G:SProp} {J:List UInt8} {v':Value} {w':World} (h:St w0 w' (own 5 1 v' J.length (J.map bv)*(G*(E*F)))):UntOut w0 E F J (.returned (.tuple #[v',.int .i64 0])) w':=
 ⟨v',own 5 1 v' J.length (J.map bv)*G,rfl,h.perm (bk _ _ _).symm,fun w h=>(h.perm (bk _ _ _)).reads⟩
theorem IM {w:World} {a:Option Addr} {n c k:Nat} {bs:List UInt8} (h:Reads w 1 (.slice a n c) n (bs.map bv)) (hk:k≤n):Reads w 1 (.slice a k c) k ((bs.take k).map bv):=by
 cases a with
 | some x=>
  have:=kz h (Nat.zero_le k) hk;rw[jO,← kn] at this;have e2:x.add 0=x:=by simp [Addr.add]
  rw[e2] at this;simpa only[jP] using this
 | none=>
  obtain⟨hl,⟨e1,e2⟩ | ⟨x,cap,e1,_⟩⟩:=h
  ·cases e1;obtain rfl:k=0:=by omega
   exact nJ _ _
  ·cases e1
theorem IN {w0 w:World} {E F:SProp} (h:St w0 w (E*F)) {J t:List UInt8} {W H size:Nat} (hH:H≤1000) (hS:size≤1000000) {big large tiled planar predict low two al fin:Bool} {ow oh every how pper pwide:Int} {pv:Value} (hJ:size*H=J.length) (hJ1:1≤J.length) (hJ2:J.length≤1000000) {vb:Value} (hb:Stb w0 F (fun w=>Reads w 1 vb (J++t).length ((J++t).map bv))) (hl:(J++t).length≤100000000):
  Calls Tryz.prog 34 #[vb,.agg #[.int .i64 (W:Int),.int .i64 (H:Int),.int .i64 pper,.int .i64 pwide,pv],.agg #[.bool big,.bool large,.bool tiled,.int .i64 ow,.int .i64 oh,.bool planar,.int .i64 1,.bool predict,.bool low,.bool two,.int .i64 every,.bool al,.bool fin,.int .i64 how],.int .i64 (size:Int)] w fun e w'=>UntOut w0 E F J e w':=by
 have h3:=fy h (.cells #[.int .i64 (W:Int),.int .i64 (H:Int),.int .i64 pper,.int .i64 pwide,pv] 24) (.cells #[.bool big,.bool large,.bool tiled,.int .i64 ow,.int .i64 oh,.bool planar,.int .i64 1,.bool predict,.bool low,.bool two,.int .i64 every,.bool al,.bool fin,.int .i64 how] 28);have f6:=h3.cell 6 rfl;have k0:=h3.right.cell 0 rfl;have k1:=h3.right.cell 1 rfl;have hnI:(size:Int)*(H:Int)=(J.length:Int):=by rw[← hJ];simp
 have HB:=ac hb;obtain⟨a0,c0,rfl⟩:=(hb w h.right).sub;have H3:=ac h3;clear h3;have hle:J.length≤(J++t).length:=by rw[ae];omega
 obtain⟨b,off,e,_⟩:=(hb w h.right).at_ (show 0<(J++t).length by omega);cases e;have hcap:=(jz (hb w h.right)).1;have HR:=ac (fun w h=>show Reads w 1 (.slice (some ⟨b,off,none⟩) J.length c0) J.length (J.map bv) by
  have:=IM (HB.out w h) hle;rwa [pW] at this)
 obtain⟨tl,htl⟩:∃ tl,(J++t).length=tl:=⟨_,rfl⟩;rw[htl] at hle hl hcap HB ⊢;have hltI:¬ (tl:Int)<J.length:=by omega
 have hcI:(J.length:Int)≤c0:=by omega
 obtain⟨jl,hjl⟩:∃ jl,J.length=jl:=⟨_,rfl⟩;have HJL:=ac hjl;rw[hjl] at hnI hltI hcI HR;clear h hb htl hJ hjl hJ1 hJ2 hle;go_enter Tryz.func34,Tryz.ntmps34;go_wp2_with fail;go_ret2;exact⟨_,_,rfl,H3.out.perm (bk _ _ _).symm,fun w h=>by rw[HJL.out];exact HR.out _ h.right⟩
theorem IP {o:Opt} {per wide:Int} (h:o.legal per wide=true):({ o with how:=0,every:=1 }:Opt).legal per wide=true:=by
 simp only[Opt.legal,fN,cS] at h ⊢;obtain⟨⟨⟨⟨⟨⟨⟨⟨⟨h1,h2⟩,h3⟩,h4⟩,h5⟩,h6⟩,h7⟩,h8⟩,h9⟩,h10⟩:=h;exact⟨⟨⟨⟨⟨⟨⟨⟨⟨h1,h2⟩,h3⟩,h4⟩,h5⟩,h6⟩,by simp⟩,h8⟩,h9⟩,by simp⟩
theorem IQ (c:UInt8):bK (bK c)=c:=by
 have h:∀ k:Fin 256,bK (bK (UInt8.ofNat k.val))=UInt8.ofNat k.val:=by decide +kernel
 have:=h ⟨c.toNat,bh c⟩;simpa using this
theorem IR (z:List UInt8):(z.map bK).map bK=z:=by
 rw[eF]
 conv=>rhs;rw[← zr z]
 exact iU fun c _=>IQ c
theorem IS {L:List (List UInt8)} {c:Nat} (h:∀ X∈L,X.length=c) {y:Nat} {X:List UInt8} (hX:L[y]? =some X):((aH L).drop (y*c)).take c=X:=by
 have hy:y<L.length:=by
  rcases cf y L.length with h | h
  ·exact h
  ·rw[bg h] at hX;cases hX
 have e:L=L.take y++(X::L.drop (y+1)):=by
  have h2:=(eQ y L).symm;rw[cC hy] at h2;rw[ai hy] at hX;cases hX;exact h2
 have hl:(aH (L.take y)).length=y*c:=by
  rw[ns (fun Z hZ=>h Z (jo hZ)),aJ];congr 1;omega
 conv=>lhs;rw[e]
 rw[aH] at hl ⊢;rw[nA,ta,s6 hl,lf (h X (aG hX))]
theorem IT {predict big:Bool} {wide per n H:Nat} {l:List Nat} {y:Nat} (hy:y<H):(bV predict big wide per n l H)[y]? =some (gO predict big wide per (cD l n y)):=by
 rw[bV,au,fs hy];rfl
def IU (w0:World) (F:SProp) (W H per wide:Nat) (l:List Nat) (e:Ending) (w':World):Prop:=
 ∃ v',e= .returned (.tuple #[jY W H per wide v',.int .i64 0])∧St w0 w' (own 48 1 v' l.length (l.map uv)*F)
abbrev pC (W H per wide:Nat) (v:Value):Obj:= .cells #[.int .i64 (W:Int),.int .i64 (H:Int),.int .i64 (per:Int),.int .i64 (wide:Int),v] 24
abbrev rC:Obj:= .cells #[.int .i64 0,.int .i64 0,.int .i64 0,.int .i64 0,.slice none 0 0] 24
theorem IV {w0 w:World} {F:SProp} (h:St w0 w F) (htab:eu w0 F) {l:List Nat} {W H per wide:Nat} (hl:H*(W*per)=l.length) (hl2:l.length≤2000) (hW:W≤400) (hH:H≤300) (hall:∀ x∈l,x<2^wide) (o:Opt)
  (hcan:fp W H per=true) (hleg:o.legal per wide=true) {z t:List UInt8} (hl9:(z++t).length≤100000000) {vb vp:Value}
  (hun:∀ (E F0:SProp) (t':List UInt8) (w:World),St w0 w (E*F0)→eu w0 F0→∀ (vb':Value),Stb w0 F0 (fun w=>Reads w 1 vb' (z++t').length ((z++t').map bv))→t'.length=t.length→Calls Tryz.prog 34 #[vb',.agg #[.int .i64 (W:Int),.int .i64 (H:Int),.int .i64 (per:Int),.int .i64 (wide:Int),vp],({ o with how:=0,every:=1 }:Opt).v,.int .i64 (((W*per*wide+7)/8:Nat):Int)] w fun e w'=>UntOut w0 E F0 (aH (bV o.predict o.big wide per (W*per) l H)) e w')
  (hb:Stb w0 F (fun w=>Reads w 1 vb ((if o.low=true then z.map bK else z)++t).length (((if o.low=true then z.map bK else z)++t).map bv))):
  Calls Tryz.prog 14 #[vb,jY W H per wide vp,o.v] w fun e w'=>IU w0 F W H per wide l e w':=by
 obtain⟨g1,g2,g3,g4,g5,g6,g7,g8,g9⟩:=pR hleg;have hW1:1≤W:=by simp [fp] at hcan;omega
 have hH1:1≤H:=by simp [fp] at hcan;omega
 have hper:1≤per∧per≤8:=by omega
 have hwd:1≤wide∧wide≤32:=by omega
 have HC:=ac (fun w=>sK (W:Int) (H:Int) (per:Int) w);rw[hcan] at HC;have HLG:=ac (fun(G:SProp) (w:World) (h:St w0 w G)=>mB h { o with how:=0,every:=1 } (per:Int) (wide:Int));rw[IP hleg] at HLG;have hn1:1≤W*per:=dv hW1 hper.1;have hnb:W*per≤3200:=dv hW hper.2;have hb1:W*per*wide≤102400:=dv hnb hwd.2;have hmem:=lM (predict:=o.predict) (big:=o.big) (wide:=wide) (per:=per) hl;have hLH:=jL o.predict o.big wide per (W*per) H l;have hJl:(aH (bV o.predict o.big wide per (W*per) l H)).length=H*((W*per*wide+7)/8):=by rw[ns hmem,hLH]
 have hJ2:(aH (bV o.predict o.big wide per (W*per) l H)).length≤1000000:=by
  rw[hJl];have e1:H*((W*per*wide+7)/8)≤H*(4*(W*per)+1):=iV _ (by have:W*per*wide≤W*per*32:=iV _ (by omega);omega);have e2:H*(4*(W*per)+1)=4*(H*(W*per))+H:=by rw[mb,mc];omega
  omega
 have hs1:1≤(W*per*wide+7)/8:=by have:1≤W*per*wide:=dv hn1 hwd.1;omega
 have hsb:(W*per*wide+7)/8≤1000000:=by omega
 have HUN:=ac hun;have HSZ:=ac (fun w=>mz (w:=w) (n:=W*per) (by omega) hwd.1 hwd.2);have HROW:=ac (fun y (hy:y<H)=>IS hmem (IT (predict:=o.predict) (big:=o.big) (wide:=wide) (per:=per) (n:=W*per) (l:=l) hy));have HRL:=ac (fun y (hy:y<H)=>mA (l:=l) (n:=W*per) (y:=y) (by rw[← hl,← dC];exact dW _ hy));have HRM:=ac (fun y x (hx:x∈cD l (W*per) y)=>hall x (n9 hx));have hpr:=g8;have hwI:(W:Int)*(per:Int)=((W*per:Nat):Int):=by simp
 have hmod:(W*per)%per=0:=za W per;obtain⟨n,hn⟩:∃ n,W*per=n:=⟨_,rfl⟩;rw[hn] at hl hn1 hnb hb1 hJl hJ2 hs1 hsb HUN HSZ HROW HRL HRM hwI hmod;obtain⟨sz,hsz⟩:∃ sz,(n*wide+7)/8=sz:=⟨_,rfl⟩;rw[hsz] at hJl hs1 hsb HUN HSZ HROW;clear g1 g2 g3 g4 g5 g6 g7 g8 g9 hmem hLH hleg hcan hun hn;have HLL:=ac hl;obtain⟨big,large,tiled,ow,oh,planar,scheme,predict,low,two,every,al,fin,how⟩:=o;simp only at HUN HLG HROW hJl hpr hJ2 hb;simp only[Opt.v,jY] at HUN HLG ⊢;obtain⟨J,hJ⟩:∃ J,aH (bV predict big wide per n l H)=J:=⟨_,rfl⟩;rw[hJ] at hJl HUN HROW hJ2;obtain⟨jl,hjl⟩:∃ jl,J.length=jl:=⟨_,rfl⟩;rw[hjl] at hJl hJ2;have HJL:=ac hJl;have HJE:=ac hjl;clear hJ hJl hjl;have T:=jX;have h3:=(fy h (pC W H per wide vp) (.cells #[.bool big,.bool large,.bool tiled,.int .i64 ow,.int .i64 oh,.bool planar,.int .i64 scheme,.bool predict,.bool low,.bool two,.int .i64 every,.bool al,.bool fin,.int .i64 how] 28)).alloc rC;have hz3:∀ o0 o1:Obj,((w.alloc o0).alloc o1).heap.size=w.heap.size+1+1:=fun o0 o1=>(gr _).trans (congrArg (· +1) (gr _))
 rw[hz3] at h3;have f0:=h3.right.right.cell 0 rfl;have f1:=h3.right.right.cell 1 rfl;have f2:=h3.right.right.cell 2 rfl;have h6:=(fy h (pC W H per wide vp) (.cells #[.bool big,.bool large,.bool tiled,.int .i64 ow,.int .i64 oh,.bool planar,.int .i64 scheme,.bool predict,.bool low,.bool two,.int .i64 1,.bool al,.bool fin,.int .i64 0] 28)).alloc rC;rw[hz3] at h6;have h6:=h6.perm (show _=blk (w.heap.size+1) (.cells #[.bool big,.bool large,.bool tiled,.int .i64 ow,.int .i64 oh,.bool planar,.int .i64 scheme,.bool predict,.bool low,.bool two,.int .i64 1,.bool al,.bool fin,.int .i64 0] 28)*(blk (w.heap.size+1+1) rC*(blk w.heap.size (pC W H per wide vp)*F)) by ac_rfl);have f2':=h6.right.right.cell 2 rfl;have f3':=h6.right.right.cell 3 rfl;have H6:=ac h6;clear h3 h6 hz3 h;simp only[pC,rC] at f0 f1 f2 f2' f3';go_enter Tryz.func14,Tryz.ntmps14;go_wp2_with (first
  | (go_at_call 9;apply ag)
  | (refine eW rfl 28 _ rfl H6.out rfl Tryz.underlying28 rfl (by show _=some 14;kernel_rfl) ?_)
  | (go_at_call 16;refine(HC.out _).mono ?_;rintro e w1 ⟨rfl,rfl⟩))
 refine on ((HLG.out _ _ H6.out).mono ?_);rintro e w4 ⟨rfl,h7⟩;generalize w.heap.size=gp at*
 obtain⟨B1,hB1⟩:∃ X,X=blk (gp+1) (.cells #[.bool big,.bool large,.bool tiled,.int .i64 ow,.int .i64 oh,.bool planar,.int .i64 scheme,.bool predict,.bool low,.bool two,.int .i64 1,.bool al,.bool fin,.int .i64 0] 28):=⟨_,rfl⟩;obtain⟨B2,hB2⟩:∃ X,X=blk (gp+1+1) rC:=⟨_,rfl⟩;rw[← hB1,← hB2] at h7;have HL1:=ac (fun(w:World) (A:SProp) (h:St w0 w (B1*A))=>show St w0 w (blk (gp+1) (.cells #[.bool big,.bool large,.bool tiled,.int .i64 ow,.int .i64 oh,.bool planar,.int .i64 scheme,.bool predict,.bool low,.bool two,.int .i64 1,.bool al,.bool fin,.int .i64 0] 28)*A) by rw[← hB1];exact h);have HL2:=ac (fun(w:World) (A:SProp) (h:St w0 w (B2*A))=>show St w0 w (blk (gp+1+1) rC*A) by rw[← hB2];exact h);have k8:=(HL1.out _ _ h7).cell 8 rfl;have e0:=h7.right.right.cell 0 rfl;have e2:=h7.right.right.cell 2 rfl;have e3:=h7.right.right.cell 3 rfl;clear hB1 hB2 f0 f1 f2 f2' f3' H6 HLG;obtain⟨F0,hF0⟩:∃ X,X=F:=⟨_,rfl⟩;obtain⟨t0,ht0⟩:∃ x,x=t:=⟨_,rfl⟩;have HLT:t0.length=t.length:=by rw[ht0]
 have HF:=ac (fun(A:SProp) (w:World) (h:St w0 w (A*F0))=>show St w0 w (A*F) by rw[← hF0];exact h);have HT:RowKit.Hid (eu w0 F0):=ac (by rw[hF0];exact htab);have H8:=ac h7;rw[← hF0] at H8;cases low
 case' false=>
  simp only[zu,if_false] at hb;have HB:=ac hb;rw[← hF0,← ht0] at HB;clear hF0 ht0 h7
 case' true=>
  simp only[if_true] at hb;have HRV:=ac (tX h7 (z.map bK++t) (v:=vb) (fun w h=>hb w h.right.right.right) (by rw[ae,bI,← ae];omega));have ert:(z.map bK++t).map bK=z++t.map bK:=by rw[List.map_append,IR]
  rw[ert] at HRV;clear ert hF0 ht0 h7 HF HT H8 HLT F0 t0
 all_goals
  go_wp2_with (first
   | (go_at_call 34;apply ag)
   | (go_at_call 33;refine(HSZ.out _).mono ?_;rintro e w5 ⟨rfl,rfl⟩)
   | (refine eW rfl 24 _ rfl (H8.out.perm (show _=blk gp (pC W H per wide vp)*(B1*(B2*F0)) by ac_rfl)) rfl Tryz.underlying24 rfl (by show _=some 5;kernel_rfl) ?_)
   | (refine eW rfl 28 _ rfl (HL1.out _ _ H8.out) rfl Tryz.underlying28 rfl (by show _=some 14;kernel_rfl) ?_)
   | (go_at_call 19;refine HRV.out.mono ?_;rintro e w6 ⟨v6,rfl,h8⟩;(obtain⟨t0,ht0⟩:∃ x,x=t.map bK:=⟨_,rfl⟩);(obtain⟨F0,hF0⟩:∃ X,X=own 5 1 v6 (z++t0).length ((z++t0).map bv)*F:=⟨_,rfl⟩);rw[← ht0] at h8;have HLT:t0.length=t.length:=(by rw[ht0,bI]);have HF:=ac (fun(A:SProp) (w:World) (h:St w0 w (A*F0))=>show St w0 w (A*F) by rw[hF0] at h;exact(h.perm (af _ _ _)).right);have HT:RowKit.Hid (eu w0 F0):=ac (by rw[hF0];exact fun w h=>htab w h.right);have HB:RowKit.Hid (Stb w0 F0 (fun w=>Reads w 1 v6 (z++t0).length ((z++t0).map bv))):=ac (by rw[hF0];exact Stb.of_own);have H8:=ac (h8.perm (show _=B1*(B2*(blk gp (pC W H per wide vp)*(own 5 1 v6 (z++t0).length ((z++t0).map bv)*F))) by ac_rfl));rw[← hF0] at H8;have e0:=H8.out.right.right.cell 0 rfl;have e2:=H8.out.right.right.cell 2 rfl;have e3:=H8.out.right.right.cell 3 rfl;clear h8 HRV hF0 ht0))
  refine on ((HUN.out (B1*(B2*blk gp (pC W H per wide vp))) F0 t0 _ (H8.out.perm (by simp only[bk])) HT.out _ HB.out HLT).mono ?_);rintro e w10 ⟨v10,G,rfl,h10,hrd⟩;rw[HJE.out] at hrd;obtain⟨a10,c10,rfl⟩:=(hrd _ (h10.perm (show _=(B1*(B2*blk gp (pC W H per wide vp)))*(G*F0) by ac_rfl)).right).sub;have h11:=h10.perm (show _=blk gp (pC W H per wide vp)*(B1*(B2*(G*F0))) by ac_rfl);have c4:=h11.cell 4 rfl;have r4:=h11.free 4;have h12:St w0 _ (blk gp (pC W H per wide (.slice none 0 0))*(B1*(B2*(G*F0)))):=h11.set 4 (.slice none 0 0);have d1:=h12.cell 1 rfl;have H12:=ac (St.own_nil 48 1 h12);have HRD:=ac hrd;clear h10 h11 h12 hrd k8 e0 e2 e3 H8 HSZ HUN HT HB HLT;go_wp2_with fail
  go_loopw [65] (fun vi wr=>∃ (y m:Nat) (ao:Option Addr) (co:Nat),y≤H∧vi= .int .i64 y∧RowKit.Hid (y*n=m)∧m≤l.length∧St w0 wr (own 48 1 (.slice ao m co) m ((l.take m).map uv)*(blk gp (pC W H per wide (.slice ao m co))*(B1*(B2*(G*F0)))))) (fun vi _=>H-(intOf vi).toNat)
  case atStart=>exact⟨0,0,none,0,Nat.zero_le _,rfl,ac (lS n),Nat.zero_le _,H12.out⟩
  case round=>
   clear H12 d1;obtain⟨y,m,ao,co,hy,rfl,hQ,hm,hst⟩:=hrel
   by_cases hyn:y<H
   ·have hyI:(y:Int)<H:=by omega
    obtain⟨ys,hys⟩:∃ ys,y*sz=ys:=⟨_,rfl⟩;have hJl':ys+sz≤jl:=by rw[HJL.out,← hys,← dC];exact dW _ hyn
    have hsI:(y:Int)*(sz:Int)=(ys:Int):=by rw[← hys];simp
    obtain⟨ys1,hys1⟩:∃ ys1,ys+sz=ys1:=⟨_,rfl⟩;have hsI1:((y:Int)+1)*(sz:Int)=(ys1:Int):=by rw[Int.add_mul,hsI,← hys1];simp
    have hys1b:ys1≤1000000:=by omega
    have hrd:=HRD.out _ (hst.perm (show _=(own 48 1 (.slice ao m co) m ((l.take m).map uv)*(blk gp (pC W H per wide (.slice ao m co))*(B1*B2)))*(G*F0) by ac_rfl)).right;obtain⟨b,off,ee,_⟩:=hrd.at_ (show 0<jl by omega);cases ee;have hcap:=(jz hrd).1;have hlo:(ys:Int)≤(ys1:Nat):=by omega
    have hhi:(ys1:Int)≤c10:=by omega
    have hcy:¬ c10=ys:=by omega
    have hsub:ys1-ys=sz:=by omega
    have hwn:IntKind.i64.wrap (n:Int)=n:=IntWalk.i64_in _ (by omega);have hwy:IntKind.i64.wrap ((y:Int)+1)=(y:Int)+1:=IntWalk.i64_in _ (by omega);have hwys:IntKind.i64.wrap (ys:Int)=ys:=IntWalk.i64_in _ (by omega);have hwys1:IntKind.i64.wrap (ys1:Int)=ys1:=IntWalk.i64_in _ (by omega);have hmn:m+n≤l.length:=by rw[← hl,← hQ.out,← dC];exact dW _ hyn
    have HTK:=ac (show l.take (m+n)=l.take m++cD l n y by rw[← hQ.out];exact uk l n y);have HMN:=ac (show(y+1)*n=m+n by rw[dC,hQ.out]);have hrow:=HROW.out y hyn;have HRLY:=ac (HRL.out y hyn);have HRMY:=ac (HRM.out y);obtain⟨R,hR⟩:∃ R,R=if predict=true then dp wide per (cD l n y) else cD l n y:=⟨_,rfl⟩
    have hRl:R.length=n:=by rw[hR];cases predict <;> simp [kD,HRLY.out]
    have hRm:∀ x∈R,x<2^wide:=by rw[hR];cases predict;exact HRMY.out;exact nY HRMY.out
    have hpl:(bF wide big R).length=sz:=by rw[qT,hRl,hsz]
    have HRB:=ac (fun(w:World) (h:St w0 w (G*F0))=>show Reads w 1 (.slice (some ⟨b,off+ys,none⟩) sz (c10-ys)) sz ((bF wide big R).map bv) by
     have:=BK (HRD.out w h) (i:=ys) (k:=sz) (by omega);rwa [← hys,hrow,hys,gO,← hR] at this)
    have HUP:=ac (fun(w:World) (h:St w0 w (own 48 1 (.slice ao m co) m ((l.take m).map uv)*(blk gp (pC W H per wide (.slice ao m co))*(B1*(B2*(G*F0))))))=>by
     have C:=IE h (row:=R) (t:=[]) (v:= .slice (some ⟨b,off+ys,none⟩) sz (c10-ys)) (wide:=wide) (big:=big) (fun w h=>by
      have h2:=HRB.out w (h.perm (show _=(own 48 1 (.slice ao m co) m ((l.take m).map uv)*(blk gp (pC W H per wide (.slice ao m co))*(B1*B2)))*(G*F0) by ac_rfl)).right;rw[bE,hpl];exact h2) (by omega) (by rw[bE,hpl];omega) hRm hwd.1 hwd.2
     rw[hRl] at C;exact C)
    have HR:=ac hR;have q0:=hst.right.cell 0 rfl;have q2:=hst.right.cell 2 rfl;have q3:=hst.right.cell 3 rfl;have p0:=(HL1.out _ _ hst.right.right).cell 0 rfl;have HST:=ac hst;clear hst hrd hrow hys hR hRl hRm hpl;go_upto_region 16 with (fail)
    refine wp_region_noPanic ?_;refine gB (S:=(fun w':World=>w'.cell? ⟨gp,0,none⟩=some (.int .i64 (W:Int))∧w'.cell? ⟨gp,2,none⟩=some (.int .i64 (per:Int))∧w'.cell? ⟨gp,3,none⟩=some (.int .i64 (wide:Int))∧w'.cell? ⟨gp+1,0,none⟩=some (.bool big))) (k:=18) (by kernel_rfl) ?_;have hS:(fun w':World=>w'.cell? ⟨gp,0,none⟩=some (.int .i64 (W:Int))∧w'.cell? ⟨gp,2,none⟩=some (.int .i64 (per:Int))∧w'.cell? ⟨gp,3,none⟩=some (.int .i64 (wide:Int))∧w'.cell? ⟨gp+1,0,none⟩=some (.bool big)) wr:=⟨q0,q2,q3,p0⟩;clear q0 q2 q3 p0;refine cM 10 [0,1,2,3,4,5,6,7,8,9] (by kernel_rfl) (fun _ _ _ h=>h) (by assumption) ?_
    iterate 10
     refine cL rfl rfl ⟨?_,fun w=> ?_,?_⟩;rotate_left
     ·(go_simp;try with_reducible rfl)
     simp only[Act.put,sA,sZ,sS]
    refine cK ?_;refine fe 13 (i:=10) (oi:= ?_) (v:= ?_) ?_ (by kernel_rfl) (by kernel_rfl) (by kernel_rfl) (by kernel_rfl) (by kernel_rfl) (by kernel_rfl) (by kernel_rfl) (by decide) (by decide) (by decide) (fun _ _ _ h=>h.elim) (by assumption) (.inl ⟨?_,fun w hSw=> ?_⟩) ?_;rotate_left 2
    ·(simp only[fq,cY,e7];rfl)
    ·rfl
    ·((try dsimp only at hSw);obtain⟨hs0,hs1,hs2,hs3⟩:=hSw;go_simp;try with_reducible rfl)
    simp only[Act.put,sA,sZ,sS];refine jA 11 rfl (by kernel_rfl) rfl (fun _ _ _ h=>h) (by assumption) ⟨?_,fun w=> ?_,?_⟩;rotate_left
    ·(go_simp;try with_reducible rfl)
    simp only[Act.put,sA,sZ,sS];refine fe 13 (i:=12) (oi:= ?_) (v:= ?_) ?_ (by kernel_rfl) (by kernel_rfl) (by kernel_rfl) (by kernel_rfl) (by kernel_rfl) (by kernel_rfl) (by kernel_rfl) (by decide) (by decide) (by decide) (fun _ _ _ h=>h.elim) (by assumption) (.inl ⟨?_,fun w hSw=> ?_⟩) ?_;rotate_left 2
    ·(simp only[fq,cY,e7];rfl)
    ·rfl
    ·((try dsimp only at hSw);obtain⟨hs0,hs1,hs2,hs3⟩:=hSw;go_simp;try with_reducible rfl)
    simp only[Act.put,sA,sZ,sS];refine cM 2 [13,14] (by kernel_rfl) (fun _ _ _ h=>h) (by assumption) ?_
    iterate 2
     refine cL rfl rfl ⟨?_,fun w=> ?_,?_⟩;rotate_left
     ·(go_simp;try with_reducible rfl)
     simp only[Act.put,sA,sZ,sS]
    refine cK ?_;refine gN 15 rfl (by kernel_rfl) rfl (fun _ _ _ h=>h) (by assumption) ⟨?_,fun w hSw=> ?_,?_⟩;rotate_left
    ·((try dsimp only at hSw);obtain⟨hs0,hs1,hs2,hs3⟩:=hSw;go_simp;try with_reducible rfl)
    simp only[Act.put,sA,sZ,sS];refine jA 16 rfl (by kernel_rfl) rfl (fun _ _ _ h=>h) (by assumption) ⟨?_,fun w=> ?_,?_⟩;rotate_left
    ·(go_simp;try with_reducible rfl)
    simp only[Act.put,sA,sZ,sS];refine gN 17 rfl (by kernel_rfl) rfl (fun _ _ _ h=>h) (by assumption) ⟨?_,fun w hSw=> ?_,?_⟩;rotate_left
    ·((try dsimp only at hSw);obtain⟨hs0,hs1,hs2,hs3⟩:=hSw;go_simp;try with_reducible rfl)
    simp only[Act.put,sA,sZ,sS];refine aW (i:=18) (by kernel_rfl) ?_;refine wpOp_step (by rfl) fun K hK=> ?_
    go_simp;refine(HUP.out _ HST.out.drew).mono ?_;rintro e w2 ⟨v2,rfl,h2⟩;have hS2:(fun w':World=>w'.cell? ⟨gp,0,none⟩=some (.int .i64 (W:Int))∧w'.cell? ⟨gp,2,none⟩=some (.int .i64 (per:Int))∧w'.cell? ⟨gp,3,none⟩=some (.int .i64 (wide:Int))∧w'.cell? ⟨gp+1,0,none⟩=some (.bool big)) w2:=⟨h2.right.right.cell 0 rfl,h2.right.right.cell 2 rfl,h2.right.right.cell 3 rfl,(HL1.out _ _ h2.right.right.right).cell 0 rfl⟩;refine hK _ _ ⟨fun e=>hS2,?_⟩;clear hK K hS;have hS:=hS2;refine cM 5 [19,20,21,22,23] (by kernel_rfl) (fun _ _ _ h=>h) (by assumption) ?_
    iterate 5
     refine cL rfl rfl ⟨?_,fun w=> ?_,?_⟩;rotate_left
     ·(go_simp;try with_reducible rfl)
     simp only[Act.put,sA,sZ,sS]
    refine cK ?_;refine⟨by kernel_rfl,NoPanic.normal ?_⟩;clear hS hS2 HST;obtain⟨a2,c2,rfl⟩:=h2.reads.sub;have q7:=(HL1.out _ _ h2.right.right.right).cell 7 rfl;have HR2:=HR.out;clear HR;cases predict
    case' false=>
     simp only[zu,if_false] at HR2;subst HR2;obtain⟨a3,ha3⟩:∃ a,a=a2:=⟨_,rfl⟩;obtain⟨c3,hc3⟩:∃ c,c=c2:=⟨_,rfl⟩;subst ha3 hc3;obtain⟨G',hG'⟩:∃ X,X=G:=⟨_,rfl⟩;have HG:=ac (fun(A:SProp) (w:World) (h:St w0 w (G'*A))=>show St w0 w (G*A) by rw[← hG'];exact h);have HX:=ac h2;rw[← hG'] at HX;clear h2 hG'
    case' true=>
     simp only[if_true] at HR2;subst HR2;have HUD:=ac (BE h2 (l:=cD l n y) (v:= .slice a2 n c2) (wide:=wide) (per:=per) (fun w h=>by rw[HRLY.out];exact h.reads) (by rw[HRLY.out];omega) HRMY.out (by have:=hpr rfl;omega) hper.1 (by omega) (by rw[HRLY.out];exact hmod));have q2:=h2.right.right.cell 2 rfl;have q3:=h2.right.right.cell 3 rfl;clear h2;go_wp2_with (go_at_call 36;apply ag);refine on (HUD.out.mono ?_);rintro e w3 ⟨v3,rfl,h3⟩;rw[HRLY.out] at h3;obtain⟨a3,c3,rfl⟩:=h3.reads.sub;clear HUD q2 q3 q7;obtain⟨G',hG'⟩:∃ X,X=own 48 1 (.slice a2 n c2) n ((dp wide per (cD l n y)).map uv)*G:=⟨_,rfl⟩;have HG:=ac (fun(A:SProp) (w:World) (h:St w0 w (G'*A))=>show St w0 w (G*A) by rw[hG',bk] at h;exact h.right);have HX:=ac (h3.perm (show _=own 48 1 (.slice a3 n c3) n ((cD l n y).map uv)*(own 48 1 (.slice ao m co) m ((l.take m).map uv)*(blk gp (pC W H per wide (.slice ao m co))*(B1*(B2*((own 48 1 (.slice a2 n c2) n ((dp wide per (cD l n y)).map uv)*G)*F0))))) by ac_rfl));rw[← hG'] at HX;clear h3 hG'
    all_goals
     have q4:=HX.out.right.right.cell 4 rfl;go_wp2_with (at_builtin;apply ag);refine on (aC T rfl _ _ rfl rfl (HX.out.perm (af _ _ _)) rfl HX.out.reads (nV _) (by unfold maxLen;omega) (by omega) ?_);intro v4 w4 h4 _;rw[← List.map_append,← HTK.out] at h4;obtain⟨a4,c4,rfl⟩:=h4.reads.sub;have h5:=h4.perm (show _=blk gp (pC W H per wide (.slice ao m co))*(own 48 1 (.slice a3 n c3) n ((cD l n y).map uv)*(G'*(own 48 1 (.slice a4 (m+n) c4) (m+n) ((l.take (m+n)).map uv)*(B1*(B2*F0))))) by ac_rfl);have s4:=h5.cell 4 rfl;have r4:=h5.free 4;have h6:St w0 _ (blk gp (pC W H per wide (.slice a4 (m+n) c4))*(own 48 1 (.slice a3 n c3) n ((cD l n y).map uv)*(G'*(own 48 1 (.slice a4 (m+n) c4) (m+n) ((l.take (m+n)).map uv)*(B1*(B2*F0)))))):=h5.set 4 (.slice a4 (m+n) c4);have h7:=(h6.perm (af _ _ _)).right;have H7:=ac (HG.out _ _ (h7.perm (af _ _ _)));clear h4 h5 h6 h7 HX;go_wp2_with fail;exact⟨⟨y+1,m+n,a4,c4,by omega,by go_num,HMN,hmn,H7.out.perm (by ac_rfl)⟩,by simp [intOf];omega⟩
   ·obtain rfl:y=H:=by omega
    have hml:m=l.length:=by rw[← hQ.out,HLL.out]
    rw[hml,cI] at hst;have HP8:=ac (hst.perm (af _ _ _));have HB8:=ac (HL2.out _ _ (hst.perm (show _=B2*(blk gp (pC W y per wide (.slice ao l.length co))*(B1*(own 48 1 (.slice ao l.length co) l.length (l.map uv)*(G*F0)))) by ac_rfl)));have HR8:=ac (HB8.out.setRow #[.int .i64 (W:Int),.int .i64 (y:Int),.int .i64 (per:Int),.int .i64 (wide:Int),.slice ao l.length co]);clear hst;go_wp2_with (first | (refine eW rfl 24 _ rfl HP8.out rfl Tryz.underlying24 rfl (by show _=some 5;kernel_rfl) ?_) | (refine np rfl 24 _ _ rfl HB8.out rfl rfl (by show _=some 5;kernel_rfl) rfl rfl ?_));refine cH rfl rfl HR8.out.at_ Tryz.underlying24 rfl (by show _=some 5;kernel_rfl) rfl ?_;exact⟨_,rfl,HF.out _ _ ((HR8.out.right.right.right.perm (af _ _ _)).right)⟩
theorem IW {P:Program} {w0 w:World} {F:SProp} {ops:Array Oper} {rest:List Oper} {o:Oper} {a:Act} {Q:Exit→Act→World→Prop} (hw:Region.wanted o (yielded ops a.tmps)=true) (ty:TypeId) (x:Operand) (ho:o.op= .load ty x)
  {g:Nat} {cs:Array Value} {e:TypeId} {fr:Nat × Nat} (h:St w0 w (blk g (.cells cs e fr)*F)) (hx:a.eval x= .pointer (some ⟨g,0,none⟩)) {d:TypeDesc}
  (hu:P.underlying ty=some d) (hd:(match d with | .struct _ | .array _ _=>true | _=>false)=true) (hi:(P.info? ty).map (·.size)=some cs.size)
  (hK:wpList P ops Q rest (a.put o.dst (.agg cs)) w):wpList P ops Q (o::rest) a w:=by
 unfold wpList;rw[if_pos hw];exact .inl (wp_load_row ty x ho g hx e cs fr d h.at_ hu hd hi hK)
theorem St.setRow_size (w:World) (b:Nat) (c:Array Value):(w.setRow b c).heap.size=w.heap.size:=by simp
def jM:Opt:=⟨false,false,false,0,0,false,1,false,false,false,0,false,false,0⟩
theorem IX {z:List UInt8} (h:TellS jM 2 (bV false false 8 1 (2*1) [7,9] 1) z):z=[7,9]:=by
 rcases h with ⟨_,rfl⟩ | ⟨e,_⟩ | ⟨e,_⟩ | ⟨e,_⟩ | ⟨e,_⟩ | ⟨e,_⟩ | ⟨e,_⟩
 ·decide
 all_goals first | (exact absurd e (by decide)) | (rcases e with e | e <;> exact absurd e (by decide))
theorem yK {w0 w:World} {F:SProp} (h:St w0 w F) (htab:eu w0 F):
  Calls Tryz.prog 7 #[] w fun e w'=>e= .returned (.bool true)∧St w0 w' F:=by
 have H:=ac h;have HT:=ac htab;clear h htab;go_enter Tryz.func7,Tryz.ntmps7;go_wp2_with (go_at_call 8;apply ag);have h1:=(H.out.alloc (.cells (bA jM) 28)).lit #[.int .u32 7,.int .u32 9] 48 2 rfl (by decide);rw[show(w.alloc (.cells (bA jM) 28)).heap.size=w.heap.size+1 from gr _] at h1;refine on ((yJ h1 (fun w h=>HT.out w h.right.right) (l:=[7,9]) (v:= .slice (some ⟨w.heap.size+1,0,none⟩) 2 2) (W:=2) (H:=1) (per:=1) (wide:=8) Stb.of_own (by decide) rfl (by decide) (by decide) (by decide) jM rfl rfl).mono ?_);rintro e w2 hd;obtain⟨v2,z,rfl,hz,h2⟩:=hd.1 (by decide);obtain rfl:=IX hz;have h2:St w0 w2 (own 5 1 v2 2 (([7,9]:List UInt8).map bv)*(own 48 1 (.slice (some ⟨w.heap.size+1,0,none⟩) 2 2) 2 (([7,9]:List Nat).map uv)*(blk w.heap.size (.cells (bA jM) 28)*F))):=h2;have H2:=ac h2;have HB2:=ac (h2.perm (show _=blk w.heap.size (.cells (bA jM) 28)*(own 5 1 v2 2 (([7,9]:List UInt8).map bv)*(own 48 1 (.slice (some ⟨w.heap.size+1,0,none⟩) 2 2) 2 (([7,9]:List Nat).map uv)*F)) by ac_rfl));have hJJ:aH (bV false false 8 1 (2*1) [7,9] 1)=[7,9]:=by decide
 have HO:=ac (IV (l:=[7,9]) (W:=2) (H:=1) (per:=1) (wide:=8) h2 (fun w h=>HT.out w h.right.right.right) (by decide) (by decide) (by decide) (by decide) (by decide) jM rfl rfl (z:=[7,9]) (t:=[]) (by decide) (vb:=v2) (vp:= .slice none 0 0)
  (fun E F0 t' w h ht vb' hb hlen=>by
   obtain rfl:t'=[]:=bC hlen;show Calls Tryz.prog _ _ _ fun e w'=>UntOut w0 E F0 (aH (bV false false 8 1 (2*1) [7,9] 1)) e w'
   rw[hJJ];exact IN h (by decide) (by decide) (by decide) (by decide) (by decide) hb (by decide)) Stb.of_own)
 clear hd h2 hz h1 H;generalize w.heap.size=gp at*
 go_wp2_with (first | (go_at_call 14;apply ag) | (refine eW rfl 28 _ rfl HB2.out rfl Tryz.underlying28 rfl (by show _=some 14;kernel_rfl) ?_));refine on (HO.out.mono ?_);rintro e w3 ⟨v3,rfl,h3⟩;obtain⟨a3,c3,rfl⟩:=h3.reads.sub;obtain⟨a2,c2,rfl⟩:=h3.right.reads.sub;have hz4:=h3.alloc (.cells #[.int .i64 0,.int .i64 0,.int .i64 0,.int .i64 0,.slice none 0 0] 24);have h4:St w0 _ (blk w3.heap.size (.cells #[.int .i64 2,.int .i64 1,.int .i64 1,.int .i64 8,.slice a3 2 c3] 24)*_):=hz4.setRow #[.int .i64 2,.int .i64 1,.int .i64 1,.int .i64 8,.slice a3 2 c3];have HZ4:=ac hz4;have q1:=lj (P:=Tryz.prog) (bs:=[7,9]) Tryz.underlying32 Tryz.underlying5 Tryz.underlying9 h4.right.right.reads;have k4:=h4.cell 4 rfl;have h5:=h4.lit #[.int .u32 7,.int .u32 9] 48 2 rfl (by decide);have e5:∀ (o:Obj) (c:Array Value),((w3.alloc o).setRow w3.heap.size c).heap.size=w3.heap.size+1:=fun o c=>(St.setRow_size (w3.alloc o) w3.heap.size c).trans (gr _)
 rw[e5] at h5;have HS:=ac (sL (a:=[7,9]) (b:=[7,9]) (va:= .slice a3 2 c3) h5.right.right.reads h5.reads (by decide) (by decide) (by decide));have H5:=ac h5;clear h3 h4 h5 HO H2 HB2 hz4 e5;have HLG:=ac (fun(G:SProp) (w:World) (h:St w0 w G)=>mB h jM 1 8);rw[show jM.legal 1 8=true from rfl] at HLG;go_wp2_with (first
  | (go_at_call 11;apply ag)
  | (refine np rfl 24 _ _ rfl HZ4.out rfl rfl (by show _=some 5;kernel_rfl) rfl rfl ?_))
 refine on (HS.out.mono ?_);rintro e w6 ⟨rfl,q,rfl⟩;have H6:=ac (H5.out.drewN q).right.right.right.right.right;clear HS;go_wp2_with (first
  | (go_at_call 9;refine(HLG.out _ _ H6.out).mono ?_;rintro e w7 ⟨rfl,h7⟩;have H7:=ac h7;clear h7 H6)
  | (refine IW rfl 28 _ rfl H6.out rfl Tryz.underlying28 rfl (by show _=some 14;kernel_rfl) ?_))
 go_ret;exact⟨rfl,H7.out.right⟩
def jN (l:List Nat) (wide:Int) (i:Nat):Nat:=if 1≤wide∧wide<32 then l.getD (i%l.length) 0%2^wide.toNat else l.getD (i%l.length) 0
def ea (l:List Nat) (wide:Int) (n:Nat):List Nat:=(List.range n).map (jN l wide)
theorem IY (l:List Nat) (wide:Int) (n:Nat):(ea l wide n).length=n:=by rw[ea,bI,jQ]
theorem lN (l:List Nat) (wide:Int) (n:Nat):ea l wide (n+1)=ea l wide n++[jN l wide n]:=by
 rw[ea,gX,List.map_append];rfl
theorem yL {l:List Nat} {m:Nat} (hm:0<m) (h:∀ x∈l,x<m) (i:Nat):l.getD i 0<m:=by
 rw[List.getD_eq_getElem?_getD];cases e:l[i]? with
 | none=>exact hm
 | some x=>exact h x (aG e)
theorem IZ {l:List Nat} {wide:Int} {n:Nat} (h:∀ x∈l,x<4294967296):∀ x∈ea l wide n,x<4294967296∧(1≤wide→wide≤32→x<2^wide.toNat):=by
 intro x hx;obtain⟨i,_,rfl⟩:=bW.1 hx;have h1:=yL (by decide) h (i%l.length);unfold jN
 by_cases c:1≤wide∧wide<32
 ·rw[if_pos c];have hp:=l8 wide.toNat;exact⟨jq (Nat.mod_le _ _) h1,fun _ _=>jv _ hp⟩
 ·rw[if_neg c];refine⟨h1,fun h2 h3=> ?_⟩;have:wide=32:=by omega
  subst this;exact h1
def sN (W H per:Int):Prop:=1≤W∧1≤H∧1≤per∧W≤60∧H≤30∧per≤8∧W*H*per≤1500
theorem I0 {w0 w:World} {F:SProp} (h:St w0 w F) {W H per wide:Int} {a0:Option Addr} {L c0:Nat} (hbad:¬ sN W H per):
  Calls Tryz.prog 6 #[.agg #[.int .i64 W,.int .i64 H,.int .i64 per,.int .i64 wide,.slice a0 L c0]] w fun e w'=>e= .returned (.tuple #[.agg #[.int .i64 W,.int .i64 H,.int .i64 per,.int .i64 wide,.slice a0 L c0],.bool false])∧St w0 w' F:=by
 have h3:=fy h (.cells #[.int .i64 W,.int .i64 H,.int .i64 per,.int .i64 wide,.slice a0 L c0] 24) (.cells #[.int .i64 0,.int .i64 0,.int .i64 0,.int .i64 0,.slice none 0 0] 24);have f0:=h3.right.cell 0 rfl;have f1:=h3.right.cell 1 rfl;have f2:=h3.right.cell 2 rfl;have HR8:=ac (fy h (.cells #[.int .i64 W,.int .i64 H,.int .i64 per,.int .i64 wide,.slice a0 L c0] 24) (.cells #[.int .i64 W,.int .i64 H,.int .i64 per,.int .i64 wide,.slice a0 L c0] 24));clear h3 h
 by_cases a0:1≤W
 rotate_left
 ·have b0:W<1:=by omega
  clear hbad;go_enter Tryz.func6,Tryz.ntmps6;go_wp2_with fail;refine cH rfl rfl HR8.out.at_ Tryz.underlying24 rfl (by show _=some 5;kernel_rfl) rfl ?_;exact⟨rfl,HR8.out.right.right⟩
 have b0:¬ W<1:=by omega
 by_cases a1:1≤H
 rotate_left
 ·have b1:H<1:=by omega
  clear hbad;go_enter Tryz.func6,Tryz.ntmps6;go_wp2_with fail;refine cH rfl rfl HR8.out.at_ Tryz.underlying24 rfl (by show _=some 5;kernel_rfl) rfl ?_;exact⟨rfl,HR8.out.right.right⟩
 have b1:¬ H<1:=by omega
 by_cases a2:1≤per
 rotate_left
 ·have b2:per<1:=by omega
  clear hbad;go_enter Tryz.func6,Tryz.ntmps6;go_wp2_with fail;refine cH rfl rfl HR8.out.at_ Tryz.underlying24 rfl (by show _=some 5;kernel_rfl) rfl ?_;exact⟨rfl,HR8.out.right.right⟩
 have b2:¬ per<1:=by omega
 by_cases a3:W≤60
 rotate_left
 ·have b3:60<W:=by omega
  clear hbad;go_enter Tryz.func6,Tryz.ntmps6;go_wp2_with fail;refine cH rfl rfl HR8.out.at_ Tryz.underlying24 rfl (by show _=some 5;kernel_rfl) rfl ?_;exact⟨rfl,HR8.out.right.right⟩
 have b3:¬ 60<W:=by omega
 by_cases a4:H≤30
 rotate_left
 ·have b4:30<H:=by omega
  clear hbad;go_enter Tryz.func6,Tryz.ntmps6;go_wp2_with fail;refine cH rfl rfl HR8.out.at_ Tryz.underlying24 rfl (by show _=some 5;kernel_rfl) rfl ?_;exact⟨rfl,HR8.out.right.right⟩
 have b4:¬ 30<H:=by omega
 by_cases a5:per≤8
 rotate_left
 ·have b5:8<per:=by omega
  clear hbad;go_enter Tryz.func6,Tryz.ntmps6;go_wp2_with fail;refine cH rfl rfl HR8.out.at_ Tryz.underlying24 rfl (by show _=some 5;kernel_rfl) rfl ?_;exact⟨rfl,HR8.out.right.right⟩
 have b5:¬ 8<per:=by omega
 have hm0:¬ W*H*per≤1500:=fun hp=>hbad ⟨a0,a1,a2,a3,a4,a5,hp⟩
 obtain⟨m,hm⟩:∃ m,W*H=m:=⟨_,rfl⟩;obtain⟨k,hk⟩:∃ k,m*per=k:=⟨_,rfl⟩;have m1:0≤m:=by rw[← hm];exact qj (by omega) (by omega)
 have m2:m≤1800:=by rw[← hm];exact nF (nG a3 a4 (by omega) (by omega)) (by decide)
 have k1:0≤k:=by rw[← hk];exact qj m1 (by omega)
 have k2:k≤14400:=by rw[← hk];exact nF (nG m2 a5 (by omega) (by omega)) (by decide)
 rw[hm,hk] at hm0;have hm1:1500<k:=by omega
 clear hbad;go_enter Tryz.func6,Tryz.ntmps6;go_wp2_with fail;refine cH rfl rfl HR8.out.at_ Tryz.underlying24 rfl (by show _=some 5;kernel_rfl) rfl ?_;exact⟨rfl,HR8.out.right.right⟩
theorem lO (w:World) (x:Int):Reads (w.alloc (.cells #[.int .u32 x] 48)) 1 (.slice (some ⟨w.heap.size,0,none⟩) 1 1) 1 [.int .u32 x]:=
 (St.own_blk (e:=48) (size:=1) (n:=1) (cap:=1) (xs:=[.int .u32 x]) ((St.init w).alloc _) (Nat.le_refl _) (by decide) rfl rfl).reads
theorem I1 {w0 w:World} {F:SProp} (h:St w0 w F) {W H per:Nat} {wide:Int} {l:List Nat} {v:Value} (hv:Stb w0 F (fun w=>Reads w 1 v l.length (l.map uv))) (hlt:∀ x∈l,x<4294967296) (hok:sN W H per) {n:Nat} (hn:W*H*per=n):
  Calls Tryz.prog 6 #[.agg #[.int .i64 (W:Int),.int .i64 (H:Int),.int .i64 (per:Int),.int .i64 wide,v]] w fun e w'=>∃ v',e= .returned (.tuple #[.agg #[.int .i64 (W:Int),.int .i64 (H:Int),.int .i64 (per:Int),.int .i64 wide,v'],.bool true])∧St w0 w' (own 48 1 v' n ((ea l wide n).map uv)*F):=by
 obtain⟨b0,b1,b2,b3,b4,b5,b6⟩:=hok;obtain⟨m,hm⟩:∃ m,W*H=m:=⟨_,rfl⟩;have hmI:(W:Int)*(H:Int)=(m:Int):=by rw[← hm];simp
 have hnI:(m:Int)*(per:Int)=(n:Int):=by rw[← hn,← hm];simp
 have hm2:m≤1800:=by rw[← hm];exact dv (by omega:W≤60) (by omega:H≤30)
 have hn2:n≤1500:=by have:=b6;rw[hmI,hnI] at this;omega
 obtain⟨L,hL⟩:∃ L,l.length=L:=⟨_,rfl⟩;rw[hL] at hv;obtain⟨a0,c0,rfl⟩:=(hv w h).sub;have hll:L≤9223372036854775807:=by have:=jz (hv w h);unfold maxLen at this;omega
 have h3:=fy h (.cells #[.int .i64 (W:Int),.int .i64 (H:Int),.int .i64 (per:Int),.int .i64 wide,.slice a0 L c0] 24) (.cells #[.int .i64 0,.int .i64 0,.int .i64 0,.int .i64 0,.slice none 0 0] 24);have f0:=h3.right.cell 0 rfl;have f1:=h3.right.cell 1 rfl;have f2:=h3.right.cell 2 rfl;have f4:=h3.right.cell 4 rfl;have h5:=(fy h (.cells #[.int .i64 (W:Int),.int .i64 (H:Int),.int .i64 (per:Int),.int .i64 wide,.slice none 0 0] 24) (.cells #[.int .i64 0,.int .i64 0,.int .i64 0,.int .i64 0,.slice none 0 0] 24)).perm (af _ _ _);have HV:=ac hv;have HLT:=ac hlt;have HLL:=ac hL;have H5:=ac (St.own_nil 48 1 h5);clear h h3 h5 hv hlt hL hm hn b6;have T:=jX;go_enter Tryz.func6,Tryz.ntmps6;go_wp2_with fail;clear f0 f1 f2 f4;generalize w.heap.size=gp at*
 go_loopw [58] (fun vi wr=>∃ (k:Nat) (ao:Option Addr) (co:Nat),k≤n∧vi= .int .i64 k∧St w0 wr (own 48 1 (.slice ao k co) k ((ea l wide k).map uv)*(blk gp (.cells #[.int .i64 (W:Int),.int .i64 (H:Int),.int .i64 (per:Int),.int .i64 wide,.slice ao k co] 24)*(blk (gp+1) (.cells #[.int .i64 0,.int .i64 0,.int .i64 0,.int .i64 0,.slice none 0 0] 24)*F)))) (fun vi _=>n-(intOf vi).toNat)
 case atStart=>exact⟨0,none,0,Nat.zero_le _,rfl,H5.out⟩
 case round=>
  clear H5;obtain⟨k,ao,co,hk,rfl,hst⟩:=hrel
  by_cases hkn:k<n
  ·have hkI:(k:Int)<n:=by omega
   have g3:=hst.right.cell 3 rfl;have g4:=hst.right.cell 4 rfl;have HST:=ac hst
   by_cases hL0:0<L
   ·have hL0I:(0:Int)<L:=by omega
    have hqL:k%L<L:=jv _ hL0;obtain⟨b,off,rfl,hc⟩:=(HV.out _ hst.right.right.right).at_ hqL;have hx:(l.map uv)[k%L]? =some (uv (l.getD (k%L) 0)):=by
     rw[au,List.getD_eq_getElem?_getD,ai (by rw[HLL.out];exact hqL)];rfl
    rw[hx] at hc;simp only[uv] at hc;have hx32:=yL (by decide) HLT.out (k%L);obtain⟨q,hq⟩:∃ q,k%L=q:=⟨_,rfl⟩;have hqI:(k:Int)%(L:Int)=(q:Int):=by rw[← hq];simp
    have HX0:=ac (show l.getD (k%l.length) 0=l.getD q 0 by rw[HLL.out,hq]);rw[hq] at hc hx32 hqL;generalize l.getD q 0=x0 at*
    have hqLI:(q:Int)<L:=by omega
    clear hst hx hq
    by_cases hw:1≤wide∧wide<32
    ·obtain⟨wn,rfl⟩:=nI (show 0≤wide by omega);have hw1:(1:Int)≤wn:=hw.1;have hw2:(wn:Int)<32:=hw.2;obtain⟨x,hx⟩:∃ x,x0%2^wn=x:=⟨_,rfl⟩;have HXV:=ac (show jN l (wn:Int) k=x by rw[jN,if_pos hw,HX0.out];exact hx);have hp:=l8 wn;have hp2:2^wn<4294967296:=J6 (by decide) (show wn<32 by omega);have hpI:(2:Int)^wn=((2^wn:Nat):Int):=by simp
     have hxI:(x0:Int)%(2:Int)^wn=(x:Int):=by rw[hpI,← hx];simp
     obtain⟨p2,hp2e⟩:∃ p2:Nat,2^wn=p2:=⟨_,rfl⟩;rw[hpI] at hxI;rw[hp2e] at hp hp2 hpI hxI;have hx32':x<4294967296:=by rw[← hx];exact jq (Nat.mod_le _ _) hx32
     have HXI:=ac hxI;clear hw hx hp2e hxI;go_wp2_with (at_builtin;apply ag);have h1:=HST.out.drop_alloc (.cells #[.int .u32 ((x0:Int)%(p2:Int))] 48);refine on (aC T rfl _ _ rfl rfl h1 rfl (lO wr ((x0:Int)%(p2:Int))) (by intro u hu;rw[List.mem_singleton.1 hu];rfl) (by unfold maxLen;omega) (by omega) ?_);intro v4 w4 h4 _;have h4:St w0 w4 (own 48 1 v4 (k+1) ((ea l (wn:Int) (k+1)).map uv)*(blk gp (.cells #[.int .i64 (W:Int),.int .i64 (H:Int),.int .i64 (per:Int),.int .i64 (wn:Int),.slice ao k co] 24)*(blk (gp+1) (.cells #[.int .i64 0,.int .i64 0,.int .i64 0,.int .i64 0,.slice none 0 0] 24)*F))):=by
      rw[HXI.out] at h4;rw[lN,HXV.out,List.map_append];exact h4
     obtain⟨a4,c4,rfl⟩:=h4.reads.sub;have h5:=h4.perm (af _ _ _);have s4:=h5.cell 4 rfl;have r4:=h5.free 4;have h6:St w0 _ (blk gp (.cells #[.int .i64 (W:Int),.int .i64 (H:Int),.int .i64 (per:Int),.int .i64 (wn:Int),.slice a4 (k+1) c4] 24)*(own 48 1 (.slice a4 (k+1) c4) (k+1) ((ea l (wn:Int) (k+1)).map uv)*(blk (gp+1) (.cells #[.int .i64 0,.int .i64 0,.int .i64 0,.int .i64 0,.slice none 0 0] 24)*F))):=h5.set 4 (.slice a4 (k+1) c4);have H7:=ac (h6.perm (af _ _ _));clear h1 h4 h5 h6 HST;go_wp2_with fail;exact⟨⟨k+1,a4,c4,by omega,by go_num,H7.out⟩,by simp [intOf];omega⟩
    ·have HXV:=ac (show jN l wide k=x0 by rw[jN,if_neg hw,HX0.out]);have hx32':=hx32;generalize x0=x at*
     by_cases hw1:1≤wide
     ·have hw2:¬ wide<32:=fun h=>hw ⟨hw1,h⟩
      clear hw;go_wp2_with (at_builtin;apply ag);have h1:=HST.out.drop_alloc (.cells #[.int .u32 ((x:Int))] 48);refine on (aC T rfl _ _ rfl rfl h1 rfl (lO wr ((x:Int))) (by intro u hu;rw[List.mem_singleton.1 hu];rfl) (by unfold maxLen;omega) (by omega) ?_);intro v4 w4 h4 _;have h4:St w0 w4 (own 48 1 v4 (k+1) ((ea l wide (k+1)).map uv)*(blk gp (.cells #[.int .i64 (W:Int),.int .i64 (H:Int),.int .i64 (per:Int),.int .i64 wide,.slice ao k co] 24)*(blk (gp+1) (.cells #[.int .i64 0,.int .i64 0,.int .i64 0,.int .i64 0,.slice none 0 0] 24)*F))):=by
       rw[lN,HXV.out,List.map_append];exact h4
      obtain⟨a4,c4,rfl⟩:=h4.reads.sub;have h5:=h4.perm (af _ _ _);have s4:=h5.cell 4 rfl;have r4:=h5.free 4;have h6:St w0 _ (blk gp (.cells #[.int .i64 (W:Int),.int .i64 (H:Int),.int .i64 (per:Int),.int .i64 wide,.slice a4 (k+1) c4] 24)*(own 48 1 (.slice a4 (k+1) c4) (k+1) ((ea l wide (k+1)).map uv)*(blk (gp+1) (.cells #[.int .i64 0,.int .i64 0,.int .i64 0,.int .i64 0,.slice none 0 0] 24)*F))):=h5.set 4 (.slice a4 (k+1) c4);have H7:=ac (h6.perm (af _ _ _));clear h1 h4 h5 h6 HST;go_wp2_with fail;exact⟨⟨k+1,a4,c4,by omega,by go_num,H7.out⟩,by simp [intOf];omega⟩
     ·clear hw;go_wp2_with (at_builtin;apply ag);have h1:=HST.out.drop_alloc (.cells #[.int .u32 ((x:Int))] 48);refine on (aC T rfl _ _ rfl rfl h1 rfl (lO wr ((x:Int))) (by intro u hu;rw[List.mem_singleton.1 hu];rfl) (by unfold maxLen;omega) (by omega) ?_);intro v4 w4 h4 _;have h4:St w0 w4 (own 48 1 v4 (k+1) ((ea l wide (k+1)).map uv)*(blk gp (.cells #[.int .i64 (W:Int),.int .i64 (H:Int),.int .i64 (per:Int),.int .i64 wide,.slice ao k co] 24)*(blk (gp+1) (.cells #[.int .i64 0,.int .i64 0,.int .i64 0,.int .i64 0,.slice none 0 0] 24)*F))):=by
       rw[lN,HXV.out,List.map_append];exact h4
      obtain⟨a4,c4,rfl⟩:=h4.reads.sub;have h5:=h4.perm (af _ _ _);have s4:=h5.cell 4 rfl;have r4:=h5.free 4;have h6:St w0 _ (blk gp (.cells #[.int .i64 (W:Int),.int .i64 (H:Int),.int .i64 (per:Int),.int .i64 wide,.slice a4 (k+1) c4] 24)*(own 48 1 (.slice a4 (k+1) c4) (k+1) ((ea l wide (k+1)).map uv)*(blk (gp+1) (.cells #[.int .i64 0,.int .i64 0,.int .i64 0,.int .i64 0,.slice none 0 0] 24)*F))):=h5.set 4 (.slice a4 (k+1) c4);have H7:=ac (h6.perm (af _ _ _));clear h1 h4 h5 h6 HST;go_wp2_with fail;exact⟨⟨k+1,a4,c4,by omega,by go_num,H7.out⟩,by simp [intOf];omega⟩
   ·have hL0I:¬ (0:Int)<L:=by omega
    have hl0:l=[]:=bC (by rw[HLL.out];omega);have HXV:=ac (show jN l wide k=0 by rw[jN,hl0];split <;> simp);clear hst hl0
    by_cases hw:1≤wide∧wide<32
    ·obtain⟨wn,rfl⟩:=nI (show 0≤wide by omega);have hw1:(1:Int)≤wn:=hw.1;have hw2:(wn:Int)<32:=hw.2;have hp:=l8 wn;have hp2:2^wn<4294967296:=J6 (by decide) (show wn<32 by omega);have hpI:(2:Int)^wn=((2^wn:Nat):Int):=by simp
     obtain⟨p2,hp2e⟩:∃ p2:Nat,2^wn=p2:=⟨_,rfl⟩;rw[hp2e] at hp hp2 hpI;clear hw hp2e;go_wp2_with (at_builtin;apply ag);have h1:=HST.out.drop_alloc (.cells #[.int .u32 (0)] 48);refine on (aC T rfl _ _ rfl rfl h1 rfl (lO wr (0)) (by intro u hu;rw[List.mem_singleton.1 hu];rfl) (by unfold maxLen;omega) (by omega) ?_);intro v4 w4 h4 _;have h4:St w0 w4 (own 48 1 v4 (k+1) ((ea l (wn:Int) (k+1)).map uv)*(blk gp (.cells #[.int .i64 (W:Int),.int .i64 (H:Int),.int .i64 (per:Int),.int .i64 (wn:Int),.slice ao k co] 24)*(blk (gp+1) (.cells #[.int .i64 0,.int .i64 0,.int .i64 0,.int .i64 0,.slice none 0 0] 24)*F))):=by
      rw[lN,HXV.out,List.map_append];exact h4
     obtain⟨a4,c4,rfl⟩:=h4.reads.sub;have h5:=h4.perm (af _ _ _);have s4:=h5.cell 4 rfl;have r4:=h5.free 4;have h6:St w0 _ (blk gp (.cells #[.int .i64 (W:Int),.int .i64 (H:Int),.int .i64 (per:Int),.int .i64 (wn:Int),.slice a4 (k+1) c4] 24)*(own 48 1 (.slice a4 (k+1) c4) (k+1) ((ea l (wn:Int) (k+1)).map uv)*(blk (gp+1) (.cells #[.int .i64 0,.int .i64 0,.int .i64 0,.int .i64 0,.slice none 0 0] 24)*F))):=h5.set 4 (.slice a4 (k+1) c4);have H7:=ac (h6.perm (af _ _ _));clear h1 h4 h5 h6 HST;go_wp2_with fail;exact⟨⟨k+1,a4,c4,by omega,by go_num,H7.out⟩,by simp [intOf];omega⟩
    ·by_cases hw1:1≤wide
     ·have hw2:¬ wide<32:=fun h=>hw ⟨hw1,h⟩
      clear hw;go_wp2_with (at_builtin;apply ag);have h1:=HST.out.drop_alloc (.cells #[.int .u32 (0)] 48);refine on (aC T rfl _ _ rfl rfl h1 rfl (lO wr (0)) (by intro u hu;rw[List.mem_singleton.1 hu];rfl) (by unfold maxLen;omega) (by omega) ?_);intro v4 w4 h4 _;have h4:St w0 w4 (own 48 1 v4 (k+1) ((ea l wide (k+1)).map uv)*(blk gp (.cells #[.int .i64 (W:Int),.int .i64 (H:Int),.int .i64 (per:Int),.int .i64 wide,.slice ao k co] 24)*(blk (gp+1) (.cells #[.int .i64 0,.int .i64 0,.int .i64 0,.int .i64 0,.slice none 0 0] 24)*F))):=by
       rw[lN,HXV.out,List.map_append];exact h4
      obtain⟨a4,c4,rfl⟩:=h4.reads.sub;have h5:=h4.perm (af _ _ _);have s4:=h5.cell 4 rfl;have r4:=h5.free 4;have h6:St w0 _ (blk gp (.cells #[.int .i64 (W:Int),.int .i64 (H:Int),.int .i64 (per:Int),.int .i64 wide,.slice a4 (k+1) c4] 24)*(own 48 1 (.slice a4 (k+1) c4) (k+1) ((ea l wide (k+1)).map uv)*(blk (gp+1) (.cells #[.int .i64 0,.int .i64 0,.int .i64 0,.int .i64 0,.slice none 0 0] 24)*F))):=h5.set 4 (.slice a4 (k+1) c4);have H7:=ac (h6.perm (af _ _ _));clear h1 h4 h5 h6 HST;go_wp2_with fail;exact⟨⟨k+1,a4,c4,by omega,by go_num,H7.out⟩,by simp [intOf];omega⟩
     ·clear hw;go_wp2_with (at_builtin;apply ag);have h1:=HST.out.drop_alloc (.cells #[.int .u32 (0)] 48);refine on (aC T rfl _ _ rfl rfl h1 rfl (lO wr (0)) (by intro u hu;rw[List.mem_singleton.1 hu];rfl) (by unfold maxLen;omega) (by omega) ?_);intro v4 w4 h4 _;have h4:St w0 w4 (own 48 1 v4 (k+1) ((ea l wide (k+1)).map uv)*(blk gp (.cells #[.int .i64 (W:Int),.int .i64 (H:Int),.int .i64 (per:Int),.int .i64 wide,.slice ao k co] 24)*(blk (gp+1) (.cells #[.int .i64 0,.int .i64 0,.int .i64 0,.int .i64 0,.slice none 0 0] 24)*F))):=by
       rw[lN,HXV.out,List.map_append];exact h4
      obtain⟨a4,c4,rfl⟩:=h4.reads.sub;have h5:=h4.perm (af _ _ _);have s4:=h5.cell 4 rfl;have r4:=h5.free 4;have h6:St w0 _ (blk gp (.cells #[.int .i64 (W:Int),.int .i64 (H:Int),.int .i64 (per:Int),.int .i64 wide,.slice a4 (k+1) c4] 24)*(own 48 1 (.slice a4 (k+1) c4) (k+1) ((ea l wide (k+1)).map uv)*(blk (gp+1) (.cells #[.int .i64 0,.int .i64 0,.int .i64 0,.int .i64 0,.slice none 0 0] 24)*F))):=h5.set 4 (.slice a4 (k+1) c4);have H7:=ac (h6.perm (af _ _ _));clear h1 h4 h5 h6 HST;go_wp2_with fail;exact⟨⟨k+1,a4,c4,by omega,by go_num,H7.out⟩,by simp [intOf];omega⟩
  ·obtain rfl:k=n:=by omega
   have h8:=hst.perm (show _=blk (gp+1) (.cells #[.int .i64 0,.int .i64 0,.int .i64 0,.int .i64 0,.slice none 0 0] 24)*(blk gp (.cells #[.int .i64 (W:Int),.int .i64 (H:Int),.int .i64 (per:Int),.int .i64 wide,.slice ao k co] 24)*(own 48 1 (.slice ao k co) k ((ea l wide k).map uv)*F)) by ac_rfl);have HP8:=ac (h8.perm (af _ _ _));have HB8:=ac h8;have HR8:=ac (h8.setRow #[.int .i64 (W:Int),.int .i64 (H:Int),.int .i64 (per:Int),.int .i64 wide,.slice ao k co]);clear hst h8;go_wp2_with (first | (refine eW rfl 24 _ rfl HP8.out rfl Tryz.underlying24 rfl (by show _=some 5;kernel_rfl) ?_) | (refine np rfl 24 _ _ rfl HB8.out rfl rfl (by show _=some 5;kernel_rfl) rfl rfl ?_));refine cH rfl rfl HR8.out.at_ Tryz.underlying24 rfl (by show _=some 5;kernel_rfl) rfl ?_;exact⟨_,rfl,HR8.out.right.right⟩
theorem I2:∀ {a b:List UInt8},aF false a=aF false b→a=b:=by
 intro a
 induction a with
 | nil=>
  intro b h;cases b with
  | nil=>rfl
  | cons c b=>have:=congrArg List.length h;rw[eg,eg] at this;simp at this
 | cons c a ih=>
  intro b h;cases b with
  | nil=>have:=congrArg List.length h;rw[eg,eg] at this;simp at this
  | cons d b=>
   have h:ap c.toNat 8++aF false a=ap d.toNat 8++aF false b:=h;obtain⟨h1,h2⟩:=List.append_inj h (by simp);have hcd:c.toNat=d.toNat:=by
    have e1:=mj c.toNat 8;have e2:=mj d.toNat 8;have l1:c.toNat<256:=bh c;have l2:d.toNat<256:=bh d;rw[h1,e2] at e1;omega
   rw[lc.1 hcd,ih h2]
theorem I3 (y:List UInt8):aq false (aF false y)=y:=by
 refine I2 ?_;rw[rP (kv false y),dn,eg];have:(8-8*y.length%8)%8=0:=by omega
 rw[this];simp
theorem I4 (c:UInt8):gK false (bK c)=gK true c:=by
 have h:=mq (ap c.toNat 8).reverse (da _ _).reverse;simp only[ko,dw] at h;simp only[gK,cond,tT,h]
theorem I5 (bs:List UInt8):aq false (aF true bs)=bs.map bK:=by
 have e:aF false (bs.map bK)=aF true bs:=by
  simp only[aF,List.flatMap_map]
  congr 1;funext c;exact I4 c
 rw[← e];exact I3 _
theorem I6 {w0 w:World} {F:SProp} (h:St w0 w F) (bs:List UInt8) (low:Bool) (hl:bs.length≤100000000) {s:ByteArray} (hs:s=⟨bs.toArray⟩):
  Calls Tryz.prog 25 #[.string s,.bool low] w fun e w'=>e= .returned (.string ⟨(if low=true then bs.map bK else bs).toArray⟩)∧St w0 w' F:=by
 subst hs;cases low with
 | false=>
  have H:=ac h;clear h;go_enter Tryz.func25,Tryz.ntmps25;go_wp2_with fail;go_ret;exact⟨rfl,H.out⟩
 | true=>
  have HOF:=ac (nM bs true h hl);have HRB:=ac (fun(w:World) (h:St w0 w F)=>jW (kv true bs) false h (by rw[eg];omega) rfl);rw[I5 bs] at HRB;clear h;go_enter Tryz.func25,Tryz.ntmps25;go_wp2_with (first
   | (go_at_call 56;refine HOF.out.mono ?_;rintro e w1 ⟨rfl,h1⟩;have H1:=ac h1;clear h1 HOF)
   | (go_at_call 55;refine(HRB.out _ H1.out).mono ?_;rintro e w2 ⟨rfl,h2⟩;have H2:=ac h2;clear h2 HRB H1))
  go_ret;exact⟨rfl,H2.out⟩
theorem sO (w:World) (s:ByteArray):Reads (w.alloc (.cells #[.string s] 9)) 1 (.slice (some ⟨w.heap.size,0,none⟩) 1 1) 1 [.string s]:=
 (St.own_blk (e:=9) (size:=1) (n:=1) (cap:=1) (xs:=[.string s]) ((St.init w).alloc _) (Nat.le_refl _) (by decide) rfl rfl).reads
theorem sP {w0 w:World} {F:SProp} (h:St w0 w F) {Ps:List (List Nat)} {v:Value} (hv:Stb w0 F (fun w=>Reads w 1 v Ps.length ((Ps.map (aq false)).map aQ))) {W:Nat} (hW:W≤400) (hP:∀ P∈Ps,P.length=W∧Bit P) (hN:Ps.length≤300):
  Calls Tryz.prog 27 #[v,.int .i64 (W:Int)] w fun e w'=>∃ v',e= .returned v'∧St w0 w' (own 9 1 v' Ps.length (Ps.map aD)*F):=by
 obtain⟨a0,c0,rfl⟩:=(hv w h).sub;obtain⟨N,hNN⟩:∃ N,Ps.length=N:=⟨_,rfl⟩;rw[hNN] at hv hN ⊢;have HV:=ac hv;have HP:=ac hP;have HNN:=ac hNN;have H1:=ac (St.own_nil 9 1 h);clear hv hP hNN h;have T:=mF;go_enter Tryz.func27,Tryz.ntmps27;go_wp2_with fail
 go_loopw [5,6] (fun vo vi wr=>∃ (k:Nat) (ao:Option Addr) (co:Nat),k≤N∧vi= .int .i64 (k:Int)∧vo= .slice ao k co∧St w0 wr (own 9 1 (.slice ao k co) k ((Ps.take k).map aD)*F)) (fun _ vi _=>N-(intOf vi).toNat)
 case atStart=>exact⟨0,none,0,Nat.zero_le _,rfl,rfl,H1.out⟩
 case round=>
  clear H1;obtain⟨k,ao,co,hk,rfl,rfl,hst⟩:=hrel
  by_cases hkn:k<N
  ·have hkI:(k:Int)<N:=by omega
   obtain⟨P,hx⟩:∃ P,Ps[k]? =some P:=⟨Ps[k]'(by rw[HNN.out];exact hkn),ai _⟩;obtain⟨b,off,rfl,hc⟩:=(HV.out _ hst.right).at_ hkn;rw[au,au,hx] at hc;replace hc:wr.cell? ⟨b,off+k,none⟩=some (.string ⟨(aq false P).toArray⟩):=hc;obtain⟨hPl,hPb⟩:=HP.out P (aG hx);obtain⟨X,hX⟩:∃ X,aF false (aq false P)=X:=⟨_,rfl⟩;have hXl:X.length=8*((W+7)/8):=by rw[← hX,eg,dm,hPl]
   have hXt:X.take W=P:=by rw[← hX,rP hPb,dn,lf hPl]
   have HOF:=ac (nM (aq false P) false hst (by rw[dm,hPl];omega));rw[hX] at HOF;have hex:ByteArray.extract ⟨(tx X).toArray⟩ 0 W=⟨(tx P).toArray⟩:=by
    rw[ByteArray.extract_mk (tx X) 0 W,jO,jP,mh,hXt]
   have hsz:(⟨(tx X).toArray⟩:ByteArray).size=8*((W+7)/8):=by show(tx X).length=_;rw[iY,hXl]
   have HTK:=ac (show(Ps.take (k+1)).map aD=(Ps.take k).map aD++[.string ⟨(tx P).toArray⟩] by rw[fZ hx,List.map_append];rfl);clear hst hx hX hXl hXt hPl hPb;generalize (⟨(tx X).toArray⟩:ByteArray)=tb at*
   generalize (⟨(tx P).toArray⟩:ByteArray)=pb at*
   generalize (⟨(aq false P).toArray⟩:ByteArray)=bb at*
   go_wp2_with (first | (at_builtin;apply ag) | (go_at_call 56;refine HOF.out.mono ?_;rintro e w2 ⟨rfl,h2⟩;have H2:=ac h2;clear h2 HOF hc));refine on (aC T rfl _ _ rfl rfl (H2.out.drop_alloc _) rfl (sO _ pb) (by intro u hu;rw[List.mem_singleton.1 hu];rfl) (by unfold maxLen;omega) (by omega) ?_);intro v4 w4 h4 _;have h4:St w0 w4 (own 9 1 v4 (k+1) ((Ps.take (k+1)).map aD)*F):=by rw[HTK.out];exact h4
   obtain⟨a4,c4,rfl⟩:=h4.reads.sub;have H4:=ac h4;clear h4 H2;go_wp2_with fail;exact⟨⟨k+1,a4,c4,by omega,by go_num,rfl,H4.out⟩,by simp [intOf];omega⟩
  ·obtain rfl:k=N:=by omega
   have hs:=hst;rw[← HNN.out,cI,HNN.out] at hs;have HST:=ac hs;clear hst hs;go_wp2_with fail;go_ret;exact⟨_,rfl,HST.out⟩
theorem I7 {w0 w:World} {F:SProp} (h:St w0 w F) {l:List Nat} {v:Value} (hv:Stb w0 F (fun w=>Reads w 1 v l.length (l.map uv))) {W H per wide:Nat} (hW:1≤W) (hW2:W≤400) (hH:H≤300) (hp:1≤per) (hp2:per≤8) (h1:1≤wide) (h2:wide≤32) (hl:H*(W*per)=l.length) (hl2:l.length≤2000) (hall:∀ x∈l,x<2^wide) (o:Opt) (hpr:o.predict=true→wide=8∨wide=16∨wide=32):
  Calls Tryz.prog 12 #[v,.int .i64 (W:Int),.int .i64 (H:Int),.int .i64 (per:Int),.int .i64 (wide:Int),o.v] w fun e w'=>∃ v',e= .returned (.tuple #[v',.int .i64 0])∧St w0 w' (own 9 1 v' H ((bV o.predict o.big wide per (W*per) l H).map aQ)*F):=by
 obtain⟨big,large,tiled,ow,oh,planar,scheme,predict,low,two,every,al,fin,how⟩:=o;simp only[Opt.v];simp only at hpr;have hmod:(W*per)%per=0:=za W per;have hnI:(W:Int)*(per:Int)=((W*per:Nat):Int):=by simp
 have hn1:1≤W*per:=dv hW hp;have hn2:W*per≤3200:=dv hW2 hp2;have HYW:=ac (fun y:Nat=>show y*W*per=y*(W*per) from iz _ _ _);obtain⟨n,hn⟩:∃ n,W*per=n:=⟨_,rfl⟩;rw[hn] at hmod hnI hn1 hn2 HYW hl ⊢;obtain⟨L,hL⟩:∃ L,l.length=L:=⟨_,rfl⟩;rw[hL] at hl hl2 hv;obtain⟨a0,c0,rfl⟩:=(hv w h).sub;have h3:=h.alloc (.cells #[.bool big,.bool large,.bool tiled,.int .i64 ow,.int .i64 oh,.bool planar,.int .i64 scheme,.bool predict,.bool low,.bool two,.int .i64 every,.bool al,.bool fin,.int .i64 how] 28);have HS:=ac (St.own_nil 9 1 h3);have HV:=ac hv;have HALL:=ac hall;have HLL:=ac hL;have HL:=ac hl;clear h hv hall h3 hL hn hl;have T:=mF;go_enter Tryz.func12,Tryz.ntmps12;go_wp2_with fail;generalize w.heap.size=gp at*
 go_loopw [14,15] (fun vo vi wr=>∃ (y:Nat) (ao:Option Addr) (co:Nat),y≤H∧vi= .int .i64 (y:Int)∧vo= .slice ao y co∧St w0 wr (own 9 1 (.slice ao y co) y ((bV predict big wide per n l y).map aQ)*(blk gp (.cells #[.bool big,.bool large,.bool tiled,.int .i64 ow,.int .i64 oh,.bool planar,.int .i64 scheme,.bool predict,.bool low,.bool two,.int .i64 every,.bool al,.bool fin,.int .i64 how] 28)*F))) (fun _ vi _=>H-(intOf vi).toNat)
 case atStart=>exact⟨0,none,0,Nat.zero_le _,rfl,rfl,HS.out⟩
 case round=>
  clear HS;obtain⟨y,ao,co,hy,rfl,rfl,hst⟩:=hrel
  by_cases hyn:y<H
  ·have hyI:(y:Int)<H:=by omega
   obtain⟨yn,hyn'⟩:∃ yn,y*n=yn:=⟨_,rfl⟩;have hle:yn+n≤L:=by rw[← hyn',← HL.out,← dC];exact dW _ hyn
   obtain⟨yw,hyw⟩:∃ yw,y*W=yw:=⟨_,rfl⟩;have hyw2:yw≤120000:=by rw[← hyw];exact dv (by omega:y≤300) hW2
   have hm0:(y:Int)*(W:Int)=(yw:Int):=by rw[← hyw];simp
   have hm1:(yw:Int)*(per:Int)=(yn:Int):=by rw[← hyn',← HYW.out,hyw];simp
   obtain⟨b,off,rfl,_⟩:=(HV.out _ hst.right.right).at_ (show 0<L by omega);have hcap:=(jz (HV.out _ hst.right.right)).1;have hcy:¬ c0=yn:=by omega
   have hrl:(cD l n y).length=n:=mA (by rw[HLL.out,hyn'];exact hle);have HROW:=ac (fun w h=>show Reads w 1 (.slice (some ⟨b,off+yn,none⟩) n (c0-yn)) n ((cD l n y).map uv) by rw[cD,hyn'];exact un (HV.out w h) hle);have HRA:=ac (fun x (hx:x∈cD l n y)=>HALL.out x (n9 hx));have HSU:=ac (show(bV predict big wide per n l (y+1)).map aQ=(bV predict big wide per n l y).map aQ++[.string ⟨(gO predict big wide per (cD l n y)).toArray⟩] by rw[uj,List.map_append];rfl);have HRL:=ac hrl;have o0:=hst.right.cell 0 rfl;have o7:=hst.right.cell 7 rfl;have HST:=ac hst;have hynI:(yn:Int)≤(yn+n:Nat):=by omega
   have hycI:((yn+n:Nat):Int)≤c0:=by omega
   clear hrl hyn' hst hyw;obtain⟨row,hrow⟩:∃ row,row=cD l n y:=⟨_,rfl⟩;rw[← hrow] at HROW HRA HSU HRL;clear hrow;obtain⟨yn1,hyn1⟩:∃ yn1,yn+n=yn1:=⟨_,rfl⟩;have hadd:(yn:Int)+(n:Int)=(yn1:Int):=by omega
   rw[hyn1] at hynI hycI hle;have hsub:yn1-yn=n:=by omega
   clear hyn1;cases predict with
   | true=>
    have HD:=ac (BH HST.out (l:=row) (v:= .slice (some ⟨b,off+yn,none⟩) n (c0-yn)) (fun w h=>by rw[HRL.out];exact HROW.out w h.right.right) (by rw[HRL.out];omega) (hpr rfl) hp (by omega) (by rw[HRL.out];exact hmod) HRA.out);rw[HRL.out] at HD;have HDL:=ac (show(dp wide per row).length=n by rw[kD,HRL.out]);have HFF:=ac (show gO true big wide per row=bF wide big (dp wide per row) from rfl);have HDM:=ac (nY (per:=per) HRA.out);obtain⟨D,hD⟩:∃ D,dp wide per row=D:=⟨_,rfl⟩;rw[hD] at HD HDL HFF HDM;clear hD;go_wp2_with (first
     | (at_builtin;apply ag)
     | (go_at_call 24;refine(HPK.out).mono ?_;rintro e w3 ⟨rfl,h3⟩;have H3:=ac h3.right;clear h3 HPK)
     | (go_at_call 23;refine HD.out.mono ?_;rintro e w2 ⟨v2,rfl,h2⟩;obtain⟨a2,c2,rfl⟩:=h2.reads.sub;have o0':=h2.right.right.cell 0 rfl;have HPK:=ac (uw h2 (l:=D) (v:= .slice a2 n c2) (fun w h=>by rw[HDL.out];exact h.reads) (by rw[HDL.out];omega) (by omega) (by omega) HDM.out big);clear h2 HD o0 o7 HST))
    rw[← HFF.out];refine on (aC T rfl _ _ rfl rfl (H3.out.drop_alloc _) rfl (sO _ _) (by intro u hu;rw[List.mem_singleton.1 hu];rfl) (by unfold maxLen;omega) (by omega) ?_);intro v4 w4 h4 _;have h4:St w0 w4 (own 9 1 v4 (y+1) ((bV true big wide per n l (y+1)).map aQ)*(blk gp (.cells #[.bool big,.bool large,.bool tiled,.int .i64 ow,.int .i64 oh,.bool planar,.int .i64 scheme,.bool true,.bool low,.bool two,.int .i64 every,.bool al,.bool fin,.int .i64 how] 28)*F)):=by rw[HSU.out];exact h4
    obtain⟨a4,c4,rfl⟩:=h4.reads.sub;have H4:=ac h4;clear h4 H3;go_wp2_with fail;exact⟨⟨y+1,a4,c4,by omega,by go_num,rfl,H4.out⟩,by simp [intOf];omega⟩
   | false=>
    have HFF:=ac (show gO false big wide per row=bF wide big row from rfl);have HPK:=ac (uw HST.out (l:=row) (v:= .slice (some ⟨b,off+yn,none⟩) n (c0-yn)) (fun w h=>by rw[HRL.out];exact HROW.out w h.right.right) (by rw[HRL.out];omega) (by omega) (by omega) HRA.out big);go_wp2_with (first
     | (at_builtin;apply ag)
     | (go_at_call 24;refine(HPK.out).mono ?_;rintro e w3 ⟨rfl,h3⟩;have H3:=ac h3;clear h3 HPK))
    rw[← HFF.out];refine on (aC T rfl _ _ rfl rfl (H3.out.drop_alloc _) rfl (sO _ _) (by intro u hu;rw[List.mem_singleton.1 hu];rfl) (by unfold maxLen;omega) (by omega) ?_);intro v4 w4 h4 _;have h4:St w0 w4 (own 9 1 v4 (y+1) ((bV false big wide per n l (y+1)).map aQ)*(blk gp (.cells #[.bool big,.bool large,.bool tiled,.int .i64 ow,.int .i64 oh,.bool planar,.int .i64 scheme,.bool false,.bool low,.bool two,.int .i64 every,.bool al,.bool fin,.int .i64 how] 28)*F)):=by rw[HSU.out];exact h4
    obtain⟨a4,c4,rfl⟩:=h4.reads.sub;have H4:=ac h4;clear h4 H3;go_wp2_with fail;exact⟨⟨y+1,a4,c4,by omega,by go_num,rfl,H4.out⟩,by simp [intOf];omega⟩
  ·obtain rfl:y=H:=by omega
   have HST:=ac (show St w0 wr (own 9 1 (.slice ao y co) y ((bV predict big wide per n l y).map aQ)*F) from by
    have:=hst.perm (show _=blk gp (.cells #[.bool big,.bool large,.bool tiled,.int .i64 ow,.int .i64 oh,.bool planar,.int .i64 scheme,.bool predict,.bool low,.bool two,.int .i64 every,.bool al,.bool fin,.int .i64 how] 28)*(own 9 1 (.slice ao y co) y ((bV predict big wide per n l y).map aQ)*F) by ac_rfl);exact this.right)
   clear hst;go_wp2_with fail;go_ret2;exact⟨_,rfl,HST.out⟩
theorem I8 (c:UInt8):bK (bK c)=c:=by
 have h:∀ k:Fin 256,bK (bK (UInt8.ofNat k.val))=UInt8.ofNat k.val:=by decide +kernel
 have:=h ⟨c.toNat,bh c⟩;simpa using this
theorem I9 (z:List UInt8):(z.map bK).map bK=z:=by
 rw[eF]
 conv=>rhs;rw[← zr z]
 exact iU fun c _=>I8 c
theorem TellS.len9 {o:Opt} {W:Nat} {L:List (List UInt8)} {z:List UInt8} (h:TellS o W L z) (hN:L.length≤300) (hJ:(aH L).length≤1000000) (hw:W≤400) (hfx:o.scheme=2∨o.scheme=3∨o.scheme=4→∀ X∈L,(W+7)/8≤X.length):z.length≤80000000:=by
 have hcl:(cu W L).length=L.length:=by rw[cu,bI]
 rcases h with ⟨_,rfl⟩ | ⟨_,rfl⟩ | ⟨_,hw,x,_,_,hx,rfl⟩ | ⟨_,h⟩ | ⟨e,rfl⟩ | ⟨e,rfl⟩ | ⟨e,rfl⟩
 ·omega
 ·rw[dm];have:=mu (aH L);omega
 ·simp only[aK,ae,dm,jV];omega
 ·have:=h.len;omega
 ·have:=yH (by omega:W≤32768) (cu W L) [] (lL hw (hfx (by omega)));rw[dm];simp only[bD] at this;omega
 ·have:=wi hw (two:=o.two) (al:=o.al) (every:=o.every) (cu W L) 0 [] [] (lL hw (hfx (by omega))) ⟨List.Pairwise.nil,fun x hx=>by cases hx⟩;have h2:=yI o.two o.al o.fin (dF W o.two o.al o.every 0 [] (cu W L) []);rw[dm,fD];simp only[bD] at this;omega
 ·have:=wh hw (cu W L) [] (lL hw (hfx (by omega))) ⟨List.Pairwise.nil,fun x hx=>by cases hx⟩;have h2:jh.length=24:=by decide
  rw[dm,iM,ae];omega
theorem Ja {w0 w:World} {F:SProp} (h:St w0 w F) {o:Opt} {W:Nat} {L:List (List UInt8)} {z:List UInt8} (hz:TellS o W L z) (hW1:1≤W) (hW:W≤400) (hN:L.length≤100) (hJ:(aH L).length≤100000) (hzl:z.length≤80000000)
  (hfx:o.scheme=2∨o.scheme=3∨o.scheme=4→∃ Ps:List (List Nat),L=Ps.map (aq false)∧∀ P∈Ps,P.length=W∧Bit P) (hev:o.scheme=3→o.two=true→1≤o.every) (hX1:∀ X∈L,1≤X.length) {v:Value} (hv:Stb w0 F (fun w=>Reads w 1 v L.length (L.map aQ))) {s:ByteArray} (hs:s=⟨(if o.low=true then z.map bK else z).toArray⟩):
  Calls Tryz.prog 13 #[.string s,v,.int .i64 (W:Int),o.v] w fun e w'=>e= .returned (.bool true)∧St w0 w' F:=by
 obtain⟨a0,c0,rfl⟩:=(hv w h).sub;obtain⟨big,large,tiled,ow,oh,planar,scheme,predict,low,two,every,al,fin,how⟩:=o;simp only at hfx hev hs;simp only[Opt.v];have HTN:=ac (fun(G:SProp) (w:World) (h:St w0 w G)=>show Calls Tryz.prog 25 #[.string s,.bool low] w fun e w'=>e= .returned (.string ⟨z.toArray⟩)∧St w0 w' G by
  have C:=I6 h (if low=true then z.map bK else z) low (by cases low <;> simp <;> omega) hs;cases low
  ·exact C
  ·simp only[if_true,I9] at C;exact C)
 obtain⟨N,hNN⟩:∃ N,L.length=N:=⟨_,rfl⟩;rw[hNN] at hN hv ⊢;have H:=ac (h.alloc (.cells #[.bool big,.bool large,.bool tiled,.int .i64 ow,.int .i64 oh,.bool planar,.int .i64 scheme,.bool predict,.bool low,.bool two,.int .i64 every,.bool al,.bool fin,.int .i64 how] 28));have f8:=H.out.cell 8 rfl;have HV:=ac hv;have HNN:=ac hNN;have HZ:=ac hz;have HFX:=ac hfx;have HEV:=ac hev;have HX1:=ac hX1;have HJL:=ac (fun k=>cX (wu (L:=L) k) hJ);have HJJ:=ac hJ;obtain⟨zb,hzb⟩:∃ zb:ByteArray,zb=⟨z.toArray⟩:=⟨_,rfl⟩;rw[← hzb] at HTN;have hzs:zb.size=z.length:=by rw[hzb];rfl
 have HZB:=ac hzb;have HZS:=ac hzs;clear hv hNN hz hfx hev h hs hzb hzs hX1 hJ;go_enter Tryz.func13,Tryz.ntmps13;go_wp2_with (go_at_call 25;refine(HTN.out _ _ H.out).mono ?_;rintro e w1 ⟨rfl,h1⟩;have H1:=ac h1;clear h1 H HTN f8);generalize w.heap.size=gp at*
 go_loopw [10,11] (fun va vi wr=>∃ k:Nat,k≤N∧vi= .int .i64 (k:Int)∧va= .string ⟨(aH (L.take k)).toArray⟩∧St w0 wr (blk gp (.cells #[.bool big,.bool large,.bool tiled,.int .i64 ow,.int .i64 oh,.bool planar,.int .i64 scheme,.bool predict,.bool low,.bool two,.int .i64 every,.bool al,.bool fin,.int .i64 how] 28)*F)) (fun _ vi _=>N-(intOf vi).toNat)
 case atStart=>exact⟨0,Nat.zero_le _,rfl,rfl,H1.out⟩
 case round=>
  clear H1;obtain⟨k,hk,rfl,rfl,hst⟩:=hrel
  by_cases hkn:k<N
  ·have hkI:(k:Int)<N:=by omega
   obtain⟨X,hx⟩:∃ X,L[k]? =some X:=⟨L[k]'(by rw[HNN.out];exact hkn),ai _⟩;obtain⟨b,off,rfl,hc⟩:=(HV.out _ hst.right).at_ hkn;rw[au,hx] at hc;replace hc:wr.cell? ⟨b,off+k,none⟩=some (.string ⟨X.toArray⟩):=hc;have hcat:(⟨(aH (L.take k)).toArray⟩:ByteArray)++⟨X.toArray⟩=⟨(aH (L.take (k+1))).toArray⟩:=by
    rw[fZ hx,aH,aH,nA,ByteArray.mk_append_mk];simp
   have h1:=HJL.out k;have h2:=HJL.out (k+1);have h3:(aH (L.take (k+1))).length=(aH (L.take k)).length+X.length:=by
    rw[fZ hx,aH,aH,nA,ae];simp
   have hs1:(⟨(aH (L.take k)).toArray⟩:ByteArray).size≤100000:=h1;have hs2:(⟨X.toArray⟩:ByteArray).size≤100000:=by show X.length≤_;omega
   have HST:=ac hst;clear hst hx h1 h2 h3;generalize hJ1:(⟨(aH (L.take k)).toArray⟩:ByteArray)=J1 at*
   generalize hJ2:(⟨(aH (L.take (k+1))).toArray⟩:ByteArray)=J2 at*
   generalize (⟨X.toArray⟩:ByteArray)=xb at*
   have HJ2:=ac hJ2;clear hJ1 hJ2;go_wp2_with fail;exact⟨⟨k+1,by omega,by go_num,by rw[HJ2.out],HST.out⟩,by simp [intOf];omega⟩
  ·obtain rfl:k=N:=by omega
   have hJt:aH (L.take k)=aH L:=by rw[← HNN.out,cI]
   rw[hJt];have hz:=HZ.out;unfold TellS at hz;simp only at hz;have f6:=hst.cell 6 rfl;have HJB:=ac (show(⟨(aH L).toArray⟩:ByteArray).size=(aH L).length from rfl);obtain⟨jb,hjb⟩:∃ jb:ByteArray,jb=⟨(aH L).toArray⟩:=⟨_,rfl⟩;rw[← hjb] at HJB ⊢;have HJBE:=ac hjb;have HST:=ac hst;clear hjb hst hJt
   rcases hz with ⟨rfl,hzE⟩ | ⟨rfl,hzE⟩ | ⟨e | e,hw,x,_,hd,_,hzE⟩ | ⟨rfl,hz⟩ | ⟨rfl,hzE⟩ | ⟨rfl,hzE⟩ | ⟨rfl,hzE⟩
   ·have hzj:zb=jb:=by rw[HZB.out,HJBE.out,hzE]
    subst hzj;clear hzE;go_wp2_with fail;go_ret;exact⟨by first | rfl | simp,HST.out.right⟩
   ·have HAL:=ac (Bc HST.out (aH L) HJJ.out (s:=zb) (by rw[HZB.out,hzE]));rw[← HJBE.out] at HAL;clear hzE;go_wp2_with (go_at_call 30;refine HAL.out.mono ?_;rintro e w2 ⟨most,hmost,rfl,h2⟩;have H2:=ac h2;clear h2 HAL hmost HST f6);go_ret;exact⟨by first | rfl | simp,H2.out.right⟩
   iterate 2
    ·subst e;obtain⟨nn,hdn⟩:=hd.done;have hzz:=Iv hdn (S:=dx true (eK (aH L)) 4) (jV true _ 4) [] ((aH L).length:Int);rw[if_neg (by omega),if_neg (by simp),if_neg (by rw[yE (nS (aH L))];simp),show nm x (dx true (eK (aH L)) 4)=z from hzE.symm,bE] at hzz;have C:=IF HST.out z ((aH L).length:Int) (by omega) (by have:=HJJ.out;omega) (s:=zb) HZB.out;rw[hzz] at C;have HOP:=ac C;rw[← HJB.out] at HOP;have hzs:=HZS.out;clear hzE hzz C hd hdn;go_wp2_with (go_at_call 32;refine HOP.out.mono ?_;rintro e w2 ⟨s2,n2,x2,rfl,hr,h2⟩;obtain⟨rfl,rfl,rfl⟩:=hr;have H2:=ac h2;rw[← HJBE.out];clear h2 HOP HST f6);go_ret;exact⟨by first | rfl | simp,H2.out.right⟩
   ·have hzl2:=hz.len;have hjj:=HJJ.out;have HS1:=ac HST.out;have HPB:=ac hz;clear hz HST;go_wp2_with fail
    go_loopw [9,15] (fun vs vi wr=>∃ (j:Nat) (Z:List UInt8),j≤k∧vi= .int .i64 (j:Int)∧vs= .string ⟨Z.toArray⟩∧RowKit.Hid (PbRows (L.drop j) Z)∧Z.length≤200000∧St w0 wr (blk gp (.cells #[.bool big,.bool large,.bool tiled,.int .i64 ow,.int .i64 oh,.bool planar,.int .i64 32773,.bool predict,.bool low,.bool two,.int .i64 every,.bool al,.bool fin,.int .i64 how] 28)*F)) (fun _ vi _=>k-(intOf vi).toNat)
    case atStart=>exact⟨0,z,Nat.zero_le _,rfl,by rw[HZB.out],HPB,by omega,HS1.out⟩
    case round=>
     clear HS1 HPB f6;obtain⟨j,Z,hj,rfl,rfl,hQ,hZl,hst⟩:=hrel
     by_cases hjk:j<k
     ·have hjI:(j:Int)<k:=by omega
      have hjL:j<L.length:=by rw[HNN.out];exact hjk
      have hq:=hQ.out;rw[cC hjL] at hq;obtain⟨X,hX⟩:∃ X,L[j]? =some X:=⟨_,ai hjL⟩;have hXe:L[j]=X:=by rw[ai hjL] at hX;exact gm hX
      rw[hXe] at hq;obtain⟨y,Z',hZe,hb,hr⟩:∃ y Z',Z=y++Z'∧PbS X y∧PbRows (L.drop (j+1)) Z':=by
       cases hq with
       | cons h1 h2=>exact⟨_,_,rfl,h1,h2⟩
      subst hZe;have hXl:X.length≤100000:=cX (wv (aG hX)) HJJ.out;rw[ae] at hZl;have HDC:=ac (BN hst (t:=Z') hb (by omega) (by omega) rfl);have HCL:=ac (fun(w:World) (h:St w0 w (blk gp (.cells #[.bool big,.bool large,.bool tiled,.int .i64 ow,.int .i64 oh,.bool planar,.int .i64 32773,.bool predict,.bool low,.bool two,.int .i64 every,.bool al,.bool fin,.int .i64 how] 28)*F)) (g:Nat) (o:Nat) (e:a0=some ⟨g,o,none⟩)=>show w.cell? ⟨g,o+j,none⟩=some (.string ⟨X.toArray⟩) by
       subst e;obtain⟨b',off',ee,hc'⟩:=(HV.out w h.right).at_ hjk;cases ee;rw[au,hX] at hc';exact hc')
      obtain⟨b,off,rfl,hc0⟩:=(HV.out _ hst.right).at_ hjk;clear hc0;have hc:=HCL.out _ hst b off rfl;have hxs:(⟨X.toArray⟩:ByteArray).size=X.length:=rfl;have hys:(⟨(y++Z').toArray⟩:ByteArray).size=y.length+Z'.length:=ae;have hex:(⟨(y++Z').toArray⟩:ByteArray).extract y.length (y.length+Z'.length)=⟨Z'.toArray⟩:=by
       rw[kE,s6 rfl,bU (by omega)]
      have HRN:=ac hr;have HZL:=ac (show Z'.length≤200000 by omega);obtain⟨xl,hxl⟩:∃ xl,X.length=xl:=⟨_,rfl⟩;obtain⟨yl,hyl⟩:∃ yl,y.length=yl:=⟨_,rfl⟩;obtain⟨zl,hzl'⟩:∃ zl,Z'.length=zl:=⟨_,rfl⟩;rw[hxl] at hxs HDC hXl;rw[hyl] at hys hex HDC hZl;rw[hzl'] at hys hex hZl;clear hst hQ hq hX hXe hb hr hxl hyl hzl';generalize hZB:(⟨Z'.toArray⟩:ByteArray)=Zb at*
      generalize (⟨(y++Z').toArray⟩:ByteArray)=yb at*
      generalize (⟨X.toArray⟩:ByteArray)=xb at*
      have HZE:=ac hZB;clear hZB;go_wp2_with (go_at_call 31;refine HDC.out.mono ?_;rintro e w2 ⟨rfl,h2⟩;have hc2:=HCL.out _ h2 b off rfl;have H2:=ac h2;clear h2 HDC hc);exact⟨⟨j+1,Z',by omega,by go_num,by rw[HZE.out],HRN,HZL.out,H2.out⟩,by simp [intOf];omega⟩
     ·obtain rfl:j=k:=by omega
      have hq:=hQ.out;rw[iD (by rw[HNN.out];omega)] at hq;obtain rfl:Z=[]:=by cases hq;rfl
      have HS2:=ac hst;clear hst hq hQ;go_wp2_with fail;go_ret;exact⟨by first | rfl | simp,HS2.out.right⟩
   ·obtain⟨Ps,hL,hPs⟩:=HFX.out (.inl rfl);subst hL;rw[sM hPs] at hzE;have hk2:Ps.length=k:=by rw[← HNN.out,bI]
    have HPX:=ac (sP HST.out (Ps:=Ps) (v:= .slice a0 k c0) (fun w h=>by rw[hk2];exact HV.out w h.right) hW hPs (by omega));have HEN:=ac (fun(v2:Value) (w:World) (h:St w0 w (own 9 1 v2 Ps.length (Ps.map aD)*(blk gp (.cells #[.bool big,.bool large,.bool tiled,.int .i64 ow,.int .i64 oh,.bool planar,.int .i64 2,.bool predict,.bool low,.bool two,.int .i64 every,.bool al,.bool fin,.int .i64 how] 28)*F)))=>D7 h (Ps:=Ps) (v:=v2) (fun w h=>h.reads) hW hPs (by omega));rw[← hzE,← HZB.out] at HEN;clear hzE hk2 hPs;go_wp2_with (first
     | (go_at_call 26;refine(HEN.out _ _ H2.out).mono ?_;rintro e w3 ⟨rfl,h3⟩;have H3:=ac h3;clear h3 HEN H2)
     | (go_at_call 27;refine HPX.out.mono ?_;rintro e w2 ⟨v2,rfl,h2⟩;have H2:=ac h2;clear h2 HPX HST f6))
    go_ret;exact⟨by first | rfl | simp,H3.out.right.right⟩
   ·obtain⟨Ps,hL,hPs⟩:=HFX.out (.inr (.inl rfl));subst hL;rw[sM hPs] at hzE;have hk2:Ps.length=k:=by rw[← HNN.out,bI]
    have HPX:=ac (fun(w:World) (h:St w0 w (blk gp (.cells #[.bool big,.bool large,.bool tiled,.int .i64 ow,.int .i64 oh,.bool planar,.int .i64 3,.bool predict,.bool low,.bool two,.int .i64 every,.bool al,.bool fin,.int .i64 how] 28)*F))=>sP h (Ps:=Ps) (v:= .slice a0 k c0) (fun w h=>by rw[hk2];exact HV.out w h.right) hW hPs (by omega));have hev:=HEV.out rfl;have HEN:=ac (fun(v2:Value) (w:World) (h:St w0 w (own 9 1 v2 Ps.length (Ps.map aD)*(blk gp (.cells #[.bool big,.bool large,.bool tiled,.int .i64 ow,.int .i64 oh,.bool planar,.int .i64 3,.bool predict,.bool low,.bool two,.int .i64 every,.bool al,.bool fin,.int .i64 how] 28)*F)))=>show Calls Tryz.prog 28 #[v2,.agg #[.bool two,.int .i64 every,.bool al,.bool fin]] w (fun e w'=>e= .returned (.string ⟨(aq false (fD W two al fin every (Ps.map ay))).toArray⟩)∧St w0 w' (own 9 1 v2 Ps.length (Ps.map aD)*(blk gp (.cells #[.bool big,.bool large,.bool tiled,.int .i64 ow,.int .i64 oh,.bool planar,.int .i64 3,.bool predict,.bool low,.bool two,.int .i64 every,.bool al,.bool fin,.int .i64 how] 28)*F))) by
     cases two
     ·exact Ef h (Ps:=Ps) (v:=v2) (fun w h=>h.reads) hW1 hW hPs (by omega) al fin every
     ·exact Eg h (Ps:=Ps) (v:=v2) (fun w h=>h.reads) hW1 hW hPs (by omega) al fin every (hev rfl))
    rw[← hzE,← HZB.out] at HEN;clear hzE hk2 hPs hev;have q0:=HST.out.cell 9 rfl;have q1:=HST.out.cell 10 rfl;have q2:=HST.out.cell 11 rfl;have q3:=HST.out.cell 12 rfl;go_upto_region 13 with (fail)
    refine wp_region_noPanic ?_;refine gB (S:=(fun w':World=>w'.cell? ⟨gp,9,none⟩=some (.bool two)∧w'.cell? ⟨gp,10,none⟩=some (.int .i64 every)∧w'.cell? ⟨gp,11,none⟩=some (.bool al)∧w'.cell? ⟨gp,12,none⟩=some (.bool fin))) (k:=17) (by kernel_rfl) ?_;have hS:(fun w':World=>w'.cell? ⟨gp,9,none⟩=some (.bool two)∧w'.cell? ⟨gp,10,none⟩=some (.int .i64 every)∧w'.cell? ⟨gp,11,none⟩=some (.bool al)∧w'.cell? ⟨gp,12,none⟩=some (.bool fin)) wr:=⟨q0,q1,q2,q3⟩;clear q0 q1 q2 q3 f6;refine cM 5 [0,1,2,4,5] (by kernel_rfl) (fun _ _ _ h=>h) (by assumption) ?_
    iterate 5
     refine cL rfl rfl ⟨?_,fun w=> ?_,?_⟩;rotate_left
     ·(go_simp;try with_reducible rfl)
     simp only[Act.put,sA,sZ,sS]
    refine cK ?_;refine fe 16 (i:=6) (oi:= ?_) (v:= ?_) ?_ (by kernel_rfl) (by kernel_rfl) (by kernel_rfl) (by kernel_rfl) (by kernel_rfl) (by kernel_rfl) (by kernel_rfl) (by decide) (by decide) (by decide) (fun _ _ _ h=>h.elim) (by assumption) (.inl ⟨?_,fun w hSw=> ?_⟩) ?_;rotate_left 2
    ·(simp only[fq,cY,e7];rfl)
    ·rfl
    ·((try dsimp only at hSw);obtain⟨hs0,hs1,hs2,hs3⟩:=hSw;go_simp;try with_reducible rfl)
    simp only[Act.put,sA,sZ,sS];refine cM 2 [7,8] (by kernel_rfl) (fun _ _ _ h=>h) (by assumption) ?_
    iterate 2
     refine cL rfl rfl ⟨?_,fun w=> ?_,?_⟩;rotate_left
     ·(go_simp;try with_reducible rfl)
     simp only[Act.put,sA,sZ,sS]
    refine cK ?_;refine fe 16 (i:=9) (oi:= ?_) (v:= ?_) ?_ (by kernel_rfl) (by kernel_rfl) (by kernel_rfl) (by kernel_rfl) (by kernel_rfl) (by kernel_rfl) (by kernel_rfl) (by decide) (by decide) (by decide) (fun _ _ _ h=>h.elim) (by assumption) (.inl ⟨?_,fun w hSw=> ?_⟩) ?_;rotate_left 2
    ·(simp only[fq,cY,e7];rfl)
    ·rfl
    ·((try dsimp only at hSw);obtain⟨hs0,hs1,hs2,hs3⟩:=hSw;go_simp;try with_reducible rfl)
    simp only[Act.put,sA,sZ,sS];refine cM 2 [10,11] (by kernel_rfl) (fun _ _ _ h=>h) (by assumption) ?_
    iterate 2
     refine cL rfl rfl ⟨?_,fun w=> ?_,?_⟩;rotate_left
     ·(go_simp;try with_reducible rfl)
     simp only[Act.put,sA,sZ,sS]
    refine cK ?_;refine fe 16 (i:=12) (oi:= ?_) (v:= ?_) ?_ (by kernel_rfl) (by kernel_rfl) (by kernel_rfl) (by kernel_rfl) (by kernel_rfl) (by kernel_rfl) (by kernel_rfl) (by decide) (by decide) (by decide) (fun _ _ _ h=>h.elim) (by assumption) (.inl ⟨?_,fun w hSw=> ?_⟩) ?_;rotate_left 2
    ·(simp only[fq,cY,e7];rfl)
    ·rfl
    ·((try dsimp only at hSw);obtain⟨hs0,hs1,hs2,hs3⟩:=hSw;go_simp;try with_reducible rfl)
    simp only[Act.put,sA,sZ,sS];refine cM 2 [13,14] (by kernel_rfl) (fun _ _ _ h=>h) (by assumption) ?_
    iterate 2
     refine cL rfl rfl ⟨?_,fun w=> ?_,?_⟩;rotate_left
     ·(go_simp;try with_reducible rfl)
     simp only[Act.put,sA,sZ,sS]
    refine cK ?_;refine fe 16 (i:=15) (oi:= ?_) (v:= ?_) ?_ (by kernel_rfl) (by kernel_rfl) (by kernel_rfl) (by kernel_rfl) (by kernel_rfl) (by kernel_rfl) (by kernel_rfl) (by decide) (by decide) (by decide) (fun _ _ _ h=>h.elim) (by assumption) (.inl ⟨?_,fun w hSw=> ?_⟩) ?_;rotate_left 2
    ·(simp only[fq,cY,e7];rfl)
    ·rfl
    ·((try dsimp only at hSw);obtain⟨hs0,hs1,hs2,hs3⟩:=hSw;go_simp;try with_reducible rfl)
    simp only[Act.put,sA,sZ,sS];refine jA 16 rfl (by kernel_rfl) rfl (fun _ _ _ h=>h) (by assumption) ⟨?_,fun w=> ?_,?_⟩;rotate_left
    ·(go_simp;try with_reducible rfl)
    simp only[Act.put,sA,sZ,sS];refine aW (i:=3) (by kernel_rfl) ?_;refine wpOp_step (by rfl) fun K hK=> ?_
    go_simp;refine(HPX.out _ HST.out.drew).mono ?_;rintro e w2 ⟨v2,rfl,h2⟩;have hS2:(fun w':World=>w'.cell? ⟨gp,9,none⟩=some (.bool two)∧w'.cell? ⟨gp,10,none⟩=some (.int .i64 every)∧w'.cell? ⟨gp,11,none⟩=some (.bool al)∧w'.cell? ⟨gp,12,none⟩=some (.bool fin)) w2:=⟨h2.right.cell 9 rfl,h2.right.cell 10 rfl,h2.right.cell 11 rfl,h2.right.cell 12 rfl⟩;refine hK _ _ ⟨fun e=>hS2,?_⟩;clear hK K hS;have hS:=hS2;refine aW (i:=17) (by kernel_rfl) ?_;refine wpOp_step (by rfl) fun K hK=> ?_
    go_simp;refine(HEN.out _ _ h2).mono ?_;rintro e w3 ⟨rfl,h3⟩;have hS3:(fun w':World=>w'.cell? ⟨gp,9,none⟩=some (.bool two)∧w'.cell? ⟨gp,10,none⟩=some (.int .i64 every)∧w'.cell? ⟨gp,11,none⟩=some (.bool al)∧w'.cell? ⟨gp,12,none⟩=some (.bool fin)) w3:=⟨h3.right.cell 9 rfl,h3.right.cell 10 rfl,h3.right.cell 11 rfl,h3.right.cell 12 rfl⟩;refine hK _ _ ⟨fun e=>hS3,?_⟩;clear hK K hS hS2;have hS:=hS3;refine cM 2 [18,19] (by kernel_rfl) (fun _ _ _ h=>h) (by assumption) ?_
    iterate 2
     refine cL rfl rfl ⟨?_,fun w=> ?_,?_⟩;rotate_left
     ·(go_simp;try with_reducible rfl)
     simp only[Act.put,sA,sZ,sS]
    refine cK ?_;refine⟨by kernel_rfl,NoPanic.normal ?_⟩;clear hS hS3;have H3:=ac h3;clear h3 h2;go_wp2_with fail;go_ret;exact⟨by first | rfl | simp,H3.out.right.right⟩
   ·obtain⟨Ps,hL,hPs⟩:=HFX.out (.inr (.inr rfl));subst hL;rw[sM hPs] at hzE;have hk2:Ps.length=k:=by rw[← HNN.out,bI]
    have HPX:=ac (sP HST.out (Ps:=Ps) (v:= .slice a0 k c0) (fun w h=>by rw[hk2];exact HV.out w h.right) hW hPs (by omega));have HEN:=ac (fun(v2:Value) (w:World) (h:St w0 w (own 9 1 v2 Ps.length (Ps.map aD)*(blk gp (.cells #[.bool big,.bool large,.bool tiled,.int .i64 ow,.int .i64 oh,.bool planar,.int .i64 4,.bool predict,.bool low,.bool two,.int .i64 every,.bool al,.bool fin,.int .i64 how] 28)*F)))=>Ei h (Ps:=Ps) (v:=v2) (fun w h=>h.reads) hW1 hW hPs (by omega));rw[← hzE,← HZB.out] at HEN;clear hzE hk2 hPs;go_wp2_with (first
     | (go_at_call 29;refine(HEN.out _ _ H2.out).mono ?_;rintro e w3 ⟨rfl,h3⟩;have H3:=ac h3;clear h3 HEN H2)
     | (go_at_call 27;refine HPX.out.mono ?_;rintro e w2 ⟨v2,rfl,h2⟩;have H2:=ac h2;clear h2 HPX HST f6))
    go_ret;exact⟨by first | rfl | simp,H3.out.right.right⟩
end Go.Proofs.YtboflbdniogcdaaGreatDoor
