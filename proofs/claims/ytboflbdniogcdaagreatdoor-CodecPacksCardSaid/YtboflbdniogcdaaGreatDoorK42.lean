/-
  Parts of a proof.
-/
import Derived.Lib.AppendZerosOnto
import Derived.Test.YtboflbdniogcdaaGreatDoorK41
import Derived.Test.YtboflbdniogcdaaGreatDoorK35
set_option linter.unusedVariables false
set_option linter.unusedSimpArgs false
set_option maxRecDepth 100000
set_option maxHeartbeats 100000000
namespace Go.Proofs.YtboflbdniogcdaaGreatDoor
open Go.RowKit Go.Mz
theorem GZ {w0 w:World} {F:SProp} (h:St w0 w F) (n:Nat) (hn:n≤100000):
  Calls Tryz.prog 233 #[.slice none 0 0,.int .i64 (n:Int)] w fun e w'=>∃ v,e= .returned v∧St w0 w' (own 3 1 v 0 []*F):=by
 have H:=ac h;clear h
 rcases fM n with rfl | hp
 ·go_enter Tryz.func233,Tryz.ntmps233
  go_wp2
  go_ret;exact⟨_,rfl,H.out.own_nil 3 1⟩
 ·obtain⟨ht,⟨i,hi,hz,hsz,hby⟩,hzs,hpos⟩:=fA;have hold:(Builtin.firstCells i.size 0 (.slice none 0 0)).run Tryz.prog w.drew= .ok (([]:List Value).toArray) w.drew:=run_firstCells_none w.drew i.size 0 0 0;have hrz:∀ ty,(Builtin.append_ #[79,3] ty #[.slice none 0 0,.int .i64 (n:Int)]).run Tryz.prog w=
    .ok (.slice (some ⟨w.heap.size,0,none⟩) n (grownCap w n 0 3)) (w.drew.alloc (.cells (([]:List Value).toArray++Builtin.zeroCells (iv 0:Value).cells n++Builtin.zeroCells (iv 0:Value).cells (grownCap w n 0 3-n)) 3)):=fun ty=>by
   have h:=Lib.run_append_grow_zeros w 79 3 ty 3 i (iv 0:Value) .i64 .i64 ht Tryz.underlying3 hi hz none 0 0 [] hold n hp (by omega) (by omega) (by omega) (by rw[hby];omega) (by rw[bQ];exact growslice_fits hp (by rw[hby];omega));rw[bQ] at h;exact h
  have hge:n≤grownCap w n 0 3:=grownCap_ge w _ _ _;have hle:=grownCap_le_maxLen w n 0 3 (by unfold maxLen;omega);obtain⟨G,hG⟩:∃ G,G=grownCap w n 0 3:=⟨_,rfl⟩;rw[← hG] at hrz hge hle;have hG63:G≤9223372036854775807:=by unfold maxLen at hle;omega
  have hA:=H.out.drew.alloc (.cells (([]:List Value).toArray++Builtin.zeroCells (iv 0:Value).cells n++Builtin.zeroCells (iv 0:Value).cells (G-n)) 3);have hO:=hA.own_blk (size:=1) (n:=0) (cap:=G) (xs:=[]) (Nat.zero_le _) hle (by
   simp only[yU,size_zeroCells,hzs];simp only[sW,bD];omega) (by simp)
  rw[show w.drew.heap.size=w.heap.size from rfl] at hO;obtain⟨W',hW'⟩:∃ W',W'=w.drew.alloc (.cells (([]:List Value).toArray++Builtin.zeroCells (iv 0:Value).cells n++Builtin.zeroCells (iv 0:Value).cells (G-n)) 3):=⟨_,rfl⟩;rw[← hW'] at hO hrz;obtain⟨gb,hgb⟩:∃ gb,gb=w.heap.size:=⟨_,rfl⟩;rw[← hgb] at hO hrz;have HO:=ac hO;clear hW' hgb;have hnI:(0:Int)<n:=by omega
  clear hold hG hA hO H;go_enter Tryz.func233,Tryz.ntmps233;go_wp2_with (at_builtin;refine Lib.wpList_append_run _ rfl _ _ _ _ rfl _ _ rfl rfl _ _ (hrz _) ?_)
  all_goals (go_ret;exact⟨_,rfl,HO.out⟩)
theorem G3 {w0 w:World} {F:SProp} (h:St w0 w F) {vs s1 s2:Value} {n1 n2:Nat} {x1 x2:List Value} (hv:Stb w0 F (fun w=>Reads w 1 vs 2 [s1,s2])) (h1:Stb w0 F (fun w=>Reads w 1 s1 n1 x1)) (h2:Stb w0 F (fun w=>Reads w 1 s2 n2 x2))
  (o1:∀ u∈x1,u.oneCell'=true) (o2:∀ u∈x2,u.oneCell'=true) (hn1:n1≤10000) (hn2:n2≤10000):
  Calls Tryz.prog 224 #[vs] w fun e w'=>∃ v,e= .returned v∧St w0 w' (own 3 1 v (n1+n2) (x1++x2)*F):=by
 obtain⟨b,off,cap,rfl,c1⟩:=(hv w h).cell (j:=0) (by omega);have hcc:∀ W,St w0 W F→W.cell? ⟨b,off,none⟩=some s1∧W.cell? ⟨b,off+1,none⟩=some s2:=fun W hW=>by
  obtain⟨b',off',cap',e,d1⟩:=(hv W hW).cell (j:=0) (by omega);obtain⟨b'',off'',cap'',e',d2⟩:=(hv W hW).cell (j:=1) (by omega);cases e;cases e';exact⟨d1,d2⟩
 obtain⟨a1,k1,rfl⟩:=(h1 w h).sub;obtain⟨a2,k2,rfl⟩:=(h2 w h).sub;clear c1;obtain⟨c1,c2⟩:=hcc w h;have T:=fA;have H:=ac h;have HV:=ac hv;have HH1:=ac h1;have HH2:=ac h2;have HCC:=ac hcc;have O:=ac (And.intro o1 o2);clear h hv h1 h2 hcc o1 o2;have hsum:(n1:Int)+n2=((n1+n2:Nat):Int):=by omega
 have hg6:n1+n2≤20000:=by omega
 obtain⟨m,hm⟩:∃ m,n1+n2=m:=⟨_,rfl⟩;rw[hm] at hsum hg6 ⊢;have HM:=ac hm;clear hm;go_enter Tryz.func224,Tryz.ntmps224;go_wp2_with fail;refine wp_loop_rounds 3 ?_;rw[rounds_succ];go_wp2_with fail;rw[rounds_succ];go_wp2_with fail;rw[rounds_succ];go_wp2_with (go_at_call 233;refine(GZ H.out m (by omega)).mono ?_;rintro e w1 ⟨v,rfl,h1⟩;have HG:=ac h1;clear h1);obtain⟨d1,d2⟩:=HCC.out _ HG.out.right;obtain⟨av,cv,rfl⟩:=HG.out.reads.sub;refine wp_loop_rounds 3 ?_;rw[rounds_succ];go_wp2_with (at_builtin;apply ag);refine on (aC T rfl _ _ rfl rfl HG.out rfl (HH1.out _ HG.out.right) O.out.1 (by unfold maxLen;omega) (by omega) ?_);intro v' w2 h2' _;rw[bQ,ba] at h2';have HG2:=ac h2';clear h2' d1 d2;obtain⟨d1,d2⟩:=HCC.out _ HG2.out.right;obtain⟨av',cv',rfl⟩:=HG2.out.reads.sub;go_wp2_with fail;rw[rounds_succ];go_wp2_with (at_builtin;apply ag);refine on (aC T rfl _ _ rfl rfl HG2.out rfl (HH2.out _ HG2.out.right) O.out.2 (by unfold maxLen;omega) (by omega) ?_);intro v'' w3 h3' _;have HG3:=ac h3';clear h3' d1 d2;go_wp2_with fail;rw[rounds_succ];go_wp2_with fail;go_ret;exact⟨_,rfl,by rw[← HM.out];exact HG3.out⟩
theorem G4 {w0 w:World} {F:SProp} (h:St w0 w F) (n:Nat) (hn:n≤100000):
  Calls Tryz.prog 232 #[.slice none 0 0,.int .i64 (n:Int)] w fun e w'=>∃ v,e= .returned v∧St w0 w' (own 295 2 v 0 []*F):=by
 have H:=ac h;clear h
 rcases fM n with rfl | hp
 ·go_enter Tryz.func232,Tryz.ntmps232
  go_wp2
  go_ret;exact⟨_,rfl,H.out.own_nil 295 2⟩
 ·obtain⟨ht,⟨i,hi,hz,hsz,hby⟩,hzs,hpos⟩:=pI;have hold:(Builtin.firstCells i.size 0 (.slice none 0 0)).run Tryz.prog w.drew= .ok (([]:List Value).toArray) w.drew:=run_firstCells_none w.drew i.size 0 0 0;have hrz:∀ ty,(Builtin.append_ #[293,3] ty #[.slice none 0 0,.int .i64 (n:Int)]).run Tryz.prog w=
    .ok (.slice (some ⟨w.heap.size,0,none⟩) n (grownCap w n 0 295)) (w.drew.alloc (.cells (([]:List Value).toArray++Builtin.zeroCells (.agg #[.int .i64 0,.slice none 0 0]:Value).cells n++Builtin.zeroCells (.agg #[.int .i64 0,.slice none 0 0]:Value).cells (grownCap w n 0 295-n)) 295)):=fun ty=>by
   have h:=Lib.run_append_grow_zeros w 293 3 ty 295 i (.agg #[.int .i64 0,.slice none 0 0]:Value) .i64 .i64 ht Tryz.underlying3 hi hz none 0 0 [] hold n hp (by omega) (by omega) (by omega) (by rw[hby];omega) (by rw[bQ];exact growslice_fits hp (by rw[hby];omega));rw[bQ] at h;exact h
  have hge:n≤grownCap w n 0 295:=grownCap_ge w _ _ _;have hle:=grownCap_le_maxLen w n 0 295 (by unfold maxLen;omega);obtain⟨G,hG⟩:∃ G,G=grownCap w n 0 295:=⟨_,rfl⟩;rw[← hG] at hrz hge hle;have hG63:G≤9223372036854775807:=by unfold maxLen at hle;omega
  have hA:=H.out.drew.alloc (.cells (([]:List Value).toArray++Builtin.zeroCells (.agg #[.int .i64 0,.slice none 0 0]:Value).cells n++Builtin.zeroCells (.agg #[.int .i64 0,.slice none 0 0]:Value).cells (G-n)) 295);have hO:=hA.own_blk (size:=2) (n:=0) (cap:=G) (xs:=[]) (Nat.zero_le _) hle (by
   simp only[yU,size_zeroCells,hzs];simp only[sW,bD];omega) (by simp)
  rw[show w.drew.heap.size=w.heap.size from rfl] at hO;obtain⟨W',hW'⟩:∃ W',W'=w.drew.alloc (.cells (([]:List Value).toArray++Builtin.zeroCells (.agg #[.int .i64 0,.slice none 0 0]:Value).cells n++Builtin.zeroCells (.agg #[.int .i64 0,.slice none 0 0]:Value).cells (G-n)) 295):=⟨_,rfl⟩;rw[← hW'] at hO hrz;obtain⟨gb,hgb⟩:∃ gb,gb=w.heap.size:=⟨_,rfl⟩;rw[← hgb] at hO hrz;have HO:=ac hO;clear hW' hgb;have hnI:(0:Int)<n:=by omega
  clear hold hG hA hO H;go_enter Tryz.func232,Tryz.ntmps232;go_wp2_with (at_builtin;refine Lib.wpList_append_run _ rfl _ _ _ _ rfl _ _ rfl rfl _ _ (hrz _) ?_)
  all_goals (go_ret;exact⟨_,rfl,HO.out⟩)
theorem G5 {w0 w:World} {F:SProp} (h:St w0 w F) {vs s1 s2:Value} {n1 n2:Nat} {x1 x2:List Value} (hv:Stb w0 F (fun w=>Reads w 1 vs 2 [s1,s2])) (h1:Stb w0 F (fun w=>Reads w 2 s1 n1 x1)) (h2:Stb w0 F (fun w=>Reads w 2 s2 n2 x2))
  (o1:∀ u∈x1,u.oneCell'=true) (o2:∀ u∈x2,u.oneCell'=true) (hn1:n1≤10000) (hn2:n2≤10000):
  Calls Tryz.prog 222 #[vs] w fun e w'=>∃ v,e= .returned v∧St w0 w' (own 295 2 v (n1+n2) (x1++x2)*F):=by
 obtain⟨b,off,cap,rfl,c1⟩:=(hv w h).cell (j:=0) (by omega);have hcc:∀ W,St w0 W F→W.cell? ⟨b,off,none⟩=some s1∧W.cell? ⟨b,off+1,none⟩=some s2:=fun W hW=>by
  obtain⟨b',off',cap',e,d1⟩:=(hv W hW).cell (j:=0) (by omega);obtain⟨b'',off'',cap'',e',d2⟩:=(hv W hW).cell (j:=1) (by omega);cases e;cases e';exact⟨d1,d2⟩
 obtain⟨a1,k1,rfl⟩:=(h1 w h).sub;obtain⟨a2,k2,rfl⟩:=(h2 w h).sub;clear c1;obtain⟨c1,c2⟩:=hcc w h;have T:=pI;have H:=ac h;have HV:=ac hv;have HH1:=ac h1;have HH2:=ac h2;have HCC:=ac hcc;have O:=ac (And.intro o1 o2);clear h hv h1 h2 hcc o1 o2;have hsum:(n1:Int)+n2=((n1+n2:Nat):Int):=by omega
 have hg6:n1+n2≤20000:=by omega
 obtain⟨m,hm⟩:∃ m,n1+n2=m:=⟨_,rfl⟩;rw[hm] at hsum hg6 ⊢;have HM:=ac hm;clear hm;go_enter Tryz.func222,Tryz.ntmps222;go_wp2_with fail;refine wp_loop_rounds 3 ?_;rw[rounds_succ];go_wp2_with fail;rw[rounds_succ];go_wp2_with fail;rw[rounds_succ];go_wp2_with (go_at_call 232;refine(G4 H.out m (by omega)).mono ?_;rintro e w1 ⟨v,rfl,h1⟩;have HG:=ac h1;clear h1);obtain⟨d1,d2⟩:=HCC.out _ HG.out.right;obtain⟨av,cv,rfl⟩:=HG.out.reads.sub;refine wp_loop_rounds 3 ?_;rw[rounds_succ];go_wp2_with (at_builtin;apply ag);refine on (aC T rfl _ _ rfl rfl HG.out rfl (HH1.out _ HG.out.right) O.out.1 (by unfold maxLen;omega) (by omega) ?_);intro v' w2 h2' _;rw[bQ,ba] at h2';have HG2:=ac h2';clear h2' d1 d2;obtain⟨d1,d2⟩:=HCC.out _ HG2.out.right;obtain⟨av',cv',rfl⟩:=HG2.out.reads.sub;go_wp2_with fail;rw[rounds_succ];go_wp2_with (at_builtin;apply ag);refine on (aC T rfl _ _ rfl rfl HG2.out rfl (HH2.out _ HG2.out.right) O.out.2 (by unfold maxLen;omega) (by omega) ?_);intro v'' w3 h3' _;have HG3:=ac h3';clear h3' d1 d2;go_wp2_with fail;rw[rounds_succ];go_wp2_with fail;go_ret;exact⟨_,rfl,by rw[← HM.out];exact HG3.out⟩
structure PR (w0:World) (H:SProp) (p:Pv) (c:aE):Prop where
 wt:p.wt=c.1
 n:p.n=c.2.length
 rd:Stb w0 H (fun w=>Reads w 1 p.of c.2.length (nvs c.2))
theorem PR.more {w0:World} {H:SProp} {p:Pv} {c:aE} (h:PR w0 H p c) (A:SProp):PR w0 (A*H) p c:=⟨h.wt,h.n,h.rd.more A⟩
def Rows (w0:World) (H:SProp) (l:List Pv) (R:List aE):Prop:=∃ φ:Pv→aE,R=l.map φ∧∀ p∈l,PR w0 H p (φ p)
theorem Rows.more {w0:World} {H:SProp} {l:List Pv} {R:List aE} (h:Rows w0 H l R) (A:SProp):Rows w0 (A*H) l R:=let ⟨φ,h1,h2⟩:=h;⟨φ,h1,fun p hp=>(h2 p hp).more A⟩
theorem Rows.perm {w0:World} {H H':SProp} {l:List Pv} {R:List aE} (h:Rows w0 H l R) (e:H=H'):Rows w0 H' l R:=e ▸ h
theorem Rows.len {w0:World} {H:SProp} {l:List Pv} {R:List aE} (h:Rows w0 H l R):l.length=R.length:=by obtain⟨φ,h1,_⟩:=h;rw[h1,bI]
theorem Rows.nil {w0:World} {H:SProp}:Rows w0 H [] []:=⟨fun _=>(0,[]),rfl,fun p hp=>by cases hp⟩
theorem Rows.at_ {w0:World} {H:SProp} {l:List Pv} {R:List aE} (h:Rows w0 H l R) {k:Nat} {p:Pv} (hk:l[k]? =some p):∃ c,R[k]? =some c∧PR w0 H p c:=by
 obtain⟨φ,h1,h2⟩:=h;exact⟨φ p,by rw[h1,au,hk];rfl,h2 p (aG hk)⟩
def pL (w:World) (p:Pv):List Nat:=(List.range p.n).map fun j=>match (p.a.bind fun x=>w.cell? (x.add j)) with
 | some (.int _ i)=>i.toNat
 | _=>0
theorem G6 {w:World} {p:Pv} {x:List Nat} (hn:p.n=x.length) (h:Reads w 1 p.of x.length (nvs x)):pL w p=x:=by
 obtain⟨wt,pa,pn,pc⟩:=p;simp only[Pv.of] at h hn;obtain⟨hl,⟨e,h0⟩ | ⟨a,cap,e,h1,h2,h3⟩⟩:=h
 ·have hx:x=[]:=bC h0;subst hx;simp only[bD] at hn;subst hn;rfl
 ·cases e;refine jU (by simp [pL,hn]) fun j hj1 hj2=> ?_
  have:=h3 j (nv x[j]) (by simp [nvs,hj2]);simp only[pL,gs,lg,Option.bind_some,this,nv];exact gq _
def lK (w:World) (p:Pv):aE:=(p.wt,pL w p)
theorem PR.eq_phi {w0 w:World} {H:SProp} {p:Pv} {c:aE} (h:PR w0 H p c) (hw:St w0 w H):c=lK w p:=by
 obtain⟨c1,c2⟩:=c;rw[lK,G6 h.n (h.rd w hw),h.wt]
theorem Rows.eq_phi {w0 w:World} {H:SProp} {l:List Pv} {R:List aE} (h:Rows w0 H l R) (hw:St w0 w H):R=l.map (lK w)∧∀ p∈l,PR w0 H p (lK w p):=by
 obtain⟨φ,h1,h2⟩:=h;have e:∀ p∈l,φ p=lK w p:=fun p hp=>(h2 p hp).eq_phi hw
 exact⟨by rw[h1];exact iU e,fun p hp=>by rw[← e p hp];exact h2 p hp⟩
theorem Rows.app {w0 w:World} {H:SProp} (hw:St w0 w H) {l m:List Pv} {R S:List aE} (h:Rows w0 H l R) (k:Rows w0 H m S):Rows w0 H (l++m) (R++S):=by
 obtain⟨h1,h2⟩:=h.eq_phi hw;obtain⟨k1,k2⟩:=k.eq_phi hw;refine⟨lK w,by rw[h1,k1,List.map_append],fun p hp=> ?_⟩
 rcases cA.1 hp with hp | hp
 ·exact h2 p hp
 ·exact k2 p hp
theorem Rows.one {w0:World} {H:SProp} {p:Pv} {c:aE} (h:PR w0 H p c):Rows w0 H [p] [c]:=⟨fun _=>c,rfl,fun q hq=>by rw[List.mem_singleton] at hq;subst hq;exact h⟩
theorem Rows.sort {w0:World} {H:SProp} {l l':List Pv} {R:List aE} (h:Rows w0 H l R) (s:Ss l l'):Rows w0 H l' (il R):=by
 obtain⟨φ,h1,h2⟩:=h;refine⟨φ,?_,fun p hp=>h2 p ((s.mem p).1 hp)⟩;have hwt:∀ p∈l,(φ p).1=p.wt:=fun p hp=>(h2 p hp).wt.symm
 have hf:∀ (k:Nat) (m:List Pv),(∀ p∈m,p∈l)→(m.map φ).filter (fun z=>z.1==k)=(fw k m).map φ:=fun k m hm=>by
  rw[List.filter_map,fw]
  congr 1
  refine List.filter_congr fun p hp=> ?_
  simp only[Function.comp_apply,hwt p (hm p hp)]
 symm
 refine CY ?_ fun k=> ?_
 ·refine List.pairwise_map.2 (s.srt.imp_of_mem fun {a b} ha hb hab=> ?_);rw[hwt a ((s.mem a).1 ha),hwt b ((s.mem b).1 hb)];exact hab
 ·rw[h1,hf k l' (fun p hp=>(s.mem p).1 hp),hf k l (fun p hp=>hp),s.flt]
theorem pM (l:List Pv):∀ u∈cQ l,u.oneCell'=true:=by
 intro u hu;obtain⟨p,_,hp⟩:=iS.1 hu
 rcases List.mem_cons.1 hp with rfl | hp
 ·rfl
 ·rw[List.mem_singleton] at hp;subst hp;rfl
theorem x3 (l:List Nat):∀ u∈nvs l,u.oneCell'=true:=by
 intro u hu;obtain⟨p,_,rfl⟩:=bW.1 hu;rfl
theorem pN {w0:World} {A G:SProp} {p:World→Prop} (h:Stb w0 A p):Stb w0 (A*G) p:=fun w s=>h w s.left
theorem G7 {w0 w:World} {A G:SProp} (h:St w0 w (A*G)) {va vb:Value} {la lb:List Pv} {RA RB:List aE} (h1:Stb w0 A (fun w=>Reads w 2 va la.length (cQ la))) (h2:Stb w0 A (fun w=>Reads w 2 vb lb.length (cQ lb)))
  (r1:Rows w0 A la RA) (r2:Rows w0 A lb RB) (hp:0<la.length) (hla:la.length≤10000) (hlb:lb.length≤10000):
  Calls Tryz.prog 212 #[va,vb] w fun e w'=>∃ v l',e= .returned v∧St w0 w' (aA v l'*(A*G))∧Rows w0 A l' (il (RA++RB)):=by
 obtain⟨aa,ca,rfl⟩:=(h1 w h.left).sub;obtain⟨ab,cb,rfl⟩:=(h2 w h.left).sub;have H:=ac h;have H1:=ac h1;have H2:=ac h2;have RR:=ac (And.intro r1 r2);clear h h1 h2 r1 r2;go_enter Tryz.func212,Tryz.ntmps212;have hbuilt:=H.out.lit #[.slice aa la.length ca,.slice ab lb.length cb] 293 2 rfl (by decide);have HBU:=ac hbuilt;clear hbuilt;go_wp2_with (go_at_call 222;refine(G5 HBU.out Stb.of_own ((pN H1.out).more _) ((pN H2.out).more _) (pM _) (pM _) hla hlb).mono ?_;rintro e w1 ⟨v,rfl,h1⟩;have HC:=ac h1;clear h1;apply ag);have hv:=HC.out;obtain⟨N,hN⟩:∃ N,N=(la++lb).length:=⟨_,rfl⟩;rw[← sy,show la.length+lb.length=N by rw[hN];simp] at hv;obtain⟨av,cv,rfl⟩:=hv.reads.sub;obtain⟨gv,rfl⟩:=bR hv (by rw[hN,ae];omega);have hR:=Rows.app H.out.left RR.out.1 RR.out.2;have hro:St w0 w1 (aA (.slice (some ⟨gv,0,none⟩) N cv) (la++lb)*(own 293 1 (.slice (some ⟨w.heap.size,0,none⟩) 2 2) 2 [.slice aa la.length ca,.slice ab lb.length cb]*(A*G))):=by
  unfold aA;rw[← hN];exact hv
 have hS:=xZ GP (la++lb) hN (by rw[hN,ae];omega) hro;have HSC:=ac hS;have HRR:=ac hR;clear hv hR HC hro hS hN;refine on ?_;go_wp2_with (go_at_call 209;refine HSC.out.mono ?_;rintro e w2 ⟨rfl,l',q1,h1⟩;have HS:=ac (And.intro q1 h1);clear h1 q1);go_ret;obtain⟨q1,h1⟩:=HS.out;have h2:=(h1.perm (af _ _ _)).right;exact⟨_,l',rfl,h2,HRR.out.sort q1⟩
theorem G8 {w0 w:World} {A B:SProp} (h:St w0 w (A*B)):StL w0 w [A,B]:=by
 unfold StL;simp only[dj];rw[fx B di,eG];exact h
theorem G9 {w0 w:World} {A B:SProp} (h:StL w0 w [A,B]):St w0 w (A*B):=by
 unfold StL at h;simp only[dj] at h;rw[fx B di,eG] at h;exact h
theorem Ha (A B C R X:SProp):A*(B*(C*(R*X)))=R*(A*(B*(C*X))):=by rw[af C R,af B R,af A R]
theorem Hc:∀ (q:Nat) (R:List aE) (x y:aE),R[2*q]? =some x→R[2*q+1]? =some y→aO (R.take (2*(q+1)))=aO (R.take (2*q))++[(x.1+y.1,x.2++y.2)]:=by
 intro q
 induction q with
 | zero=>
  intro R x y hx hy
  match R,hx,hy with
  | a::b::R,hx,hy=>
   simp at hx hy;subst hx hy;rfl
 | succ q ih=>
  intro R x y hx hy
  match R,hx,hy with
  | a::b::R,hx,hy=>
   have hx':R[2*q]? =some x:=by
    rw[show 2*(q+1)=(2*q+1)+1 by omega,cY,cY] at hx;exact hx
   have hy':R[2*q+1]? =some y:=by
    rw[show 2*(q+1)+1=(2*q+1+1)+1 by omega,cY,cY] at hy;exact hy
   have:=ih R x y hx' hy';rw[show 2*(q+1+1)=2*(q+1)+1+1 by omega,iE,iE,aO,this,show 2*(q+1)=2*q+1+1 by omega,iE,iE,aO,dB]
theorem Hd:∀ (q:Nat) (R:List aE),R.length≤2*q+1→aO (R.take (2*q))=aO R:=by
 intro q
 induction q with
 | zero=>
  intro R h
  match R with
  | []=>rfl
  | [a]=>rfl
  | a::b::R=>simp at h
 | succ q ih=>
  intro R h
  match R with
  | []=>rfl
  | [a]=>rw[bU (by simp;omega)]
  | a::b::R=>rw[show 2*(q+1)=2*q+1+1 by omega,iE,iE,aO,aO,ih R (by simp at h;omega)]
theorem sE {w:World} {a:Option Addr} {cap n:Nat} {l:List Pv} (h:Reads w 2 (.slice a n cap) n (cQ l)) {k:Nat} {p:Pv} (hk:l[k]? =some p):
  ∃ b off,a=some ⟨b,off,none⟩∧w.cell? ⟨b,off+k*2,none⟩=some (.int .i64 (p.wt:Int))∧w.cell? ⟨b,off+k*2+1,none⟩=some (.slice p.a p.n p.c):=by
 obtain⟨p0,p1⟩:=xS hk;obtain⟨hl,⟨e,rfl⟩ | ⟨⟨b,off,spot⟩,c,e,h1,h2,h3⟩⟩:=h
 ·have:cQ l=[]:=bC (by simpa using hl);rw[this] at p0;simp at p0
 ·cases e;have h00:∃ u,(cQ l)[0]? =some u:=by
   have:k<l.length:=(dJ.1 hk).1;cases l with
   | nil=>simp at this
   | cons p l=>exact⟨_,rfl⟩
  obtain⟨u0,hu0⟩:=h00;have hspot:spot=none:=by simpa [Addr.add] using World.cell?_spot (h3 0 u0 hu0)
  subst hspot;refine⟨b,off,rfl,?_,?_⟩
  ·have:=h3 _ _ p0;rw[Addr.add_lit] at this;exact this
  ·have:=h3 _ _ p1;rw[Addr.add_lit] at this;exact this
theorem He {w0 w:World} {A G:SProp} (h:St w0 w (A*G)) {vl:Value} {ll:List Pv} {R:List aE} (h1:Stb w0 A (fun w=>Reads w 2 vl ll.length (cQ ll))) (r1:Rows w0 A ll R) (hl:ll.length≤10000)
  (hR:∀ c∈R,c.1≤1000000000000000∧c.2.length≤10000):
  Calls Tryz.prog 213 #[vl] w fun e w'=>∃ v l' E,e= .returned v∧St w0 w' (aA v l'*(E*(A*G)))∧Rows w0 (E*A) l' (aO R):=by
 obtain⟨al,cl,rfl⟩:=(h1 w h.left).sub;have hlen:=r1.len;have H:=ac h;have H1:=ac h1;have RR:=ac r1;have HR:=ac hR;clear h h1 r1 hR;have T:=pI;have H0:Hid (St w0 w (aA (.slice none 0 0) []*(di*(A*G)))):=ac (by rw[eG];exact H.out.own_nil _ 2);go_enter Tryz.func213,Tryz.ntmps213;go_wp2_with fail
 go_loopw [3,4] (fun vo vi wr=>∃ (q:Nat) (l':List Pv) (E:SProp),2*q≤ll.length∧vi= .int .i64 (2*q:Nat)∧l'.length=q∧St w0 wr (aA vo l'*(E*(A*G)))∧Rows w0 (E*A) l' (aO (R.take (2*q)))) (fun _ vi _=>ll.length-(intOf vi).toNat)
 case atStart=>exact⟨0,[],di,by omega,rfl,rfl,H0.out,Rows.nil⟩
 case round=>
  clear H H0;obtain⟨q,l',E,hq,rfl,hl',hst,hrow⟩:=hrel;obtain⟨ao,co,rfl⟩:=hst.reads.sub
  by_cases hlt:2*q+1<ll.length
  ·have x1:=ai (l:=ll) (i:=2*q) (by omega);have x2:=ai hlt;obtain⟨c1,k1,pr1⟩:=RR.out.at_ x1;obtain⟨c2,k2,pr2⟩:=RR.out.at_ x2;obtain⟨b,off,rfl,_,_⟩:=sE (H1.out _ hst.right.right.left) x1;obtain⟨B1,B2⟩:=HR.out c1 (aG k1);obtain⟨B3,B4⟩:=HR.out c2 (aG k2);have hpt:=Hc q R c1 c2 k1 k2;generalize ll[2*q]=p at*
   generalize ll[2*q+1]=p' at*
   have HFA:Hid (∀ W,St w0 W (A*G)→W.cell? ⟨b,off+2*q*2,none⟩=some (.int .i64 (p.wt:Int))∧W.cell? ⟨b,off+2*q*2+1,none⟩=some (.slice p.a p.n p.c)∧W.cell? ⟨b,off+(2*q+1)*2,none⟩=some (.int .i64 (p'.wt:Int))∧W.cell? ⟨b,off+(2*q+1)*2+1,none⟩=some (.slice p'.a p'.n p'.c)):=ac fun W hW=>by
    obtain⟨b1,o1,e1,g1,g2⟩:=sE (H1.out _ hW.left) x1;obtain⟨b2,o2,e2,g3,g4⟩:=sE (H1.out _ hW.left) x2;cases e1;cases e2;exact⟨g1,g2,g3,g4⟩
   have hii:((2*q:Nat):Int)+1=((2*q+1:Nat):Int):=by omega
   have hi3:((2*q:Nat):Int)+2=((2*(q+1):Nat):Int):=by omega
   have hlti:((2*q+1:Nat):Int)<ll.length:=by omega
   have hlti0:((2*q:Nat):Int)<ll.length:=by omega
   have hsum:(p.wt:Int)+p'.wt=((p.wt+p'.wt:Nat):Int):=by omega
   have hs6:p.wt+p'.wt≤4000000000000000:=by rw[pr1.wt,pr2.wt];omega
   have hlt0:2*q<ll.length:=by omega
   have hww6:IntKind.i64.wrap ((p.wt+p'.wt:Nat):Int)=((p.wt+p'.wt:Nat):Int):=IntWalk.i64_in _ (by omega);have hw1:IntKind.i64.wrap ((2*q+1:Nat):Int)=((2*q+1:Nat):Int):=IntWalk.i64_in _ (by omega);have hw0:IntKind.i64.wrap ((2*q:Nat):Int)=((2*q:Nat):Int):=IntWalk.i64_in _ (by omega);have HPT:=ac hpt;have PR1:=ac pr1;have PR2:=ac pr2;have HROW:=ac hrow;have HLL:=ac hl';have HBB:=ac (And.intro B2 B4);clear x1 x2 k1 k2 hpt pr1 pr2 hrow hl' B1 B2 B3 B4 hlen hq;obtain⟨i0,hi0⟩:∃ i0,2*q=i0:=⟨_,rfl⟩;obtain⟨i1,hi1⟩:∃ i1,i0+1=i1:=⟨_,rfl⟩;obtain⟨i2,hi2⟩:∃ i2,2*(q+1)=i2:=⟨_,rfl⟩;obtain⟨wts,hwts⟩:∃ wts,p.wt+p'.wt=wts:=⟨_,rfl⟩;rw[hi0] at HFA hii hi3 hlti hlti0 hlt hlt0 hw1 hw0 HPT HROW;rw[hi0];rw[hi1] at HFA hii hlti hlt hw1;rw[hi2] at hi3 HPT;rw[hwts] at hsum hs6 hww6;have HI:=ac (And.intro hi0 (And.intro hi1 (And.intro hi2 hwts)));clear hi0 hi1 hi2 hwts;have HST:=ac hst.drew;clear hst;obtain⟨y1,y2,y3,y4⟩:=HFA.out _ HST.out.right.right;generalize hllen:ll.length=nl at*
   have HNL:=ac hllen;clear hllen;go_upto_region 5 with (fail)
   refine wp_region_noPanic ?_;refine gB (S:=fun w':World=>w'.cell? ⟨b,off+i0*2,none⟩=some (.int .i64 (p.wt:Int))∧w'.cell? ⟨b,off+i0*2+1,none⟩=some (.slice p.a p.n p.c)∧w'.cell? ⟨b,off+i1*2,none⟩=some (.int .i64 (p'.wt:Int))∧w'.cell? ⟨b,off+i1*2+1,none⟩=some (.slice p'.a p'.n p'.c)) (k:=29) (by kernel_rfl) ?_;have hS:(fun w':World=>w'.cell? ⟨b,off+i0*2,none⟩=some (.int .i64 (p.wt:Int))∧w'.cell? ⟨b,off+i0*2+1,none⟩=some (.slice p.a p.n p.c)∧w'.cell? ⟨b,off+i1*2,none⟩=some (.int .i64 (p'.wt:Int))∧w'.cell? ⟨b,off+i1*2+1,none⟩=some (.slice p'.a p'.n p'.c)) wr.drew:=⟨y1,y2,y3,y4⟩;refine cM 5 [0,1,2,3,4] (by kernel_rfl) (fun _ _ _ h=>h) (by assumption) ?_
   iterate 5
    refine cL rfl rfl ⟨?_,fun w=> ?_,?_⟩;rotate_left
    ·(go_simp;try with_reducible rfl)
    simp only[Act.put,sA,sZ,sS]
   refine cK ?_;refine gN 5 rfl (by kernel_rfl) rfl (fun _ _ _ h=>h) (by assumption) ⟨?_,fun w hSw=> ?_,?_⟩;rotate_left
   ·((try dsimp only at hSw);go_simp;try with_reducible rfl)
   simp only[Act.put,sA,sZ,sS];refine cM 5 [6,7,8,9,10] (by kernel_rfl) (fun _ _ _ h=>h) (by assumption) ?_
   iterate 5
    refine cL rfl rfl ⟨?_,fun w=> ?_,?_⟩;rotate_left
    ·(go_simp;try with_reducible rfl)
    simp only[Act.put,sA,sZ,sS]
   refine cK ?_;refine gN 11 rfl (by kernel_rfl) rfl (fun _ _ _ h=>h) (by assumption) ⟨?_,fun w hSw=> ?_,?_⟩;rotate_left
   ·((try dsimp only at hSw);go_simp;try with_reducible rfl)
   simp only[Act.put,sA,sZ,sS];refine cM 5 [12,13,14,15,16] (by kernel_rfl) (fun _ _ _ h=>h) (by assumption) ?_
   iterate 5
    refine cL rfl rfl ⟨?_,fun w=> ?_,?_⟩;rotate_left
    ·(go_simp;try with_reducible rfl)
    simp only[Act.put,sA,sZ,sS]
   refine cK ?_;refine gN 17 rfl (by kernel_rfl) rfl (fun _ _ _ h=>h) (by assumption) ⟨?_,fun w hSw=> ?_,?_⟩;rotate_left
   ·((try dsimp only at hSw);go_simp;try with_reducible rfl)
   simp only[Act.put,sA,sZ,sS];refine cM 5 [18,19,20,21,22] (by kernel_rfl) (fun _ _ _ h=>h) (by assumption) ?_
   iterate 5
    refine cL rfl rfl ⟨?_,fun w=> ?_,?_⟩;rotate_left
    ·(go_simp;try with_reducible rfl)
    simp only[Act.put,sA,sZ,sS]
   refine cK ?_;refine gN 23 rfl (by kernel_rfl) rfl (fun _ _ _ h=>h) (by assumption) ⟨?_,fun w hSw=> ?_,?_⟩;rotate_left
   ·((try dsimp only at hSw);go_simp;try with_reducible rfl)
   simp only[Act.put,sA,sZ,sS];clear y1 y2 y3 y4 hS;generalize wr.drew=W5 at*
   refine aW (i:=24) (by kernel_rfl) ?_;refine wpOp_step (by rfl) fun K hK=> ?_
   have hA:=HST.out.lit #[.slice p.a p.n p.c,.slice p'.a p'.n p'.c] 79 2 rfl (by decide);go_simp;refine hK _ _ ⟨fun e=>HFA.out _ hA.right.right.right,?_⟩;clear hK K;have HA:=ac hA;clear hA;generalize hgg:W5.heap.size=gA at*
   generalize hww:W5.alloc (.cells #[.slice p.a p.n p.c,.slice p'.a p'.n p'.c] 79)=W6 at*
   clear hgg hww;refine aW (i:=25) (by kernel_rfl) ?_;refine wpOp_step (by rfl) fun K hK=> ?_
   go_simp;refine(G3 HA.out Stb.of_own ((((pN PR1.out.rd).more _).more _).more _) ((((pN PR2.out.rd).more _).more _).more _) (x3 _) (x3 _) HBB.out.1 HBB.out.2).mono ?_;rintro e W7 ⟨v7,rfl,h7⟩;refine hK _ _ ⟨fun e=>HFA.out _ h7.right.right.right.right,?_⟩;clear hK K;obtain⟨a7,k7,rfl⟩:=h7.reads.sub;have HC:=ac h7;clear h7;refine aW (i:=26) (by kernel_rfl) ?_;refine wpOp_step (by rfl) fun K hK=> ?_
   go_simp;refine hK _ _ ⟨fun e=>HFA.out _ HC.out.right.right.right.right,?_⟩;clear hK K;refine aW (i:=27) (by kernel_rfl) ?_;refine wpOp_step (by rfl) fun K hK=> ?_
   have h8:=(HC.out.alloc (.cells #[.int .i64 (wts:Int),.slice a7 (c1.2.length+c2.2.length) k7] 295)).own_blk (size:=2) (n:=1) (cap:=1) (xs:=cQ [⟨wts,a7,c1.2.length+c2.2.length,k7⟩]) (Nat.le_refl _) (by decide) rfl rfl;go_simp;refine hK _ _ ⟨fun e=>HFA.out _ h8.right.right.right.right.right,?_⟩;clear hK K;have hx8:=h8.reads;have h8:=h8.perm (Ha _ _ _ _ _);have H8:=ac h8;have HX8:=ac hx8;clear h8 hx8;generalize hgg:W7.heap.size=g8 at*
   generalize hww:W7.alloc (.cells #[.int .i64 (wts:Int),.slice a7 (c1.2.length+c2.2.length) k7] 295)=W8 at*
   clear hgg hww;have hlq:=HLL.out;have hqi:=HI.out.1;have hl'6:l'.length≤10000:=by omega
   refine aW (i:=28) (by kernel_rfl) ?_;refine wpOp_step (by rfl) fun K hK=> ?_
   refine iX T rfl _ _ rfl rfl (G8 H8.out) 0 rfl (x:= .slice (some ⟨g8,0,none⟩) 1 1) rfl (m:=1) (news:=cQ [⟨wts,a7,c1.2.length+c2.2.length,k7⟩]) HX8.out (pM _) (by unfold maxLen;omega) (by omega) fun v9 W9 h90 _=> ?_
   have h9:=G9 h90;have h9':St w0 W9 (aA v9 (l'++[⟨wts,a7,c1.2.length+c2.2.length,k7⟩])*((own 295 2 (.slice (some ⟨g8,0,none⟩) 1 1) 1 (cQ [⟨wts,a7,c1.2.length+c2.2.length,k7⟩])*(own 3 1 (.slice a7 (c1.2.length+c2.2.length) k7) (c1.2.length+c2.2.length) (nvs c1.2++nvs c2.2)*(own 79 1 (.slice (some ⟨gA,0,none⟩) 2 2) 2 [.slice p.a p.n p.c,.slice p'.a p'.n p'.c]*E)))*(A*G))):=by
    unfold aA;rw[sy,ae];simp only[bk];exact h9
   refine hK _ _ ⟨fun e=>HFA.out _ h9.right.right.right.right.right,?_⟩;clear hK K h90 h9;obtain⟨a9,k9,rfl⟩:=h9'.reads.sub;rw[show(l'++[(⟨wts,a7,c1.2.length+c2.2.length,k7⟩:Pv)]).length=l'.length+1 by simp] at h9' ⊢;have H9:=ac h9';clear h9' hlq hqi;refine aW (i:=29) (by kernel_rfl) ?_;refine wpOp_step (by rfl) fun K hK=> ?_
   go_simp;refine hK _ _ ⟨fun e=>(by first | exact HFA.out _ H9.out.right.right | exact absurd e (by decide)),?_⟩;clear hK K;refine⟨(by kernel_rfl),NoPanic.normal ?_⟩;go_wp2_with fail;refine⟨⟨q+1,l'++[⟨wts,a7,c1.2.length+c2.2.length,k7⟩],_,by have:=HI.out;omega,by rw[HI.out.2.2.1],by rw[ae,HLL.out];rfl,H9.out,?_⟩,by have:=HI.out;simp [intOf];omega⟩;rw[HI.out.2.2.1,HPT.out];have hw:=(H9.out.right.perm (bk _ A G).symm).left;refine Rows.app hw ?_ (Rows.one ⟨?_,?_,?_⟩)
   ·have:=(((HROW.out.more (own 79 1 (.slice (some ⟨gA,0,none⟩) 2 2) 2 [.slice p.a p.n p.c,.slice p'.a p'.n p'.c])).more (own 3 1 (.slice a7 (c1.2.length+c2.2.length) k7) (c1.2.length+c2.2.length) (nvs c1.2++nvs c2.2))).more (own 295 2 (.slice (some ⟨g8,0,none⟩) 1 1) 1 (cQ [⟨wts,a7,c1.2.length+c2.2.length,k7⟩])));exact this.perm (by simp only[bk])
   ·show wts=c1.1+c2.1;rw[← PR1.out.wt,← PR2.out.wt,HI.out.2.2.2]
   ·show c1.2.length+c2.2.length=(c1.2++c2.2).length;rw[ae]
   ·intro W hW;have hW':St w0 W (own 295 2 (.slice (some ⟨g8,0,none⟩) 1 1) 1 (cQ [⟨wts,a7,c1.2.length+c2.2.length,k7⟩])*(own 3 1 (.slice a7 (c1.2.length+c2.2.length) k7) (c1.2.length+c2.2.length) (nvs c1.2++nvs c2.2)*(own 79 1 (.slice (some ⟨gA,0,none⟩) 2 2) 2 [.slice p.a p.n p.c,.slice p'.a p'.n p'.c]*(E*A)))):=hW.perm (by simp only[bk]);have:=hW'.right.reads;show Reads W 1 (.slice a7 (c1.2.length+c2.2.length) k7) (c1.2++c2.2).length (nvs (c1.2++c2.2));rw[ae,show nvs (c1.2++c2.2)=nvs c1.2++nvs c2.2 by simp [nvs]];exact this
  ·have hlti:¬ ((2*q+1:Nat):Int)<ll.length:=by omega
   have hii:((2*q:Nat):Int)+1=((2*q+1:Nat):Int):=by omega
   have HST:=ac hst;have HROW:=ac hrow;have HPE:=ac (Hd q R (by rw[← hlen];omega));clear hst hrow hl' hlen;obtain⟨i0,hi0⟩:∃ i0,2*q=i0:=⟨_,rfl⟩;obtain⟨i1,hi1⟩:∃ i1,i0+1=i1:=⟨_,rfl⟩;rw[hi0,hi1] at hii hlti;rw[hi0] at HPE HROW;simp only[hi0];go_wp2_with fail;go_ret;exact⟨_,rfl,l',E,HST.out,by rw[← HPE.out];exact HROW.out⟩
def fJ (l:List aE):Nat:=(l.map fun c=>c.1).sum
def fK (l:List aE):Nat:=(l.map fun c=>c.2.length).sum
theorem x4:∀ (a b:List aE),(bX a b).Perm (a++b):=by
 intro a b
 induction a,b using bX.induct with
 | case1 b=>rw[bX];exact mf _
 | case2 a h=>rw[mI,bE]
 | case3 x a y b h ih=>rw[bX,if_pos h];exact List.Perm.cons x ih
 | case4 x a y b h ih=>
  rw[bX,if_neg h];exact(List.Perm.cons y ih).trans List.perm_middle.symm
theorem Hf:∀ l:List aE,fJ (aO l)≤fJ l:=by
 intro l
 induction l using aO.induct with
 | case1 x y r ih=>rw[aO];simp only[fJ,dR,l6] at ih ⊢;omega
 | case2 l h=>
  rw[aO]
  ·simp [fJ]
  ·exact h
theorem Hg:∀ l:List aE,fK (aO l)≤fK l:=by
 intro l
 induction l using aO.induct with
 | case1 x y r ih=>rw[aO];simp only[fK,dR,l6,ae] at ih ⊢;omega
 | case2 l h=>
  rw[aO]
  ·simp [fK]
  ·exact h
theorem Hh (S:List aE):∀ k,fJ (lv S k)≤k*fJ S:=by
 intro k
 induction k with
 | zero=>simp [lv,fJ]
 | succ k ih=>
  have h1:fJ (bX S (aO (lv S k)))=fJ S+fJ (aO (lv S k)):=by
   rw[fJ,((x4 S _).map _).sum_nat,List.map_append,List.sum_append];rfl
  have:=Hf (lv S k);rw[lv,h1,dC];omega
theorem Hi (S:List aE):∀ k,fK (lv S k)≤k*fK S:=by
 intro k
 induction k with
 | zero=>simp [lv,fK]
 | succ k ih=>
  have h1:fK (bX S (aO (lv S k)))=fK S+fK (aO (lv S k)):=by
   rw[fK,((x4 S _).map _).sum_nat,List.map_append,List.sum_append];rfl
  have:=Hg (lv S k);rw[lv,h1,dC];omega
theorem x5 {l:List Nat} {x:Nat} (h:x∈l):x≤l.sum:=by
 induction l with
 | nil=>cases h
 | cons y l ih=>
  rw[l6]
  rcases List.mem_cons.1 h with rfl | h
  ·omega
  ·have:=ih h;omega
theorem Hj {l:List aE} {c:aE} (h:c∈l):c.1≤fJ l:=x5 (bW.2 ⟨c,h,rfl⟩)
theorem Hk {l:List aE} {c:aE} (h:c∈l):c.2.length≤fK l:=x5 (bW.2 ⟨c,h,rfl⟩)
theorem Hm {often:List Nat} (hb:∀ n∈often,n≤1073741824) (hl:often.length≤300):fJ (aT often)≤300*1073741824∧fK (aT often)≤300:=by
 have hc:comes often≤often.length:=by
  rw[comes,dU,bI];exact cX (lh _ _) (by simp)
 have key:∀ l:List aE,(∀ c∈l,c.1≤1073741824∧c.2.length≤1)→fJ l≤l.length*1073741824∧fK l≤l.length:=by
  intro l
  induction l with
  | nil=>intro _;simp [fJ,fK]
  | cons c l ih=>
   intro h;obtain⟨h1,h2⟩:=h c (by simp);obtain⟨h3,h4⟩:=ih fun c hc=>h c (by simp [hc])
   simp only[fJ,fK,dR,l6,aK] at h3 h4 ⊢;omega
 have:=key (aT often) fun c hc=>by
  obtain⟨i,h1,h2,rfl⟩:=oU hc;refine⟨?_,by simp⟩;show often.getD i 0≤_;rw[List.getD_eq_getElem?_getD,ai h1];exact hb _ (bo h1)
 rw[lE] at this;obtain⟨t1,t2⟩:=this;exact⟨cX t1 (dW _ (by omega)),by omega⟩
theorem Ho {often:List Nat} (hb:∀ n∈often,n≤1073741824) (hl:often.length≤300) {k:Nat} (hk:k≤30):(∀ c∈lv (aT often) k,c.1≤1000000000000000∧c.2.length≤10000)∧(lv (aT often) k).length≤600:=by
 obtain⟨t1,t2⟩:=Hm hb hl;have a1:=Hh (aT often) k;have a2:=Hi (aT often) k;have b1:k*fJ (aT often)≤30*(300*1073741824):=dv hk t1;have b2:k*fK (aT often)≤30*300:=dv hk t2;refine⟨fun c hc=>⟨?_,?_⟩,?_⟩
 ·have:=Hj hc;omega
 ·have:=Hk hc;omega
 ·have hr:(aT often).length≤300:=by
   rw[lE];rw[comes,dU,bI];exact cX (lh _ _) (by simp;omega)
  have:∀ k,(lv (aT often) k).length≤2*(aT often).length:=by
   intro k
   induction k with
   | zero=>simp [lv]
   | succ k ih=>rw[lv,mJ,lz];omega
  have:=this k;omega
theorem Hp (O R E2 V E F:SProp):O*(R*(E2*(V*(E*F))))=(R*(E2*(V*E)))*(O*F):=by ac_rfl
def fW (k:Nat) (L:List Nat):List Nat:=(List.range k).map fun i=>L.count i
theorem Hq (k:Nat):fW k []=List.replicate k 0:=by
 rw[fW];refine iA fun j=> ?_
 rw[au,eb]
 by_cases h:j<k
 ·rw[fs h,if_pos h];rfl
 ·rw[if_neg h,bg (by simp;omega)];rfl
theorem pO {k i:Nat} (h:i<k) (L:List Nat):(nvs (fW k L))[i]? =some (.int .i64 (L.count i:Int)):=by
 rw[nvs,fW,eF,au,fs h];rfl
theorem Hr {k i:Nat} (h:i<k) (L:List Nat):(nvs (fW k L)).set i (.int .i64 ((L.count i+1:Nat):Int))=nvs (fW k (L++[i])):=by
 refine iA fun j=> ?_
 rw[li]
 by_cases hj:j<k
 ·rw[pO hj]
  by_cases hij:i=j
  ·subst hij;rw[if_pos rfl,if_pos (by simp [fW,h]),pO hj,jT];simp
  ·rw[if_neg hij,pO hj];simp [jT,zk,hij]
 ·have h1:∀ L,(nvs (fW k L))[j]? =none:=fun L=>bg (by simp [fW];omega)
  rw[h1,h1]
  split
  ·omega
  ·rfl
theorem Ht (S:List aE) (m r:Nat) {c:aE} (h:(lv S m)[r]? =some c):dT S m (r+1)=dT S m r++c.2:=by
 obtain⟨hlt,rfl⟩:=dJ.1 h;rw[dT,dT,List.take_succ_eq_append_getElem hlt,jS];simp
theorem Hu {often:List Nat} {most:Nat} (h2:2≤comes often) (hm:comes often≤2^most) (h1:1≤most):2*comes often-2≤(lv (aT often) most).length:=by
 obtain⟨k,rfl⟩:∃ k,most=k+1:=⟨most-1,by omega⟩;have:=(uW (wF often) (by rw[lE];exact h2) k (by rw[lE];exact hm)).1;rwa [lE] at this
theorem sF {w0 w:World} {F:SProp} (h:St w0 w F) (often:List Nat) (most:Nat) {v:Value} (hv:Stb w0 F (fun w=>Reads w 1 v often.length (nvs often))) (hl:often.length≤300) (hb:∀ n∈often,n≤1073741824)
  (h1:1≤most) (h30:most≤30) (hm:comes often≤2^most):
  Calls Tryz.prog 197 #[v,.int .i64 (most:Int)] w fun e w'=>∃ v' l,e= .returned (.tuple #[v',.int .i64 0])∧LimOk often most l∧St w0 w' (own 3 1 v' l.length (nvs l)*F):=by
 obtain⟨ao,co,rfl⟩:=(hv w h).sub;have H:=ac h;have HV:=ac hv;have HB:=ac hb;have HM:=ac hm;clear h hv hb hm;have T:=pI;have H0:Hid (St w0 w (aA (.slice none 0 0) []*(di*F))):=ac (by rw[eG];exact H.out.own_nil _ 2);have hm1:¬ ((most:Int)<1):=by omega
 have hm2:¬ ((30:Int)<most):=by omega
 have hl3:¬ ((300:Int)<often.length):=by omega
 obtain⟨N,hN⟩:∃ N,often.length=N:=⟨_,rfl⟩;rw[hN] at HV hl hl3;simp only[hN];have HN:=ac hN;clear hN;go_enter Tryz.func197,Tryz.ntmps197;go_wp2_with fail
 go_loopw [6,28] (fun vs vi wr=>∃ (k:Nat) (l':List Pv) (E:SProp),k≤N∧vi= .int .i64 k∧l'.length≤k∧St w0 wr (aA vs l'*(E*F))∧Rows w0 (E*F) l' (dU often k)) (fun _ vi _=>N-(intOf vi).toNat)
 case atStart=>exact⟨0,[],di,by omega,rfl,by simp,H0.out,Rows.nil⟩
 case round=>
  clear H H0;obtain⟨k,l',E,hk,rfl,hl',hst,hrow⟩:=hrel;obtain⟨a6,c6,rfl⟩:=hst.reads.sub
  by_cases hkn:k<N
  ·have hkI:(k:Int)<N:=by omega
   obtain⟨b,off,rfl,c1⟩:=(HV.out _ hst.right.right).at_ hkn;have hx:(nvs often)[k]? =some (nv (often.getD k 0)):=by
    rw[nvs,au,List.getD_eq_getElem?_getD,ai (by rw[HN.out];exact hkn)];rfl
   rw[hx] at c1;have hxb:often.getD k 0≤1073741824:=by
    rw[List.getD_eq_getElem?_getD,ai (by rw[HN.out];exact hkn)];exact HB.out _ (bo _)
   have HSS:=ac (Es often k);generalize often.getD k 0=x at*
   simp only[nv] at c1;have HST:=ac hst;have HROW:=ac hrow;have HLL:=ac hl';clear hst hrow hx hl'
   by_cases h0:x=0
   ·subst h0;go_wp2_with fail;refine⟨⟨k+1,l',E,by omega,by go_num,by have:=HLL.out;omega,HST.out,by rw[HSS.out];simpa using HROW.out⟩,by simp [intOf];omega⟩
   ·have h0i:(0:Int)<x:=by omega
    have h0n:¬ ((x:Int)<0):=by omega
    have hxn:¬ ((1073741824:Int)<x):=by omega
    go_wp2_with (at_builtin;apply ag);have hA:=HST.out.lit #[.int .i64 (k:Int)] 3 1 rfl (by decide);have h8:=(hA.alloc (.cells #[.int .i64 (x:Int),.slice (some ⟨wr.heap.size,0,none⟩) 1 1] 295)).own_blk (size:=2) (n:=1) (cap:=1) (xs:=cQ [⟨x,some ⟨wr.heap.size,0,none⟩,1,1⟩]) (Nat.le_refl _) (by decide) rfl rfl;have hsz:(wr.alloc (.cells #[.int .i64 (k:Int)] 3)).heap.size=wr.heap.size+1:=by simp
    rw[hsz] at h8;have hx8:=h8.reads;have h8':=h8.perm (show _=aA (.slice a6 l'.length c6) l'*(own 295 2 (.slice (some ⟨wr.heap.size+1,0,none⟩) 1 1) 1 (cQ [⟨x,some ⟨wr.heap.size,0,none⟩,1,1⟩])*(own 3 1 (.slice (some ⟨wr.heap.size,0,none⟩) 1 1) 1 [.int .i64 (k:Int)]*(E*F))) by rw[af (own 3 _ _ _ _) (aA _ _),af (own 295 _ _ _ _) (aA _ _)]);refine on (aC T rfl (.tmp 43) (.tmp 48) rfl rfl h8' (x:= .slice (some ⟨wr.heap.size+1,0,none⟩) 1 1) rfl hx8 (pM _) (by have:=HLL.out;unfold maxLen;omega) (by have:=HLL.out;omega) ?_);intro v9 w9 h9 _;have h9':St w0 w9 (aA v9 (l'++[⟨x,some ⟨wr.heap.size,0,none⟩,1,1⟩])*((own 295 2 (.slice (some ⟨wr.heap.size+1,0,none⟩) 1 1) 1 (cQ [⟨x,some ⟨wr.heap.size,0,none⟩,1,1⟩])*(own 3 1 (.slice (some ⟨wr.heap.size,0,none⟩) 1 1) 1 [.int .i64 (k:Int)]*E))*F)):=by
     unfold aA;rw[sy,ae];simp only[bk];exact h9
    obtain⟨a9,k9,rfl⟩:=h9'.reads.sub;have hln:(l'++[(⟨x,some ⟨wr.heap.size,0,none⟩,1,1⟩:Pv)]).length=l'.length+1:=by simp
    rw[hln] at h9' ⊢;have H9:=ac h9';clear h9 h9' h8 h8' hx8 hA;go_wp2_with fail;refine⟨⟨k+1,l'++[⟨x,some ⟨wr.heap.size,0,none⟩,1,1⟩],_,by omega,by go_num,by rw[hln];have:=HLL.out;omega,H9.out,?_⟩,by simp [intOf];omega⟩;rw[HSS.out,if_pos (by omega)];have hw:=H9.out.right;refine Rows.app hw ?_ (Rows.one ⟨rfl,rfl,?_⟩)
    ·have:=((HROW.out.more (own 3 1 (.slice (some ⟨wr.heap.size,0,none⟩) 1 1) 1 [.int .i64 (k:Int)])).more (own 295 2 (.slice (some ⟨wr.heap.size+1,0,none⟩) 1 1) 1 (cQ [⟨x,some ⟨wr.heap.size,0,none⟩,1,1⟩])));exact this.perm (by simp only[bk])
    ·intro W hW;have hW':St w0 W (own 295 2 (.slice (some ⟨wr.heap.size+1,0,none⟩) 1 1) 1 (cQ [⟨x,some ⟨wr.heap.size,0,none⟩,1,1⟩])*(own 3 1 (.slice (some ⟨wr.heap.size,0,none⟩) 1 1) 1 [.int .i64 (k:Int)]*(E*F))):=hW.perm (by simp only[bk]);exact hW'.right.reads
  ·obtain rfl:k=N:=by omega
   have hkI:¬ ((k:Int)<k):=by omega
   have hs:dU often k=dU often often.length:=by rw[HN.out]
   rw[hs] at hrow;have hcl:l'.length=comes often:=hrow.len;have HST:=ac hst;have HROW:=ac hrow;have HCL:=ac hcl;clear hst hrow hl' hs;rw[hcl] at HST ⊢;clear hcl;have hc6:comes often≤300:=by have:=HCL.out;rw[comes,dU,bI];exact cX (lh _ _) (by rw[jQ,HN.out];exact hl)
   have T1:=fA;have hsh:wrap64 ((2:Int)^most)=((2^most:Nat):Int):=by
    have e:((2:Int)^most)=((2^most:Nat):Int):=by simp
    rw[e,wrap64];have:(2:Nat)^most≤2^30:=dX (by decide) h30;have e2:(2:Nat)^30=1073741824:=by decide
    generalize (2:Nat)^most=z at*
    omega
   have hsle:¬ wrap64 ((2:Int)^most)<(comes often:Nat):=by rw[hsh];have:=HM.out;omega
   clear hsh;go_wp2_with (at_make;apply ag);refine on (iF T1 rfl _ _ rfl k rfl rfl rfl rfl HST.out (by unfold maxLen;omega) (by omega) ?_);intro v9 w3 h3;have e0:(madeCells (iv 0).cells (k*1)).toList=nvs (List.replicate k 0):=by
    rw[gW];simp only[iv,Value.cells,toList_madeCells_one,nvs,nD];rfl
   rw[e0] at h3;obtain⟨a9,c9,rfl⟩:=h3.reads.sub;have H3:=ac h3;clear h3 HST e0
   by_cases hz:comes often=0
   ·have hL:LimOk often most (List.replicate k 0):=by
     have hno:∀ i,i<often.length→¬ 0<often.getD i 0:=fun i hi h=>by
      have:=rT hi h;rw[bC hz] at this;cases this
     refine⟨by rw[dK,HN.out],fun i hi=> ?_,fun n hn=> ?_,fun h=>by omega,fun _ n hn=> ?_⟩
     ·constructor
      ·intro h;rw[List.getD_eq_getElem?_getD,eb] at h
       split at h <;> simp at h
      ·intro h;exact absurd h (hno i hi)
     ·rw[(mg.1 hn).2];omega
     ·rw[(mg.1 hn).2];omega
    have HLL:=ac hL;clear hL;rw[hz] at H3 ⊢;rw[hz] at hsle;go_wp2_with fail;go_ret2;have hf:=(H3.out.perm (af _ _ _)).right.perm (af _ _ _);exact⟨_,_,rfl,HLL.out,by rw[dK];exact hf.right⟩
   ·by_cases ho:comes often=1
    ·have hl1:l'.length=1:=by rw[HCL.out,ho]
     obtain⟨p,rfl⟩:=tg.1 hl1;obtain⟨c,hc,prc⟩:=HROW.out.at_ (k:=0) (p:=p) rfl;have hcm:=aG hc;obtain⟨i,hi,hi0,rfl⟩:=wy hcm;have hno:∀ j,j<often.length→0<often.getD j 0→j=i:=fun j hj h=>by
      have hm:=rT hj h;have hlen:(dU often often.length).length=1:=ho;obtain⟨u,hu⟩:=tg.1 hlen;rw[hu,List.mem_singleton] at hm hcm;have:=hm.trans hcm.symm;simpa using congrArg Prod.snd this
     have hik:i<k:=by rw[← HN.out];exact hi
     have hr:=H3.out.perm (af _ _ _);obtain⟨g6,rfl⟩:=bR (xs:=cQ [p]) (n:=1) (size:=2) (e:=295) (hr.perm (by rw[ho];rfl)) (by omega);have hrd:=prc.rd w3 hr.right.right;obtain⟨bp,op,cp,ep,hcell⟩:=hrd.cell (j:=0) (by simp);obtain⟨d1,d2⟩:=fV hr (l:=[p]) (by rw[ho];rfl) (k:=0) (p:=p) rfl;have hn1:p.n=1:=prc.n;obtain⟨g9,rfl⟩:=bR H3.out (by omega);have c9:w3.cell? ⟨g9,i,none⟩=some (.int .i64 0):=St.own_cell H3.out (by simp [nvs,hik];rfl);have f9:=St.own_free H3.out i;have hL:LimOk often most ((List.replicate k 0).set i 1):=by
      refine⟨by rw[eE,dK,HN.out],fun j hj=> ?_,fun n hn=> ?_,fun h=>by omega,fun _ n hn=> ?_⟩
      ·rw[List.getD_eq_getElem?_getD,li]
       by_cases hij:i=j
       ·subst hij;rw[if_pos rfl,if_pos (by simpa using hik)];exact⟨fun _=>hi0,fun _=>by simp⟩
       ·rw[if_neg hij,eb,if_pos (by rw[← HN.out];exact hj)];exact⟨fun h=>by simp at h,fun h=>absurd (hno j hj h).symm hij⟩
      ·rcases l9 hn with h | h
       ·rw[(mg.1 h).2];omega
       ·omega
      ·rcases l9 hn with h | h
       ·rw[(mg.1 h).2];omega
       ·omega
     have HLL:=ac hL;have hset:=St.own_set H3.out i (.int .i64 1);have es:(nvs (List.replicate k 0)).set i (.int .i64 1)=nvs ((List.replicate k 0).set i 1):=by rw[nvs,nvs,ez];rfl
     rw[es] at hset;have HSE:=ac hset;have hikI:(i:Int)<k:=by omega
     obtain⟨pw,pa,pn,pc⟩:=p;simp only[Pv.of] at ep;injection ep with ep1 ep2 ep3
     simp only at d1 d2 hn1;subst ep1 hn1;simp only[lS,bQ,fL] at d1 d2 hcell;have hcell2:w3.cell? ⟨bp,op,none⟩=some (.int .i64 (i:Int)):=hcell;clear hcell hL hset es hr hrd hc hcm hno prc HROW HCL hl1 hz;rw[ho] at hsle;rw[ho];clear H3 ep2 ep3;go_wp2_with fail;go_ret2;have hf:=(HSE.out.perm (af _ _ _)).right.perm (af _ _ _);exact⟨_,_,rfl,HLL.out,by rw[eE,dK];exact hf.right⟩
    ·have h2:2≤comes often:=by omega
     have hst3:=H3.out.perm (af _ _ _);obtain⟨g6,rfl⟩:=bR (xs:=cQ l') (n:=comes often) (size:=2) (e:=295) (hst3.perm (by unfold aA;rw[HCL.out])) (by omega);obtain⟨n6,hn6⟩:∃ n6,comes often=n6:=⟨_,rfl⟩;rw[hn6] at hst3 hsle h2 hc6 hz ho ⊢;have HN6:=ac hn6;clear hn6;have hS:=xZ GO l' (by rw[HCL.out,HN6.out]) (by omega) hst3;have HSC:=ac hS;have HCL':=HCL;clear hS H3 hst3;go_wp2_with (go_at_call 209;refine HSC.out.mono ?_;rintro e w4 ⟨rfl,l2,q1,h4⟩;have HS4:=ac (And.intro q1 h4);clear h4 q1);have hrow2:Rows w0 (E*F) l2 (aT often):=HROW.out.sort HS4.out.1;have hl2:l2.length=n6:=by rw[HS4.out.1.len,HCL.out,HN6.out]
     obtain⟨A0,hA0⟩:∃ A0,aA (.slice (some ⟨g6,0,none⟩) n6 c6) l2*(E*F)=A0:=⟨_,rfl⟩;obtain⟨G0,hG0⟩:∃ G0,own 3 1 (.slice a9 k c9) k (nvs (List.replicate k 0))=G0:=⟨_,rfl⟩;have hb5:St w0 w4 (aA (.slice none 0 0) []*(di*(A0*G0))):=by
      rw[eG,← hA0,← hG0];have:=(HS4.out.2.perm (af _ _ _)).perm (fx _ _);exact this.own_nil _ 2
     have HR2:Hid (Rows w0 A0 l2 (aT often)):=ac (by rw[← hA0];exact hrow2.more _);have HV6:Hid (Stb w0 A0 (fun w=>Reads w 2 (.slice (some ⟨g6,0,none⟩) n6 c6) l2.length (cQ l2))):=ac (by rw[← hA0];exact Stb.of_own);have HA0:=ac hA0;have HG0:=ac hG0;have HL2:=ac hl2;have HB5:=ac hb5;have HSM:Hid (∀ j,j≤most→(∀ c∈lv (aT often) j,c.1≤1000000000000000∧c.2.length≤10000)∧(lv (aT often) j).length≤600):=ac fun j hj=>Ho HB.out (by rw[HN.out];exact hl) (by omega)
     clear hA0 hG0 hb5 hrow2 hl2 HS4 HSC HROW HCL HCL';go_wp2_with fail
     go_loopw [10,81] (fun vl vi wr=>∃ (j:Nat) (l10:List Pv) (E2:SProp),j≤most∧vi= .int .i64 j∧St w0 wr (aA vl l10*(E2*(A0*G0)))∧Rows w0 (E2*A0) l10 (lv (aT often) j)) (fun _ vi _=>most-(intOf vi).toNat)
     case atStart=>exact⟨0,[],di,by omega,rfl,HB5.out,Rows.nil⟩
     case round=>
      clear HB5;obtain⟨j,l10,E2,hj,rfl,hst,hrow⟩:=hrel
      by_cases hjm:j<most
      ·have hjI:(j:Int)<most:=by omega
       obtain⟨a10,c10,rfl⟩:=hst.reads.sub;have HP:=He (w0:=w0) (w:=wr) (A:=aA (.slice a10 l10.length c10) l10*(E2*A0)) (G:=G0) (vl:= .slice a10 l10.length c10) (ll:=l10) (R:=lv (aT often) j) (hst.perm (by simp only[bk])) Stb.of_own (hrow.more _)
        (by have:=(HSM.out j hj).2;have:=hrow.len;omega) ((HSM.out j hj).1)
       have HP':=ac HP;have HROW:=ac hrow;clear HP hrow hst;have hl6:l2.length≤10000:=by rw[HL2.out];omega
       have h2l:0<l2.length:=by rw[HL2.out];omega
       have HC:Hid (∀ (W:World) (v1:Value) (l1:List Pv) (E1:SProp),St w0 W (aA v1 l1*(E1*(aA (.slice a10 l10.length c10) l10*(E2*A0)*G0)))→Rows w0 (E1*(aA (.slice a10 l10.length c10) l10*(E2*A0))) l1 (aO (lv (aT often) j))→
         Calls Tryz.prog 212 #[.slice (some ⟨g6,0,none⟩) n6 c6,v1] W fun e w'=>∃ v2 l3 E3,e= .returned v2∧St w0 w' (aA v2 l3*(E3*(A0*G0)))∧Rows w0 (E3*A0) l3 (lv (aT often) (j+1))):=ac fun W v1 l1 E1 hW hr=>by
        have hr1:Rows w0 (aA v1 l1*(E1*(aA (.slice a10 l10.length c10) l10*(E2*A0)))) l1 (aO (lv (aT often) j)):=hr.more _;have hlp:l1.length≤10000:=by
         have:=hr.len;rw[lz] at this;have:=(HSM.out j hj).2;omega
        have M:=G7 (w0:=w0) (w:=W) (A:=aA v1 l1*(E1*(aA (.slice a10 l10.length c10) l10*(E2*A0)))) (G:=G0) (va:= .slice (some ⟨g6,0,none⟩) n6 c6) (vb:=v1) (la:=l2) (lb:=l1) (RA:=aT often) (RB:=aO (lv (aT often) j))
         (hW.perm (by simp only[bk])) ((((HV6.out.more _).more _).more _).more _) Stb.of_own ((((HR2.out.more _).more _).more _).more _) hr1 h2l hl6 hlp
        refine M.mono ?_;rintro e w' ⟨v2,l3,rfl,m1,m2⟩;refine⟨v2,l3,aA v1 l1*(E1*(aA (.slice a10 l10.length c10) l10*E2)),rfl,m1.perm (by simp only[bk]),?_⟩;have hsr:dZ (aT often):=oE _;rw[uZ (aT often) (aO (lv (aT often) j)) hsr (oB _ (oC _ hsr j))] at m2;rw[lv];exact m2.perm (by simp only[bk])
       go_wp2_with (first | (go_at_call 213;refine HP'.out.mono ?_;rintro e w5 ⟨v1,l1,E1,rfl,h5,r5⟩;have HP5:=ac (And.intro h5 r5);clear h5 r5) | (go_at_call 212;refine(HC.out _ _ _ _ HP5.out.1 HP5.out.2).mono ?_;rintro e w6 ⟨v2,l3,E3,rfl,h6,r6⟩;have HP6:=ac (And.intro h6 r6);clear h6 r6));exact⟨⟨j+1,l3,E3,by omega,by go_num,HP6.out.1,HP6.out.2⟩,by simp [intOf];omega⟩
      ·obtain rfl:j=most:=by omega
       have hjI:¬ ((j:Int)<j):=by omega
       have hen:2*n6-2≤l10.length:=by
        have:=Hu (often:=often) (most:=j) (by rw[HN6.out];exact h2) HM.out h1;rw[HN6.out] at this;rw[hrow.len];exact this
       have hlen6:l10.length≤600:=by rw[hrow.len];exact(HSM.out j (Nat.le_refl _)).2
       obtain⟨a10,c10,rfl⟩:=hst.reads.sub;obtain⟨g10,rfl⟩:=bR hst (by omega);have hcap:=hst.right;obtain⟨X,hX⟩:∃ X,aA (.slice (some ⟨g10,0,none⟩) l10.length c10) l10*(E2*A0)=X:=⟨_,rfl⟩;have hst2:St w0 wr (own 3 1 (.slice a9 k c9) k (nvs (fW k (dT (aT often) j 0)))*X):=by
        have e:dT (aT often) j 0=[]:=by simp [dT]
        rw[e,Hq,← hX,HG0.out];exact hst.perm (by rw[fx G0];simp only[bk])
       have hcp:l10.length≤c10:=by
        obtain⟨_,⟨e1,e2⟩ | ⟨x,cap',e1,e2,e3,_⟩⟩:=hst.reads
        ·cases e1
        ·cases e1;exact e2
       have HXR:Hid (∀ W,St w0 W X→(∀ (r:Nat) (p:Pv),l10[r]? =some p→W.cell? ⟨g10,r*2,none⟩=some (.int .i64 (p.wt:Int))∧W.cell? ⟨g10,r*2+1,none⟩=some (.slice p.a p.n p.c))∧
         (∀ (r:Nat) (p:Pv),l10[r]? =some p→∃ c,(lv (aT often) j)[r]? =some c∧p.n=c.2.length∧Reads W 1 p.of c.2.length (nvs c.2))):=ac fun W hW=>by
        rw[← hX] at hW;refine⟨fun r p hp=>fV hW rfl hp,fun r p hp=> ?_⟩;obtain⟨c,hc,pr⟩:=hrow.at_ hp;exact⟨c,hc,pr.n,pr.rd W hW.right⟩
       have HX:=ac hX;have HST2:=ac hst2;have HEN:=ac hen;have HRL:=ac hrow.len;obtain⟨n2,hn2⟩:∃ n2,2*n6-2=n2:=⟨_,rfl⟩;have hn2I:(2:Int)*n6-2=(n2:Int):=by omega
       have hn2p:0≤(n2:Int):=by omega
       have hn2c:n2≤c10:=by omega
       have hn2l:n2≤l10.length:=by omega
       have hn26:n2≤600:=by omega
       have HN2:=ac hn2;clear hX hst2 hst hrow hen hcap hn2 hcp;generalize hll10:l10.length=n10 at*
       have HL10:=ac hll10;clear hll10;go_wp2_with fail
       go_loopw [12,14,95] (fun vp vx vi wr=>∃ r:Nat,r≤n2∧vi= .int .i64 r∧(dT (aT often) j r).length≤r*10000∧St w0 wr (own 3 1 (.slice a9 k c9) k (nvs (fW k (dT (aT often) j r)))*X)) (fun _ _ vi _=>n2-(intOf vi).toNat)
       case atStart=>exact⟨0,by omega,rfl,by simp [dT],HST2.out⟩
       case round=>
        clear HST2;obtain⟨r,hr,rfl,hLl,hst⟩:=hrel
        by_cases hrn:r<n2
        ·have hx:=ai (l:=l10) (i:=r) (by rw[HL10.out];omega);obtain⟨f1,f2⟩:=HXR.out wr hst.right;obtain⟨c,hc,hpn,hrd⟩:=f2 r _ hx;obtain⟨d1,d2⟩:=f1 r _ hx;have hci:=Ht (aT often) j r hc;have hcb:=((HSM.out j (Nat.le_refl _)).1 c (aG hc)).2;have hcid:=wH j c (aG hc);have HRD:Hid (∀ W,St w0 W X→Reads W 1 (l10[r]'(by rw[HL10.out];omega)).of c.2.length (nvs c.2)):=ac fun W hW=>by
          obtain⟨c',hc',_,h⟩:=(HXR.out W hW).2 r _ hx;rw[hc] at hc';cases hc';exact h
         generalize l10[r]'(by rw[HL10.out];omega)=p at*
         obtain⟨pw,pa,pn,pc⟩:=p;simp only[Pv.of] at HRD d1 d2 hpn;have hrI:(r:Int)<n2:=by omega
         have HCI:=ac hci;have HCID:=ac hcid;have HLL:=ac hLl;obtain⟨L0,hL0⟩:∃ L0,dT (aT often) j r=L0:=⟨_,rfl⟩;rw[hL0] at hst;have HL0:=ac hL0;have HST:=ac hst;clear f1 f2 hx hc hrd hci hcid hLl hst hL0;obtain⟨cl,hcl⟩:∃ cl,c.2.length=cl:=⟨_,rfl⟩;rw[hcl] at hpn hcb HRD;subst hpn;have HCL:=ac hcl;clear hcl;have hAl:=(HST.out.alloc (.cells #[.int .i64 (pw:Int),.slice pa pn pc] 295));go_upto_region 29 with (fail)
         have t1:=hAl.cell 1 rfl;have HAL:=ac hAl.right;clear hAl HST d1 d2;generalize wr.heap.size=b12 at*
         generalize wr.alloc (.cells #[.int .i64 (pw:Int),.slice pa pn pc] 295)=W1 at*
         go_wp2_with fail;clear t1
         go_loopw [14,102] (fun vx vi wr=>∃ t:Nat,t≤pn∧vi= .int .i64 t∧St w0 wr (own 3 1 (.slice a9 k c9) k (nvs (fW k (L0++c.2.take t)))*X)) (fun _ vi _=>pn-(intOf vi).toNat)
         case atStart=>exact⟨0,by omega,rfl,by simpa using HAL.out⟩
         case round=>
          clear HAL;obtain⟨t,ht,rfl,hst⟩:=hrel
          by_cases htc:t<pn
          ·have htI:(t:Int)<pn:=by omega
           have hxt:=ai (l:=c.2) (i:=t) (by rw[HCL.out];exact htc);obtain⟨hi1,_⟩:=HCID.out _ (aG hxt);obtain⟨bp,op,rfl,hcell⟩:=(HRD.out wr hst.right).at_ htc;rw[show(nvs c.2)[t]? =some (nv (c.2[t]'(by rw[HCL.out];exact htc))) by rw[nvs,au,hxt];rfl] at hcell;have hts:c.2.take (t+1)=c.2.take t++[c.2[t]'(by rw[HCL.out];exact htc)]:=List.take_succ_eq_append_getElem (by rw[HCL.out];exact htc);generalize c.2[t]'(by rw[HCL.out];exact htc)=i at*
           rw[HN.out] at hi1;have hi1I:(i:Int)<k:=by omega
           obtain⟨g9,rfl⟩:=bR hst (by omega);have hget:=St.own_cell hst (pO hi1 (L0++c.2.take t));have hfr:=St.own_free hst i;have hle:(L0++c.2.take t).count i≤10000000:=by
            refine cX zm ?_;rw[ae,aJ,← HL0.out];have:=HLL.out;have:r*10000≤600*10000:=dW _ (by omega);omega
           have hset:=St.own_set hst i (.int .i64 (((L0++c.2.take t).count i+1:Nat):Int));rw[Hr hi1,List.append_assoc,← hts] at hset;have HSE:=ac hset;have HTS:=ac hts;clear hset hst hts hxt;generalize (L0++c.2.take t).count i=z at*
           simp only[nv] at hcell;go_wp2_with fail;exact⟨⟨t+1,by omega,by go_num,HSE.out⟩,by simp [intOf];omega⟩
          ·obtain rfl:t=pn:=by omega
           have htI:¬ ((t:Int)<t):=by omega
           have HST:=ac hst;clear hst;go_wp2_with fail;refine⟨⟨r+1,by omega,by go_num,?_,?_⟩,by simp [intOf];omega⟩
           ·rw[HCI.out,ae,HCL.out];have:=HLL.out;omega
           ·have:=HST.out;rw[bU (by rw[HCL.out];omega),← HL0.out,← HCI.out] at this;exact this
        ·obtain rfl:r=n2:=by omega
         have hrI:¬ ((r:Int)<r):=by omega
         have HST:=ac hst;clear hst;have hok:=Ex (often:=often) (most:=j) (by rw[HN6.out];exact h2) HM.out h1 h30;have e1:j8 often j=fW k (dT (aT often) j r):=by
          rw[j8,j7,HN6.out,HN2.out,HN.out,fW]
         rw[e1] at hok;have HOK:=ac hok;clear hok e1;go_wp2_with fail;go_ret2;have hf:=HST.out;rw[← HX.out,← HA0.out] at hf;have hl:(fW k (dT (aT often) j r)).length=k:=by simp [fW]
         refine⟨_,rfl,_,HOK.out,?_⟩;rw[hl];have h2:=hf.perm (Hp _ _ _ _ _ _);exact h2.right
end Go.Proofs.YtboflbdniogcdaaGreatDoor
