/-
  Parts of a proof.
-/
import Derived.Test.YtboflbdniogcdaaGreatDoorK21
import Derived.Test.YtboflbdniogcdaaGreatDoorK35
set_option linter.unusedVariables false
set_option linter.unusedSimpArgs false
set_option maxRecDepth 100000
set_option maxHeartbeats 100000000
namespace Go.Proofs.YtboflbdniogcdaaGreatDoor
open Go.RowKit Go.Mz
theorem pD {w0 w:World} {F:SProp} {B:Nat} {l:List Nat} (h:St w0 w (az B l true*F)) (last:Bool) (kind:Nat) (hk:kind<4) (hm:l.length≤10000000000000):
  Calls Tryz.prog 168 #[.pointer (some ⟨B,0,none⟩),.bool last,.int .u32 (kind:Int)] w fun e w'=>e= .returned (.tuple #[])∧St w0 w' (az B (l++headL last kind) true*F):=by
 have hlt:last.toNat≤1:=by cases last <;> simp
 have HW:=ac (dE h (2*kind+last.toNat) 3 (by omega) (fun _=>by omega) (by omega) (by omega));have e:bi true (2*kind+last.toNat) 3=headL last kind:=rfl;rw[e] at HW;clear e h;have hkk:kind=0∨kind=1∨kind=2∨kind=3:=by omega
 have o0:bits BinOp.or .u32 0 1=1:=by decide
 have o2:bits BinOp.or .u32 2 1=3:=by decide
 have o4:bits BinOp.or .u32 4 1=5:=by decide
 have o6:bits BinOp.or .u32 6 1=7:=by decide
 cases last <;> rcases hkk with rfl | rfl | rfl | rfl
 all_goals
  simp only[Bool.toNat_false,Bool.toNat_true] at HW;go_enter Tryz.func168,Tryz.ntmps168;go_wp2_with (go_at_call 85;refine HW.out.mono ?_;rintro e w1 ⟨rfl,h1⟩;have H1:=ac h1;clear h1)
  go_end0
  exact⟨rfl,H1.out⟩
def kW (B:Nat) (W:List (List Nat)):SProp:=gt fun N:List Nd=>ou B N W.length (W.map tx)
theorem Gj {l:List Nat} (h:Bit l):eI (tx l)=l:=by
 induction l with
 | nil=>rfl
 | cons b l ih=>
  have hb:=h b (by simp);simp only[tx,eI,dR] at ih ⊢;rw[ih fun x hx=>h x (by simp [hx]),jy hb]
  congr 1;omega
theorem Gk {l:List Nat} (h:Bit l):kA (tx l)=true:=by
 rw[kA,qh];intro c hc;obtain⟨b,hb,rfl⟩:=bW.1 hc;have:=h b hb;have:b=0∨b=1:=by omega
 rcases this with rfl | rfl <;> rfl
theorem nd {w0 w:World} {F:SProp} {B Rb:Nat} {W:List (List Nat)} {l:List Nat} (h:St w0 w (kW B W*(az Rb l true*F))) (hW:∀ w∈W,Bit w) (i:Nat) {x:List Nat} (hx:W[i]? =some x) (hne:x≠[]) (hxl:x.length≤1000000) (hm:l.length≤10000000000000) {j:Int} (hj:j=i):
  Calls Tryz.prog 200 #[.pointer (some ⟨B,0,none⟩),.pointer (some ⟨Rb,0,none⟩),.int .i64 j] w fun e w'=>e= .returned (.int .i64 0)∧St w0 w' (kW B W*(az Rb (l++x) true*F)):=by
 subst hj;obtain⟨N,hN⟩:=h.ex_l;have hi:i<W.length:=(dJ.1 hx).1;have e1:fB (W.map tx) (i:Int)=tx x:=by
  rw[fB,if_pos ⟨by omega,by rw[bI];omega⟩,gq,List.getD_eq_getElem?_getD,au,hx];rfl
 have hbx:Bit x:=hW x (aG hx);have C:=rf (.inr (.inr rfl)) hN (Cu hN) (i:Int) (by rw[e1];exact Gk hbx) (by rw[e1];simpa [tx] using hxl) hm;rw[e1,Gj hbx,if_neg (fun h0=>hne (by simpa [tx] using h0))] at C;exact C.mono fun e w' ⟨h1,h2⟩=>⟨h1,St.mk_ex_l N h2⟩
theorem su {w0 w:World} {F:SProp} (h:St w0 w F) (l:List Nat) (ok:OkC l) (h30:∀ n∈l,n≤30) (h0:0<l.length) (hl:l.length≤900) {v:Value} (hv:Stb w0 F (fun w=>Reads w 1 v l.length (nvs l))):
  Calls Tryz.prog 199 #[v] w fun e w'=>∃ B,e= .returned (.tuple #[.pointer (some ⟨B,0,none⟩),.int .i64 0])∧St w0 w' (kW B (aB l)*F):=by
 have hlen:(l.map fun(n:Nat)=>(n:Int)).length=l.length:=by simp
 have hiv:(l.map fun(n:Nat)=>(n:Int)).map iv=nvs l:=by rw[eF];rfl
 have CV:=De h (l.map fun(n:Nat)=>(n:Int)) (v:=v) (by rw[hlen,hiv];exact hv) (by omega);rw[sc ok h30] at CV;simp only at CV;obtain⟨a1,c1,rfl⟩:=(hv w h).sub;have HC:=ac CV;have hWl:(aB l).length=l.length:=by simp [aB]
 have hbt:=je l;obtain⟨N,hN,_⟩:=q9 hbt (lC ok h30);have hsz:∀ (i:Nat) (t:List UInt8),((aB l).map tx)[i]? =some t→t.length≤1000:=fun i t ht=>by
  obtain⟨x,hx,rfl⟩:=bW.1 (aG ht);rw[show(tx x).length=x.length by simp [tx]];rw[aB,bW] at hx;obtain⟨i,_,rfl⟩:=hx;rw[jd,List.getD_eq_getElem?_getD];cases e:l[i]? with
  | none=>simp
  | some b=>have:=h30 b (aG e);simp;omega
 obtain⟨i0,hi0,hz0,hs0,hb0⟩:∃ i,Tryz.prog.info? 281 =some i∧i.zero=some (.agg #[])∧i.size=0∧i.bytes=0:=info_parts (by kernel_rfl);clear CV h hv;obtain⟨n,hn⟩:∃ n,l.length=n:=⟨_,rfl⟩;rw[hn] at hWl h0 hl ⊢;rw[hn] at HC;have HN:=ac hn;clear hn;go_enter Tryz.func199,Tryz.ntmps199;go_wp2_with (first | (go_at_call 208;refine HC.out.mono ?_;rintro e w2 ⟨v2,rfl,h2⟩;have HA:=ac h2;clear h2) | (at_make;apply ag));obtain⟨a2,c2,rfl⟩:=HA.out.reads.sub;refine on (wpList_make_full _ rfl _ _ 301 rfl (World.heap _).size 281 i0 (.agg #[]) 0 Tryz.underlying301 hi0 hz0 hs0 .i64 .i64 _ _ n rfl rfl rfl rfl (by rw[hb0];omega) (by unfold maxLen;omega) (Nat.le_refl _) ?_);intro w3 hr3 hg3;have h3:=HA.out.own_of_row hg3 hr3;have h3:=h3.right;have hmv:(aB l).map aD=((aB l).map tx).map aQ:=by rw[eF];rfl
 have hml:((aB l).map tx).length=n:=by rw[bI,hWl]
 have HNW:=ac (fun(gb:Nat)=>Ct h3 ((aB l).map tx) n hml.symm (by omega) hsz (vw:= .slice a2 (aB l).length c2) (vm:= .slice (some ⟨gb,0,none⟩) n n) (by rw[← hmv,bI];exact Stb.of_own) ⟨_,_,rfl⟩ h0 hN);clear h3 hr3 hg3 hN hsz;rw[hWl] at HNW;have HWL:=ac hWl;rw[hWl];clear hWl hml hmv;go_wp2_with (go_at_call 214;refine(HNW.out _).mono ?_;rintro e w4 ⟨h4,_⟩;obtain⟨B,rfl,h4,_⟩:=h4 rfl;have H4:=ac h4;clear h4);go_ret2;refine⟨B,rfl,?_⟩;have h5:=(H4.out.perm (af _ _ _)).right;exact St.mk_ex_l N (h5.perm (by rw[HWL.out]))
theorem sw {w:World} {a:Option Addr} {cap n:Nat} {l:List (Nat × Nat)} (h:Reads w 2 (.slice a n cap) n (dI l)) {k:Nat} {p:Nat × Nat} (hk:l[k]? =some p):
  ∃ b off,a=some ⟨b,off,none⟩∧w.cell? ⟨b,off+k*2,none⟩=some (.int .i64 (p.1:Int))∧w.cell? ⟨b,off+k*2+1,none⟩=some (.int .i64 (p.2:Int)):=by
 obtain⟨p0,p1⟩:=EE hk;obtain⟨hl,⟨e,rfl⟩ | ⟨⟨b,off,spot⟩,c,e,h1,h2,h3⟩⟩:=h
 ·have:dI l=[]:=bC (by simpa using hl);rw[this] at p0;simp at p0
 ·cases e;have h00:∃ u,(dI l)[0]? =some u:=by
   have:k<l.length:=(dJ.1 hk).1;cases l with
   | nil=>simp at this
   | cons p l=>exact⟨_,rfl⟩
  obtain⟨u0,hu0⟩:=h00;have hspot:spot=none:=by simpa [Addr.add] using World.cell?_spot (h3 0 u0 hu0)
  subst hspot;refine⟨b,off,rfl,?_,?_⟩
  ·have:=h3 _ _ p0;rw[Addr.add_lit] at this;exact this
  ·have:=h3 _ _ p1;rw[Addr.add_lit] at this;exact this
theorem Gl (L:List (Nat × Nat)) (n k:Nat) (hk:(L.getD k (0,0)).1≤n):∀ i,k≤i→(∀ t,k<t→t≤i→n<(L.getD t (0,0)).1)→gh L n i=k:=by
 intro i
 induction i with
 | zero => intro h _;obtain rfl:k=0:=by omega
           rfl
 | succ i ih=>
  intro h hx;rw[gh]
  by_cases hki:k=i+1
  ·subst hki;rw[if_pos hk]
  ·rw[if_neg (by have:=hx (i+1) (by omega) (Nat.le_refl _);omega),ih (by omega) fun t a b=>hx t a (by omega)]
theorem pE {w:World} {v:Value} (far:Bool) {N:Nat} (hN:N=(cond far aY bf).length) (h:Reads w 2 v N (dI (cond far aY bf))) (n:Nat) (hn:n≤100000) (h0:((cond far aY bf).getD 0 (0,0)).1≤n) {j:Int} (hj:j=n):
  Calls Tryz.prog 196 #[v,.int .i64 j] w fun e w'=>e= .returned (.tuple #[.int .i64 (aR far n:Nat),.int .u32 (n-(aS far n).1:Nat)])∧∃ m,w'=w.drewN m:=by
 subst hj;obtain⟨a,cap,rfl⟩:=h.sub;unfold aR aS aR;have hT:(cond far aY bf).length≤30∧1≤(cond far aY bf).length:=by cases far <;> decide
 have hok:∀ b∈cond far aY bf,b.1≤100000∧b.2≤13:=by
  cases far
  ·exact oX
  ·exact oW
 generalize hTT:cond far aY bf=T at*
 rw[← hN] at hT;have HR:=ac h;have H0:=ac h0;have HOK:=ac hok;have HN:=ac hN;rw[show T.length-1=N-1 by rw[hN]];clear h h0 hok hN hTT;have hN1:(N:Int)-1=((N-1:Nat):Int):=by omega
 obtain⟨M,hM⟩:∃ M,N-1=M:=⟨_,rfl⟩;rw[hM] at hN1 ⊢;go_enter Tryz.func196,Tryz.ntmps196;go_wp2_with fail
 go_loopw [6] (fun vi wr=>∃ k:Nat,k≤M∧vi= .int .i64 k∧(∀ t,k<t→t≤M→n<(T.getD t (0,0)).1)∧wr=w) (fun vi _=>(intOf vi).toNat)
 case atStart=>exact⟨M,Nat.le_refl _,rfl,(fun t h1 h2=>by omega),rfl⟩
 case round=>
  obtain⟨k,hk,rfl,hgt,rfl⟩:=hrel;have hx:T[k]? =some (T.getD k (0,0)):=by rw[List.getD_eq_getElem?_getD,ai (by rw[← HN.out];omega)];rfl
  obtain⟨b,off,rfl,c0,c1⟩:=sw HR.out hx;obtain⟨o1,o2⟩:=HOK.out _ (aG hx);have hkI:(k:Int)<N:=by omega
  have hkN:k<N:=by omega
  have HGT:=ac hgt;have HX:=ac hx;obtain⟨f,hf⟩:∃ f,(T.getD k (0,0)).1=f:=⟨_,rfl⟩;rw[hf] at c0 o1;have HF:=ac hf;clear hgt hx hf c1 o2
  by_cases hfn:n<f
  ·have hI:(n:Int)<f:=by omega
   have hk0:k≠0:=fun e=>by
    have a1:=HF.out;have a2:=H0.out;rw[e] at a1;omega
   obtain⟨k',rfl⟩:∃ k',k=k'+1:=⟨k-1,by omega⟩;have hkm:((k'+1:Nat):Int)-1=(k':Int):=by omega
   go_wp2_with fail;refine⟨⟨k',by omega,by first | rfl | trivial,?_,by first | rfl | trivial⟩,by simp [intOf]⟩;intro t h1 h2
   rcases cf (k'+1) t with h | h
   ·exact HGT.out t h h2
   ·obtain rfl:t=k'+1:=by omega
    rw[HF.out];exact hfn
  ·have hI:¬ (n:Int)<f:=by omega
   have hpl:gh T n M=k:=Gl T n k (by rw[HF.out];omega) M hk HGT.out;have hsub:(n:Int)-f=((n-f:Nat):Int):=by omega
   have hw1:IntKind.i64.wrap ((n-f:Nat):Int)=((n-f:Nat):Int):=IntWalk.i64_in _ (by omega);have hw2:IntKind.u32.wrap ((n-f:Nat):Int)=((n-f:Nat):Int):=IntWalk.u32_in _ (by omega);have HP:=ac hpl;clear hpl;have hd6:n-f≤100000:=by omega
   obtain⟨d,hd⟩:∃ d,n-f=d:=⟨_,rfl⟩;rw[hd] at hsub hw1 hw2 hd6;have HD:=ac hd;clear hd;go_wp2_with fail;go_quiet (fail);go_wp2_with fail;go_ret2;refine⟨?_,_,rfl⟩;rw[HP.out,HF.out,HD.out];rfl
end Go.Proofs.YtboflbdniogcdaaGreatDoor
