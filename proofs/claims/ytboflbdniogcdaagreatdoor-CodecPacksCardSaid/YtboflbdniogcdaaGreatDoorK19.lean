/-
  Parts of a proof.
-/
import Derived.BigRegion
import Derived.Deep.Cut
import Derived.Deep.RegionHeld3
import Derived.DeepKeys
import Derived.RegionTactic
import Derived.Test.YtboflbdniogcdaaGreatDoorK18
import Derived.Test.YtboflbdniogcdaaGreatDoorK04
import Derived.Test.YtboflbdniogcdaaGreatDoorK02
import Derived.Test.YtboflbdniogcdaaGreatDoorK09
set_option linter.unusedVariables false
set_option linter.unusedSimpArgs false
set_option maxRecDepth 100000
set_option maxHeartbeats 100000000
namespace Go.Mz
open Go.RowKit
theorem mD {α:Type} (enc:α→List Value) (m:Nat) (hm:∀ x,(enc x).length=m) (l:List α) (k:Nat) (x y:α) (h:l[k]? =some x) (j:Nat) (hj:j<m) (v:Value) (hv:(enc x).set j v=enc y):
  (l.flatMap enc).set (k*m+j) v=(l.set k y).flatMap enc:=by
 induction l generalizing k with
 | nil=>simp at h
 | cons p l ih=>
  cases k with
  | zero=>
   simp only[e7,yX] at h;subst h;rw[eZ,lS,bQ,List.set_append_left _ _ (by rw[hm];exact hj),hv,js,eZ]
  | succ k=>
   simp only[cY] at h;rw[eZ,lW _ _ (by rw[hm,dC];omega),lQ,eZ,← ih k h,hm]
   congr 2;rw[dC];omega
theorem St.own_setS {w0 w:World} {e:TypeId} {g n cap size:Nat} {xs:List Value} {F:SProp} (h:St w0 w (own e size (.slice (some ⟨g,0,none⟩) n cap) n xs*F)) (i:Nat) (u:Value):
  St w0 (w.setCell ⟨g,i,none⟩ u) (own e size (.slice (some ⟨g,0,none⟩) n cap) n (xs.set i u)*F):=by
 obtain⟨hl,⟨a1,_⟩ | ⟨g',cap',cur,a1,a2,a3,a4,a5,a6⟩⟩:=h.own_split
 ·cases a1
 ·cases a1;refine St.own_blk (a6.set i u) a2 a3 (by simpa using a4) ?_;rw[← a5,Jj,List.take_set]
theorem St.own_cellS {w0 w:World} {e:TypeId} {g n cap size:Nat} {xs:List Value} {F:SProp} (h:St w0 w (own e size (.slice (some ⟨g,0,none⟩) n cap) n xs*F)) {i:Nat} {u:Value} (hu:xs[i]? =some u):w.cell? ⟨g,i,none⟩=some u:=by
 obtain⟨hl,⟨a1,_⟩ | ⟨x,c,a1,a2,a3,a4⟩⟩:=h.reads
 ·cases a1
 ·cases a1;have:=a4 i u hu;rw[Addr.add_lit,bQ] at this;exact this
structure Nd where
 n0:Nat
 n1:Nat
 mean:Int
def Nd.nx (d:Nd) (c:Nat):Nat:=if c=0 then d.n0 else d.n1
def Nd.put (d:Nd) (c x:Nat):Nd:=if c=0 then { d with n0:=x } else { d with n1:=x }
def bw:Nd:=⟨0,0, -1⟩
def ig (d:Nd):List Value:=[.int .i64 (d.n0:Int),.int .i64 (d.n1:Int),.int .i64 d.mean]
theorem mE (d:Nd):(ig d).length=3:=rfl
def dz (N:List Nd):List Value:=N.flatMap ig
theorem uB (N:List Nd) (d:Nd):dz (N++[d])=dz N++ig d:=by simp [dz]
theorem Cd {N:List Nd} {k:Nat} {d:Nd} (h:N[k]? =some d):(dz N)[k*3+2]? =some (.int .i64 d.mean):=by
 rw[dz,jD ig 3 mE N k d h 2 (by omega)];rfl
theorem om {N:List Nd} {k:Nat} {d:Nd} (h:N[k]? =some d) {c:Nat} (hc:c≤1):(dz N)[k*3+c]? =some (.int .i64 (d.nx c:Int)):=by
 rw[dz,jD ig 3 mE N k d h c (by omega)];have:c=0∨c=1:=by omega
 rcases this with rfl | rfl <;> rfl
theorem Ce {N:List Nd} {k:Nat} {d:Nd} (h:N[k]? =some d) (m:Int):(dz N).set (k*3+2) (.int .i64 m)=dz (N.set k { d with mean:=m }):=
 mD ig 3 mE N k d _ h 2 (by omega) _ rfl
theorem uC {N:List Nd} {k:Nat} {d:Nd} (h:N[k]? =some d) {c:Nat} (hc:c≤1) (x:Nat):(dz N).set (k*3+c) (.int .i64 (x:Int))=dz (N.set k (d.put c x)):=by
 have:c=0∨c=1:=by omega
 rcases this with rfl | rfl
 ·exact mD ig 3 mE N k d _ h 0 (by omega) _ rfl
 ·exact mD ig 3 mE N k d _ h 1 (by omega) _ rfl
def ek (mean:Nat):List Nd→Nat→List UInt8→List Nd × Nat
 | N,at_,[]=>
  let d:=N.getD at_ bw
  if 0≤d.mean∨d.n0≠0∨d.n1≠0 then(N,14) else(N.set at_ { d with mean:=mean },0)
 | N,at_,ch::s=>
  let d:=N.getD at_ bw
  let c:=if ch=48 then 0 else 1
  if ch≠48∧ch≠49 then(N,3)
  else if 0≤d.mean then(N,14)
  else if d.nx c=0 then ek mean ((N++[bw]).set at_ (d.put c N.length)) N.length s
  else ek mean N (d.nx c) s
def lay (N:List Nd) (s:List UInt8) (mean:Nat):List Nd × Nat:=if s=[] then(N,0) else ek mean N 0 s
def NOk (N:List Nd):Prop:=0<N.length∧∀ d∈N,d.n0<N.length∧d.n1<N.length
theorem NOk.one:NOk [bw]:=⟨by simp,fun d hd=>by simp at hd;subst hd;simp [bw]⟩
theorem NOk.nx {N:List Nd} (h:NOk N) {k:Nat} {d:Nd} (hd:N[k]? =some d) (c:Nat):d.nx c<N.length:=by
 have:=h.2 d (aG hd);unfold Nd.nx;split
 ·exact this.1
 ·exact this.2
theorem NOk.more {N:List Nd} (h:NOk N) {k:Nat} {d:Nd} (hd:N[k]? =some d) (c:Nat):NOk ((N++[bw]).set k (d.put c N.length)):=by
 refine⟨by simp,fun x hx=> ?_⟩;rw[eE,ae,gY];have hN:=h.1
 rcases l9 hx with hx | rfl
 ·rw[cA,List.mem_singleton] at hx
  rcases hx with hx | rfl
  ·have:=h.2 x hx;omega
  ·simp [bw]
 ·have:=h.2 d (aG hd);unfold Nd.put;split
  ·exact⟨by simp,by simp only;omega⟩
  ·exact⟨by simp only;omega,by simp⟩
theorem NOk.mean {N:List Nd} (h:NOk N) {k:Nat} {d:Nd} (hd:N[k]? =some d) (m:Int):NOk (N.set k { d with mean:=m }):=by
 refine⟨by rw[eE];exact h.1,fun x hx=> ?_⟩;rw[eE]
 rcases l9 hx with hx | rfl
 ·exact h.2 x hx
 ·exact h.2 d (aG hd)
end Go.Mz
namespace Go.Proofs.YtboflbdniogcdaaGreatDoor
open Go.RowKit Go.Mz
def iv (n:Int):Value:= .int .i64 n
def nv (n:Nat):Value:= .int .i64 (n:Int)
def aD (w:List Nat):Value:= .string ⟨(tx w).toArray⟩
def aQ (t:List UInt8):Value:= .string ⟨t.toArray⟩
theorem mF:ElemT Tryz.prog 38 9 1 16 (.string ⟨#[]⟩):=
 ⟨Tryz.underlying38,info_parts (by kernel_rfl),rfl,by decide⟩
theorem Cf:ElemT Tryz.prog 246 245 3 24 (.agg #[.int .i64 0,.int .i64 0,.int .i64 0]):=
 ⟨Tryz.underlying246,info_parts (by kernel_rfl),rfl,by decide⟩
theorem Cg {mean:Nat} {N:List Nd} {a:Nat} {ch:UInt8} {s:List UInt8} (h:ch≠48∧ch≠49):ek mean N a (ch::s)=(N,3):=by rw[ek];simp [h]
theorem Ch {mean:Nat} {N:List Nd} {a:Nat} {d:Nd} {ch:UInt8} {s:List UInt8} (hd:N[a]? =some d) (h:ch=48∨ch=49) (hm:0≤d.mean):ek mean N a (ch::s)=(N,14):=by
 have e:N.getD a bw=d:=by rw[List.getD_eq_getElem?_getD,hd];rfl
 have h':¬ (ch≠48∧ch≠49):=by rintro⟨h1,h2⟩;rcases h with h | h;exact h1 h;exact h2 h
 rw[ek];simp only[e,if_neg h',if_pos hm]
theorem qY {mean:Nat} {N:List Nd} {a c:Nat} {d:Nd} {ch:UInt8} {s:List UInt8} (hd:N[a]? =some d) (h:ch=48∧c=0∨ch=49∧c=1) (hm:¬ 0≤d.mean) (hx:d.nx c=0):
  ek mean N a (ch::s)=ek mean ((N++[bw]).set a (d.put c N.length)) N.length s:=by
 have e:N.getD a bw=d:=by rw[List.getD_eq_getElem?_getD,hd];rfl
 have h':¬ (ch≠48∧ch≠49):=by rintro⟨h1,h2⟩;rcases h with h | h;exact h1 h.1;exact h2 h.1
 have hc:(if ch=48 then 0 else 1)=c:=by rcases h with ⟨rfl,rfl⟩ | ⟨rfl,rfl⟩ <;> rfl
 rw[ek];simp only[e,if_neg h',if_neg hm,hc,if_pos hx]
theorem qZ {mean:Nat} {N:List Nd} {a c:Nat} {d:Nd} {ch:UInt8} {s:List UInt8} (hd:N[a]? =some d) (h:ch=48∧c=0∨ch=49∧c=1) (hm:¬ 0≤d.mean) (hx:¬ d.nx c=0):
  ek mean N a (ch::s)=ek mean N (d.nx c) s:=by
 have e:N.getD a bw=d:=by rw[List.getD_eq_getElem?_getD,hd];rfl
 have h':¬ (ch≠48∧ch≠49):=by rintro⟨h1,h2⟩;rcases h with h | h;exact h1 h.1;exact h2 h.1
 have hc:(if ch=48 then 0 else 1)=c:=by rcases h with ⟨rfl,rfl⟩ | ⟨rfl,rfl⟩ <;> rfl
 rw[ek];simp only[e,if_neg h',if_neg hm,hc,if_neg hx]
theorem uD {p q:Nat} (hp:p<100000000) (hq:q<100000000):Tryz.prog.keyLits 2 131 [.int .i64 p,.int .i64 q]=some [.int .i64 p,.int .i64 q]:=by
 have h1:(Lit.int .i64 (p:Int)).wf=true:=by simp [Lit.wf,IntKind.min,IntKind.max,IntKind.bits,IntKind.signed];omega
 have h2:(Lit.int .i64 (q:Int)).wf=true:=by simp [Lit.wf,IntKind.min,IntKind.max,IntKind.bits,IntKind.signed];omega
 have c2:Tryz.prog.cellsOf 131=2:=by kernel_rfl
 have c1:Tryz.prog.cellsOf 3=1:=by kernel_rfl
 simp [Program.keyLits,c2,c1,Tryz.underlying131,Tryz.underlying3,h1,h2,gX]
theorem uE {p q:Nat} (hp:p<100000000) (hq:q<100000000) (w:World):(Op.equalIn 10000 131 (.agg #[.int .i64 p,.int .i64 q]) (.agg #[.int .i64 0,.int .i64 0])).run Tryz.prog w= .ok (decide (p=0∧q=0)) w:=by
 have c2:Tryz.prog.cellsOf 131=2:=by kernel_rfl
 have hf:∀ a b:Value,(Value.agg #[a,b]).formed Tryz.prog 131=true:=fun a b=>by simp [Value.formed,Tryz.underlying131,c2]
 obtain⟨r,h1,h2⟩:=run_equalIn_deep (P:=Tryz.prog) 9998 2 131 (by kernel_rfl) w 2 2 _ _ _ _ (hf (.int .i64 p) (.int .i64 q)) (hf (.int .i64 0) (.int .i64 0)) (uD hp hq) (uD (p:=0) (q:=0) (by omega) (by omega));rw[h1]
 congr 1
 rw[Bool.eq_iff_iff,h2];simp
theorem uF {mean:Nat} {N:List Nd} {a:Nat} {d:Nd} (hd:N[a]? =some d) (h:0≤d.mean∨d.n0≠0∨d.n1≠0):ek mean N a []=(N,14):=by
 have e:N.getD a bw=d:=by rw[List.getD_eq_getElem?_getD,hd];rfl
 rw[ek];simp only[e,if_pos h]
theorem uG {mean:Nat} {N:List Nd} {a:Nat} {d:Nd} (hd:N[a]? =some d) (h1:¬ 0≤d.mean) (h2:d.n0=0) (h3:d.n1=0):ek mean N a []=(N.set a { d with mean:=mean },0):=by
 have e:N.getD a bw=d:=by rw[List.getD_eq_getElem?_getD,hd];rfl
 rw[ek];simp only[e];rw[if_neg (by omega)]
def ij:List Nd→Nat→List (List UInt8)→List Nd × Nat
 | N,_,[]=>(N,0)
 | N,i,w::ws=>if(lay N w i).2=0 then ij (lay N w i).1 (i+1) ws else((lay N w i).1,(lay N w i).2)
theorem Nd.put_nx (d:Nd) (c c' x:Nat) (h:c≤1) (h':c'≤1):(d.put c x).nx c'=if c=c' then x else d.nx c':=by
 unfold Nd.put Nd.nx
 rcases(show c=0∨c=1 by omega) with rfl | rfl <;> rcases(show c'=0∨c'=1 by omega) with rfl | rfl <;> simp
theorem Nd.put_mean (d:Nd) (c x:Nat):(d.put c x).mean=d.mean:=by unfold Nd.put;split <;> rfl
theorem uH (c:Nat):bw.nx c=0:=by unfold Nd.nx bw;split <;> rfl
structure TrieP (N:List Nd) (W V:List (List Nat)) (P:Nat→List Nat):Prop where
 root:P 0=[]
 step:∀ (a:Nat) (d:Nd) (c:Nat),N[a]? =some d→c≤1→d.nx c≠0→P (d.nx c)=P a++[c]
 word:∀ (a:Nat) (d:Nd),N[a]? =some d→0≤d.mean→∃ i:Nat,d.mean=i∧W[i]? =some (P a)∧P a≠[]
 pre:∀ a:Nat,a<N.length→a≠0→∃ w∈V,P a <+:w
 has:∀ (i:Nat) (w:List Nat),W[i]? =some w→w≠[]→∃ (a:Nat) (d:Nd),N[a]? =some d∧P a=w∧d.mean=i
 conn:∀ a:Nat,a<N.length→a≠0→∃ (b:Nat) (d:Nd) (c:Nat),N[b]? =some d∧c≤1∧d.nx c=a
def Trie (N:List Nd) (W:List (List Nat)):Prop:=NOk N∧∃ P,TrieP N W W P
theorem TrieP.up {N:List Nd} {W V:List (List Nat)} {P:Nat→List Nat} (h:TrieP N W V P) {a:Nat} (ha:a<N.length) (h0:a≠0):∃ (b:Nat) (d:Nd) (c:Nat),N[b]? =some d∧c≤1∧d.nx c=a∧P a=P b++[c]:=by
 obtain⟨b,d,c,h1,h2,h3⟩:=h.conn a ha h0;exact⟨b,d,c,h1,h2,h3,by have:=h.step b d c h1 h2 (by omega);rw[h3] at this;exact this⟩
theorem oq {a:List Nat} {c:Nat}:a++[c]≠[]:=by simp
theorem TrieP.inj {N:List Nd} {W V:List (List Nat)} {P:Nat→List Nat} (h:TrieP N W V P):∀ (n a a':Nat),(P a).length=n→a<N.length→a'<N.length→P a=P a'→a=a':=by
 intro n
 induction n with
 | zero=>
  intro a a' hn ha ha' he;have z:∀ x,x<N.length→(P x).length=0→x=0:=fun x hx hl=>by
   apply Classical.byContradiction;intro h0;obtain⟨b,d,c,_,_,_,e⟩:=h.up hx h0;rw[e] at hl;simp at hl
  rw[z a ha hn,z a' ha' (by rw[← he];exact hn)]
 | succ n ih=>
  intro a a' hn ha ha' he;have nz:∀ x,(P x).length=n+1→x≠0:=fun x hl h0=>by
   rw[h0,h.root] at hl;simp at hl
  obtain⟨b,d,c,h1,h2,h3,e⟩:=h.up ha (nz a hn);obtain⟨b',d',c',h1',h2',h3',e'⟩:=h.up ha' (nz a' (by rw[← he];exact hn));rw[e,e'] at he;have e1:=List.append_inj' he rfl;have hc:c=c':=by simpa using e1.2
  have hb:b=b':=ih b b' (by rw[e] at hn;simpa using hn) (by obtain⟨hx,_⟩:=dJ.1 h1;exact hx) (by obtain⟨hx,_⟩:=dJ.1 h1';exact hx) e1.1;subst hb hc;rw[h1] at h1';cases h1';rw[← h3,← h3']
theorem TrieP.lt {N:List Nd} {a:Nat} {d:Nd} (h:N[a]? =some d):a<N.length:=by
 obtain⟨hx,_⟩:=dJ.1 h;exact hx
theorem Trie.one:Trie [bw] []:=by
 refine⟨NOk.one,fun _=>[],rfl,?_,?_,?_,?_,?_⟩
 ·intro a d c hd hc hx;have:d=bw:=by
   have:=aG hd;simpa using this
  subst this;exact absurd (uH c) hx
 ·intro a d hd hm;have:d=bw:=by
   have:=aG hd;simpa using this
  subst this;simp [bw] at hm
 ·intro a ha h0;simp at ha;omega
 ·intro i w hw;simp at hw
 ·intro a ha h0;simp at ha;omega
theorem Ci {W:List (List Nat)} {w:List Nat} (hw:Bit w) (hne:w≠[]) (pf:∀ v∈W,v≠[]→¬ v <+:w∧¬ w <+:v):
  ∀ (r:List Nat) (N:List Nd) (P:Nat→List Nat) (a:Nat) (s:List Nat),TrieP N W (W++[w]) P→NOk N→a<N.length→P a=s→s++r=w→
  ∃ N' P',ek W.length N a (tx r)=(N',0)∧NOk N'∧TrieP N' (W++[w]) (W++[w]) P':=by
 intro r
 induction r with
 | nil=>
  intro N P a s h hN ha hs hr;obtain⟨d,hd⟩:∃ d,N[a]? =some d:=⟨N[a],ai ha⟩;rw[bE] at hr;subst hr;have hm:¬ 0≤d.mean:=fun hm=>by
   obtain⟨i,_,hi,hi2⟩:=h.word a d hd hm;rw[hs] at hi;exact(pf s (aG hi) hne).1 (List.prefix_refl _)
  have hx:∀ c,c≤1→d.nx c=0:=fun c hc=>by
   apply Classical.byContradiction;intro h0;have e:=h.step a d c hd hc h0;obtain⟨v,hv,hp⟩:=h.pre _ (hN.nx hd c) h0;rw[e,hs] at hp
   rcases cA.1 hv with hv | hv
   ·have:s <+:v:=(List.prefix_append _ _).trans hp;exact(pf v hv (fun h0=>by rw[h0] at hp;exact oq (List.prefix_nil.1 hp))).2 this
   ·rw[List.mem_singleton] at hv;subst hv;have:=hp.length_le;simp at this;omega
  refine⟨_,P,uG hd hm (hx 0 (by omega)) (hx 1 (by omega)),hN.mean hd _,?_⟩;have key:∀ (x:Nat) (d':Nd),(N.set a { d with mean:=(W.length:Int) })[x]? =some d'→∃ d0,N[x]? =some d0∧(∀ c,d'.nx c=d0.nx c)∧(x≠a→d'=d0)∧(x=a→d'.mean=W.length):=by
   intro x d' hd'
   by_cases hxa:x=a
   ·subst hxa;rw[jt ha] at hd';cases hd';exact⟨d,hd,fun c=>rfl,fun h=>absurd rfl h,fun _=>rfl⟩
   ·rw[ju (fun e=>hxa e.symm)] at hd';exact⟨d',hd',fun c=>rfl,fun _=>rfl,fun e=>absurd e hxa⟩
  refine⟨h.root,?_,?_,?_,?_,?_⟩
  ·intro x d' c hd' hc hne';obtain⟨d0,h0,hnx,_⟩:=key x d' hd';rw[hnx c] at hne' ⊢;exact h.step x d0 c h0 hc hne'
  ·intro x d' hd' hm';obtain⟨d0,h0,hnx,h1,h2⟩:=key x d' hd'
   by_cases hxa:x=a
   ·refine⟨W.length,h2 hxa,?_,?_⟩
    ·rw[hxa,hs,dh (Nat.le_refl _),du];rfl
    ·rw[hxa,hs];exact hne
   ·rw[h1 hxa] at hm' ⊢;obtain⟨i,e1,e2,e3⟩:=h.word x d0 h0 hm';exact⟨i,e1,by rw[cR (by obtain⟨hx,_⟩:=dJ.1 e2;exact hx)];exact e2,e3⟩
  ·intro x hx h0;rw[eE] at hx;exact h.pre x hx h0
  ·intro i v hv hvn
   by_cases hi:i<W.length
   ·rw[cR hi] at hv;obtain⟨x,d0,h1,h2,h3⟩:=h.has i v hv hvn;have hxa:x≠a:=fun e=>by
     subst e;rw[h1] at hd;cases hd;exact hm (by omega)
    exact⟨x,d0,by rw[ju (fun e=>hxa e.symm)];exact h1,h2,h3⟩
   ·have hlt:i<(W++[s]).length:=by obtain⟨hx,_⟩:=dJ.1 hv;exact hx
    have hi2:i=W.length:=by simp at hlt;omega
    subst hi2;rw[dh (Nat.le_refl _),du] at hv;simp at hv;subst hv;exact⟨a,_,jt ha,hs,rfl⟩
  ·intro x hx h0;rw[eE] at hx;obtain⟨b,d0,c,h1,h2,h3⟩:=h.conn x hx h0
   by_cases hba:b=a
   ·subst hba;rw[h1] at hd;cases hd;exact⟨b,_,c,jt ha,h2,h3⟩
   ·exact⟨b,d0,c,by rw[ju (fun e=>hba e.symm)];exact h1,h2,h3⟩
 | cons c r ih=>
  intro N P a s h hN ha hs hr;obtain⟨d,hd⟩:∃ d,N[a]? =some d:=⟨N[a],ai ha⟩;have hc:c≤1:=hw c (by rw[← hr];simp);have hch:dg c=48∧c=0∨dg c=49∧c=1:=by
   rcases(show c=0∨c=1 by omega) with rfl | rfl
   ·exact .inl ⟨rfl,rfl⟩
   ·exact .inr ⟨rfl,rfl⟩
  have hr':(s++[c])++r=w:=by rw[← hr];simp
  have hm:¬ 0≤d.mean:=fun hm=>by
   obtain⟨i,_,hi,hi2⟩:=h.word a d hd hm;rw[hs] at hi hi2;exact(pf s (aG hi) hi2).1 ⟨c::r,hr⟩
  rw[ku]
  by_cases hx:d.nx c=0
  ·rw[qY hd hch hm hx];have hN1:=hN.more hd c;have hlen:((N++[bw]).set a (d.put c N.length)).length=N.length+1:=by simp
   have key:∀ (x:Nat) (d':Nd),((N++[bw]).set a (d.put c N.length))[x]? =some d'→(x=a∧d'=d.put c N.length)∨(x≠a∧x<N.length∧N[x]? =some d')∨(x=N.length∧d'=bw):=by
    intro x d' hd'
    by_cases hxa:x=a
    ·subst hxa;rw[jt (by simp;omega)] at hd';cases hd';exact .inl ⟨rfl,rfl⟩
    ·rw[ju (fun e=>hxa e.symm)] at hd'
     by_cases hxl:x<N.length
     ·rw[cR hxl] at hd';exact .inr (.inl ⟨hxa,hxl,hd'⟩)
     ·have hlt:x<(N++[bw]).length:=TrieP.lt hd';have hx2:x=N.length:=by simp at hlt;omega
      subst hx2;rw[dh (Nat.le_refl _),du] at hd';simp at hd';exact .inr (.inr ⟨rfl,hd'.symm⟩)
   refine ih _ (fun x=>if x=N.length then s++[c] else P x) N.length (s++[c]) ⟨?_,?_,?_,?_,?_,?_⟩ hN1 (by rw[hlen];omega) (by simp) hr'
   ·have:¬ 0=N.length:=by have:=hN.1;omega
    simp only[if_neg this];exact h.root
   ·intro x d' c' hd' hc' hne'
    rcases key x d' hd' with ⟨rfl,rfl⟩ | ⟨hxa,hxl,h0⟩ | ⟨rfl,rfl⟩
    ·rw[Nd.put_nx d c c' _ hc hc'] at hne' ⊢
     by_cases hcc:c=c'
     ·subst hcc;simp only[if_true];rw[if_neg (by omega),hs]
     ·rw[if_neg hcc] at hne' ⊢;have:=hN.nx hd c';simp only[if_neg (show ¬ d.nx c'=N.length by omega),if_neg (show ¬ x=N.length by omega)];exact h.step x d c' hd hc' hne'
    ·have:=hN.nx h0 c';simp only[if_neg (show ¬ d'.nx c'=N.length by omega),if_neg (show ¬ x=N.length by omega)];exact h.step x d' c' h0 hc' hne'
    ·exact absurd (uH c') hne'
   ·intro x d' hd' hm'
    rcases key x d' hd' with ⟨rfl,rfl⟩ | ⟨hxa,hxl,h0⟩ | ⟨rfl,rfl⟩
    ·rw[Nd.put_mean] at hm';exact absurd hm' hm
    ·simp only[if_neg (show ¬ x=N.length by omega)];exact h.word x d' h0 hm'
    ·simp [bw] at hm'
   ·intro x hx' h0;rw[hlen] at hx'
    by_cases hxl:x=N.length
    ·refine⟨w,by simp,?_⟩;simp only[if_pos hxl];exact⟨r,hr'⟩
    ·simp only[if_neg hxl];exact h.pre x (by omega) h0
   ·intro i v hv hvn;obtain⟨x,d0,h1,h2,h3⟩:=h.has i v hv hvn;have hxa:x≠a:=fun e=>by
     subst e;rw[h1] at hd;cases hd;exact hm (by omega)
    have hxl:=TrieP.lt h1;refine⟨x,d0,?_,?_,h3⟩
    ·rw[ju (fun e=>hxa e.symm),cR hxl];exact h1
    ·simp only[if_neg (show ¬ x=N.length by omega)];exact h2
   ·intro x hx' h0;rw[hlen] at hx'
    by_cases hxl:x=N.length
    ·refine⟨a,d.put c N.length,c,jt (by simp;omega),hc,?_⟩;rw[Nd.put_nx d c c _ hc hc,if_pos rfl,hxl]
    ·obtain⟨b,d0,c0,h1,h2,h3⟩:=h.conn x (by omega) h0
     by_cases hba:b=a
     ·subst hba;have e:d0=d:=by rw[h1] at hd;exact gm hd
      subst e;refine⟨b,d0.put c N.length,c0,jt (by simp;omega),h2,?_⟩;rw[Nd.put_nx d0 c c0 _ hc h2,if_neg (fun e=>h0 (by rw[← h3,← e];exact hx))];exact h3
     ·exact⟨b,d0,c0,by rw[ju (fun e=>hba e.symm),cR (TrieP.lt h1)];exact h1,h2,h3⟩
  ·rw[qZ hd hch hm hx];exact ih N P (d.nx c) (s++[c]) h hN (hN.nx hd c) (by rw[h.step a d c hd hc hx,hs]) hr'
theorem TrieP.wide {N:List Nd} {W V V':List (List Nat)} {P:Nat→List Nat} (h:TrieP N W V P) (hv:∀ v∈V,v∈V'):TrieP N W V' P:=
 ⟨h.root,h.step,h.word,fun a ha h0=>by obtain⟨w,hw,hp⟩:=h.pre a ha h0;exact⟨w,hv w hw,hp⟩,h.has,h.conn⟩
theorem Cj {N:List Nd} {W:List (List Nat)} {w:List Nat} (h:Trie N W) (hw:Bit w) (pf:∀ v∈W,v≠[]→w≠[]→¬ v <+:w∧¬ w <+:v):
  ∃ N',lay N (tx w) W.length=(N',0)∧Trie N' (W++[w]):=by
 obtain⟨hN,P,hP⟩:=h
 by_cases hne:w=[]
 ·subst hne;refine⟨N,by rw[lay,if_pos zH],hN,P,hP.root,hP.step,?_,?_,?_,hP.conn⟩
  ·intro a d hd hm;obtain⟨i,e1,e2,e3⟩:=hP.word a d hd hm;exact⟨i,e1,by rw[cR (by obtain⟨hx,_⟩:=dJ.1 e2;exact hx)];exact e2,e3⟩
  ·intro a ha h0;obtain⟨v,hv,hp⟩:=hP.pre a ha h0;exact⟨v,s7 _ hv,hp⟩
  ·intro i v hv hvn
   by_cases hi:i<W.length
   ·rw[cR hi] at hv;exact hP.has i v hv hvn
   ·rw[dh (by omega)] at hv;have:=aG hv;simp at this;exact absurd this hvn
 ·obtain⟨N',P',h1,h2,h3⟩:=Ci hw hne (fun v hv hvn=>pf v hv hvn hne) w N P 0 [] (hP.wide fun v hv=>s7 _ hv) hN hN.1 hP.root rfl;refine⟨N',?_,h2,P',h3⟩;rw[lay,if_neg (by intro e;exact hne (by simpa [tx] using e))];exact h1
def PF (W:List (List Nat)):Prop:=∀ (i k:Nat) (v w:List Nat),i≠k→W[i]? =some v→W[k]? =some w→v≠[]→¬ v <+:w
theorem Ck:∀ (V W:List (List Nat)) (N:List Nd),Trie N W→(∀ w∈V,Bit w)→PF (W++V)→∃ N',ij N W.length (V.map tx)=(N',0)∧Trie N' (W++V):=by
 intro V
 induction V with
 | nil=>intro W N h hb pf;exact⟨N,rfl,by rw[bE];exact h⟩
 | cons w V ih=>
  intro W N h hb pf;have hw:(W++w::V)[W.length]? =some w:=by rw[dh (Nat.le_refl _),du];rfl
  obtain⟨N1,h1,h2⟩:=Cj h (hb w (by simp)) (fun v hv hvn hwn=>by
   obtain⟨i,hi,rfl⟩:=qb.1 hv;have hv':(W++w::V)[i]? =some W[i]:=by rw[cR hi,ai hi]
   exact⟨pf i W.length _ _ (by omega) hv' hw hvn,pf W.length i _ _ (by omega) hw hv' hwn⟩)
  obtain⟨N',h3,h4⟩:=ih (W++[w]) N1 h2 (fun x hx=>hb x (by simp [hx])) (by rw[List.append_assoc];exact pf);refine⟨N',?_,by rw[List.append_assoc] at h4;exact h4⟩;rw[dR,ij,h1,if_pos rfl];simp only;rw[ae,gY] at h3;exact h3
theorem q9 {W:List (List Nat)} (hb:∀ w∈W,Bit w) (pf:PF W):∃ N,ij [bw] 0 (W.map tx)=(N,0)∧Trie N W:=by
 have:=Ck W [] [bw] Trie.one hb pf;simpa using this
def bG (W:List (List Nat)):List Nat→List Nat→Nat × (Nat ⊕ Nat)
 | s,[]=>(s.length,.inr 2)
 | s,c::r=>
  match W.findIdx? (fun w=>w==s++[c]) with
  | some i=>(s.length+1,.inl i)
  | none=>if W.any (fun w=>(s++[c]).isPrefixOf w) then bG W (s++[c]) r else(s.length+1,.inr 6)
theorem Cl {W:List (List Nat)} {v:List Nat} {i:Nat} (h:W[i]? =some v) (hu:∀ j:Nat,W[j]? =some v→j=i):W.findIdx? (fun w=>w==v)=some i:=by
 rw[zg];obtain⟨hi,e⟩:=dJ.1 h;refine⟨hi,by rw[e];simp,fun j hj=> ?_⟩;intro hc;have:W[j]=v:=by simpa using hc
 have:=hu j (by rw[ai (by omega),this]);omega
theorem uI {W:List (List Nat)} {v:List Nat} (h:∀ j:Nat,W[j]? ≠some v):W.findIdx? (fun w=>w==v)=none:=by
 rw[JD];intro x hx;obtain⟨j,hj,rfl⟩:=qb.1 hx;have:=h j;rw[ai hj] at this;simpa using this
theorem Cm {W:List (List Nat)} (pf:PF W) {i:Nat} {w:List Nat} (hi:W[i]? =some w):
  ∀ (r s t:List Nat),s++r=w→r≠[]→bG W s (r++t)=(w.length,.inl i):=by
 intro r
 induction r with
 | nil=>intro s t _ h;exact absurd rfl h
 | cons c r ih=>
  intro s t hs _;have hs':(s++[c])++r=w:=by rw[← hs];simp
  rw[dB,bG]
  by_cases hr:r=[]
  ·subst hr;rw[bE] at hs';rw[hs',Cl hi (fun j hj=>by
    apply Classical.byContradiction;intro hji;exact pf j i w w hji hj hi (by rw[← hs'];exact oq) (List.prefix_refl _))]
   simp only;rw[← hs'];simp
  ·have hno:∀ j:Nat,W[j]? ≠some (s++[c]):=fun j hj=>by
    have hpre:(s++[c]) <+:w:=⟨r,hs'⟩
    by_cases hji:j=i
    ·subst hji;rw[hi] at hj;have e:w=s++[c]:=gm hj;rw[← hs'] at e;have:=congrArg List.length e;simp at this;exact hr this
    ·exact pf j i _ _ hji hj hi oq hpre
   have e2:W.any (fun w=>(s++[c]).isPrefixOf w)=true:=zh.2 ⟨w,aG hi,nB.2 ⟨r,hs'⟩⟩;rw[uI hno,e2];simp only[if_true];exact ih (s++[c]) t hs' hr
theorem ot (W:List (List Nat)):∀ (r s:List Nat),s.length≤(bG W s r).1∧(bG W s r).1≤s.length+r.length∧(r≠[]→s.length<(bG W s r).1)∧(∀ i,(bG W s r).2= .inl i→s.length<(bG W s r).1∧i<W.length)∧∀ e,(bG W s r).2= .inr e→e=2∨e=6:=by
 intro r
 induction r with
 | nil=>intro s;rw[bG];simp
 | cons c r ih=>
  intro s;rw[bG];cases hf:W.findIdx? (fun w=>w==s++[c]) with
  | some i=>
   simp only;have hi:i<W.length:=by
    rw[zg] at hf;exact hf.1
   refine⟨by omega,by simp only[aK];omega,fun _=>by omega,fun j hj=> ?_,fun e he=>by cases he⟩;cases hj;exact⟨by omega,hi⟩
  | none=>
   simp only
   split
   ·obtain⟨h1,h2,h3,h4,h5⟩:=ih (s++[c]);simp only[ae,gY] at h1 h2 h3 h4;refine⟨by omega,by simp only[aK];omega,fun _=>by omega,fun j hj=>⟨by have:=h4 j hj;omega,(h4 j hj).2⟩,h5⟩
   ·refine⟨by omega,by simp only[aK];omega,fun _=>by omega,fun j hj=> ?_,fun e he=> ?_⟩
    ·cases hj
    ·cases he;exact .inr rfl
theorem uJ {fn:FuncId} {bt:TypeId} (hf:(fn=179∧bt=254)∨(fn= 226 ∧bt= 315)∨(fn=177∧bt=250)) {w0 w:World} {F:SProp} {B:Nat} {vn vm vw:Value} {N:List Nd} (h:St w0 w (blk B (.cells #[vn,vm,vw] bt)*(own 245 3 vn N.length (dz N)*F))) (hN:NOk N) (hl:N.length≤1000000)
  (s:List UInt8) (hs:s.length≤1000000) (mean:Nat) (hm:mean≤1000000):
  Calls Tryz.prog fn #[.pointer (some ⟨B,0,none⟩),.string ⟨s.toArray⟩,.int .i64 mean] w fun e w'=>∃ vn',e= .returned (.int .i64 (lay N s mean).2)∧
   St w0 w' (blk B (.cells #[vn',vm,vw] bt)*(own 245 3 vn' (lay N s mean).1.length (dz (lay N s mean).1)*F))∧NOk (lay N s mean).1∧(lay N s mean).1.length≤N.length+s.length:=by
 rcases hf with ⟨rfl,hbt⟩ | ⟨rfl,hbt⟩ | ⟨rfl,hbt⟩ <;> clear hbt
 all_goals
  have H:=ac h;clear h;have T:=Cf
  by_cases hs0:s=[]
  ·subst hs0;have HR:=ac (show lay N [] mean=(N,0) by rw[lay,if_pos rfl])
   first | (go_enter Tryz.func179,Tryz.ntmps179) | (go_enter Tryz.func226,Tryz.ntmps226) | (go_enter Tryz.func177,Tryz.ntmps177)
   go_wp2_with fail;go_ret;rw[HR.out];exact⟨vn,rfl,H.out,hN,by simp⟩
  have HR:=ac (show lay N s mean=ek mean N 0 s by rw[lay,if_neg hs0]);have hne:¬ (ByteArray.mk s.toArray).toList=[]:=by rw[ByteArray.toList_eq];exact hs0
  have hne2:(ByteArray.mk s.toArray).toList.isEmpty=false:=by
   cases hq:(ByteArray.mk s.toArray).toList with
   | nil=>exact absurd hq hne
   | cons _ _=>rfl
  have hsz:(ByteArray.mk s.toArray).size=s.length:=rfl;have hat:∀ (k:Nat) (c:UInt8),s[k]? =some c→∀ hm,(ByteArray.mk s.toArray)[k]'hm=c:=fun k c h hm=>gu h hm
  have HAT:=ac hat;clear hat;generalize hsb:ByteArray.mk s.toArray=sb at*
  have HSB:=ac hsb;clear hsb;generalize hRR:ek mean N 0 s=RR at*
  have HRR:=ac hRR;clear hRR
  first | (go_enter Tryz.func179,Tryz.ntmps179) | (go_enter Tryz.func226,Tryz.ntmps226) | (go_enter Tryz.func177,Tryz.ntmps177)
  go_wp2_with fail
  go_loopw [14,7] (fun vi va wr=>∃ (k:Nat) (N1:List Nd) (a:Nat) (vn1:Value),k≤s.length∧vi= .int .i64 k∧va= .int .i64 a∧NOk N1∧a<N1.length∧N1.length≤N.length+k∧ek mean N1 a (s.drop k)=RR∧
   St w0 wr (blk B (.cells #[vn1,vm,vw] bt)*(own 245 3 vn1 N1.length (dz N1)*F))) (fun vi _ _=>s.length-(intOf vi).toNat)
  case atStart=>exact⟨0,N,0,vn,by omega,rfl,rfl,hN,hN.1,by omega,HRR.out,H.out⟩
  case round=>
   clear H HRR;obtain⟨k,N1,a,vn1,hk,rfl,rfl,hN1,ha,hlen,hlay,hst⟩:=hrel;obtain⟨an,cn,rfl⟩:=hst.right.reads.sub;obtain⟨gn,rfl⟩:=bR hst.right (by omega);obtain⟨d,hd⟩:∃ d,N1[a]? =some d:=⟨N1[a],ai ha⟩;have c0:=hst.cell 0 rfl;have m0:=hst.right.own_cellS (Cd hd);have x0:=hst.right.own_cellS (om hd (c:=0) (by omega));rw[fL] at x0;have x1:=hst.right.own_cellS (om hd (c:=1) (by omega));have HST:=ac hst;clear hst;have HN1:=ac hN1;clear hN1;have HD:=ac hd;clear hd;have ha1:(a:Int)<N1.length:=by omega
   by_cases hkn:k<s.length
   ·have hx:=ai hkn;have hdrop:s.drop k=s[k]::s.drop (k+1):=cC hkn;generalize s[k]=ch at*
    rw[hdrop] at hlay;clear hdrop;have hgx:=HAT.out k ch hx;clear hx;have hk1:(k:Int)<s.length:=by omega
    by_cases hbad:ch≠48∧ch≠49
    ·have HR2:=ac (show RR=(N1,3) by rw[← hlay,Cg hbad]);clear hlay;have hn48:ch.toNat≠48:=fun e=>hbad.1 (lc.1 e)
     have hn49:ch.toNat≠49:=fun e=>hbad.2 (lc.1 e)
     obtain⟨z,hz,hz0,hz1⟩:∃ z:Int,wrap64 (wrap64 (ch.toNat:Int)-48)=z∧¬ z=0∧¬ z=1:=by
      have:=bh ch;have e:wrap64 (ch.toNat:Int)=ch.toNat:=by rw[wrap64];omega
      refine⟨(ch.toNat:Int)-48,by rw[e,wrap64];omega,by omega,by omega⟩
     have hz2:(z != 0)=true:=by rw[bne_iff_ne];exact hz0
     have hz3:(z != 1)=true:=by rw[bne_iff_ne];exact hz1
     clear hbad hn48 hn49 hz0 hz1;clear m0 x0 x1;go_wp2_with fail;go_ret;rw[HR.out,HR2.out]
     first | exact⟨rfl,⟨_,HST.out⟩,HN1.out,by simp only;omega⟩ | exact⟨_,rfl,HST.out,HN1.out,by simp only;omega⟩
    ·have hch:ch=48∧(0:Nat)=0∨ch=49∧(1:Nat)=1:=by
      by_cases e:ch=48
      ·exact .inl ⟨e,rfl⟩
      ·by_cases e':ch=49
       ·exact .inr ⟨e',rfl⟩
       ·exact absurd ⟨e,e'⟩ hbad
     have w1:wrap64 48=48:=by unfold wrap64;omega
     have w2:wrap64 49=49:=by unfold wrap64;omega
     have w3:wrap64 0=0:=by unfold wrap64;omega
     have w4:wrap64 1=1:=by unfold wrap64;omega
     by_cases hmean:0≤d.mean
     ·have HR2:=ac (show RR=(N1,14) by rw[← hlay,Ch HD.out (by rcases hch with h | h;exact .inl h.1;exact .inr h.1) hmean]);clear hlay
      rcases hch with ⟨hc,_⟩ | ⟨hc,_⟩
      ·have hcn:ch.toNat=48:=by rw[hc];rfl
       clear hc hbad x0 x1;go_wp2_with fail;go_ret;rw[HR.out,HR2.out]
       first | exact⟨rfl,⟨_,HST.out⟩,HN1.out,by simp only;omega⟩ | exact⟨_,rfl,HST.out,HN1.out,by simp only;omega⟩
      ·have hcn:ch.toNat=49:=by rw[hc];rfl
       clear hc hbad x0 x1;go_wp2_with fail;go_ret;rw[HR.out,HR2.out]
       first | exact⟨rfl,⟨_,HST.out⟩,HN1.out,by simp only;omega⟩ | exact⟨_,rfl,HST.out,HN1.out,by simp only;omega⟩
     ·have hmean':d.mean<0:=by omega
      rcases hch with ⟨hc,_⟩ | ⟨hc,_⟩
      ·have hcn:ch.toNat=48:=by rw[hc];rfl
       by_cases hnx:d.nx 0=0
       ·have hlay2:=hlay;rw[qY HD.out (.inl ⟨hc,rfl⟩) hmean hnx] at hlay2;have HL2:=ac hlay2;clear hlay hlay2;have hnk:=HN1.out.more HD.out 0;have hx00:(d.nx 0:Int)=0:=by omega
        clear hc hbad x1;rw[hx00] at x0;go_wp2_with (at_builtin;apply ag);have hA:=HST.out.alloc (.cells #[.int .i64 0,.int .i64 0,.int .i64 (-1)] 245);have hA1:St w0 _ (own 245 3 (.slice (some ⟨wr.heap.size,0,none⟩) 1 1) 1 (ig bw)*_):=hA.own_blk (Nat.le_refl _) (by unfold maxLen;omega) rfl rfl;refine on (aC T rfl _ _ rfl rfl (hA1.right.perm (af _ _ _)) rfl hA1.reads (by intro u hu;simp [ig,bw] at hu;rcases hu with rfl | rfl | rfl <;> rfl) ?_ ?_ ?_)
        ·unfold maxLen;omega
        ·omega
        intro v5 w5 h5 _;rw[← uB] at h5;obtain⟨a5,c5,rfl⟩:=h5.reads.sub;have h5:=h5.perm (af _ _ _);have f5:=h5.free 0;have e5:=h5.cell 0 rfl;have h6:=h5.set 0 (.slice a5 (N1.length+1:Nat) c5);have H6:=ac h6;clear h6 h5 hA hA1 c0 m0 x0;go_upto_region 14 with (fail)
        generalize w5.setCell ⟨B,0,none⟩ (.slice a5 (N1.length+1:Nat) c5)=W6 at*
        have h7:St w0 W6 (blk B (.cells #[.slice a5 (N1.length+1:Nat) c5,vm,vw] bt)*(own 245 3 (.slice a5 (N1.length+1:Nat) c5) (N1.length+1) (dz (N1++[bw]))*_)):=H6.out;clear H6;obtain⟨g5,rfl⟩:=bR h7.right (by omega);have hd2:(N1++[bw])[a]? =some d:=by rw[cR (by omega)];exact HD.out
        have c0:=h7.cell 0 rfl;have hneg:¬ g5=B:=h7.own_ne;have hneg':¬ B=g5:=fun e=>hneg e.symm
        have x0:=h7.right.own_cellS (om hd2 (c:=0) (by omega));have y0:=h7.right.own_free (a*3+0);rw[hx00] at x0;have h8:=(h7.perm (af _ _ _)).own_setS (a*3+0) (.int .i64 (N1.length:Int));rw[uC hd2 (by omega)] at h8;have h8:=h8.perm (af _ _ _);have HST8:=ac h8;clear h8 h7;have HNK:=ac hnk;clear hnk;have HD2:=ac hd2;clear hd2;have hs2:IntKind.i64.wrap ((N1.length:Int)+1-1)=N1.length:=by rw[IntWalk.i64_in _ (by omega)];omega
        have hpos:(0:Int)≤a:=by omega
        have ha2:(a:Int)<(N1.length:Int)+1:=by omega
        try rw[fL] at x0
        try rw[fL] at y0
        go_region
        go_wp2_with fail;refine⟨⟨k+1,(N1++[bw]).set a (d.put 0 N1.length),N1.length,.slice (some ⟨g5,0,none⟩) (N1.length+1:Nat) c5,by omega,by go_num,rfl,HNK.out,by rw[eE,ae,gY];omega,by rw[eE,ae,gY];omega,HL2.out,?_⟩,by simp [intOf];omega⟩;rw[eE,ae,gY];exact HST8.out.drew
       ·have hlay2:=hlay;rw[qZ HD.out (.inl ⟨hc,rfl⟩) hmean hnx] at hlay2;have HL2:=ac hlay2;clear hlay hlay2;have hlt:=HN1.out.nx HD.out 0;generalize d.nx 0=nx at*
        have hnx1:¬ (nx:Int)=0:=by omega
        clear hc hbad x1;go_wp2_with fail;exact⟨⟨k+1,N1,nx,_,by omega,by go_num,rfl,HN1.out,hlt,by omega,HL2.out,HST.out⟩,by simp [intOf];omega⟩
      ·have hcn:ch.toNat=49:=by rw[hc];rfl
       by_cases hnx:d.nx 1=0
       ·have hlay2:=hlay;rw[qY HD.out (.inr ⟨hc,rfl⟩) hmean hnx] at hlay2;have HL2:=ac hlay2;clear hlay hlay2;have hnk:=HN1.out.more HD.out 1;have hx10:(d.nx 1:Int)=0:=by omega
        clear hc hbad x0;rw[hx10] at x1;go_wp2_with (at_builtin;apply ag);have hA:=HST.out.alloc (.cells #[.int .i64 0,.int .i64 0,.int .i64 (-1)] 245);have hA1:St w0 _ (own 245 3 (.slice (some ⟨wr.heap.size,0,none⟩) 1 1) 1 (ig bw)*_):=hA.own_blk (Nat.le_refl _) (by unfold maxLen;omega) rfl rfl;refine on (aC T rfl _ _ rfl rfl (hA1.right.perm (af _ _ _)) rfl hA1.reads (by intro u hu;simp [ig,bw] at hu;rcases hu with rfl | rfl | rfl <;> rfl) ?_ ?_ ?_)
        ·unfold maxLen;omega
        ·omega
        intro v5 w5 h5 _;rw[← uB] at h5;obtain⟨a5,c5,rfl⟩:=h5.reads.sub;have h5:=h5.perm (af _ _ _);have f5:=h5.free 0;have e5:=h5.cell 0 rfl;have h6:=h5.set 0 (.slice a5 (N1.length+1:Nat) c5);have H6:=ac h6;clear h6 h5 hA hA1 c0 m0 x1;go_upto_region 14 with (fail)
        generalize w5.setCell ⟨B,0,none⟩ (.slice a5 (N1.length+1:Nat) c5)=W6 at*
        have h7:St w0 W6 (blk B (.cells #[.slice a5 (N1.length+1:Nat) c5,vm,vw] bt)*(own 245 3 (.slice a5 (N1.length+1:Nat) c5) (N1.length+1) (dz (N1++[bw]))*_)):=H6.out;clear H6;obtain⟨g5,rfl⟩:=bR h7.right (by omega);have hd2:(N1++[bw])[a]? =some d:=by rw[cR (by omega)];exact HD.out
        have c0:=h7.cell 0 rfl;have hneg:¬ g5=B:=h7.own_ne;have hneg':¬ B=g5:=fun e=>hneg e.symm
        have x1:=h7.right.own_cellS (om hd2 (c:=1) (by omega));have y1:=h7.right.own_free (a*3+1);rw[hx10] at x1;have h8:=(h7.perm (af _ _ _)).own_setS (a*3+1) (.int .i64 (N1.length:Int));rw[uC hd2 (by omega)] at h8;have h8:=h8.perm (af _ _ _);have HST8:=ac h8;clear h8 h7;have HNK:=ac hnk;clear hnk;have HD2:=ac hd2;clear hd2;have hs2:IntKind.i64.wrap ((N1.length:Int)+1-1)=N1.length:=by rw[IntWalk.i64_in _ (by omega)];omega
        have hpos:(0:Int)≤a:=by omega
        have ha2:(a:Int)<(N1.length:Int)+1:=by omega
        try rw[fL] at x1
        try rw[fL] at y1
        go_region
        go_wp2_with fail;refine⟨⟨k+1,(N1++[bw]).set a (d.put 1 N1.length),N1.length,.slice (some ⟨g5,0,none⟩) (N1.length+1:Nat) c5,by omega,by go_num,rfl,HNK.out,by rw[eE,ae,gY];omega,by rw[eE,ae,gY];omega,HL2.out,?_⟩,by simp [intOf];omega⟩;rw[eE,ae,gY];exact HST8.out.drew
       ·have hlay2:=hlay;rw[qZ HD.out (.inr ⟨hc,rfl⟩) hmean hnx] at hlay2;have HL2:=ac hlay2;clear hlay hlay2;have hlt:=HN1.out.nx HD.out 1;generalize d.nx 1=nx at*
        have hnx1:¬ (nx:Int)=0:=by omega
        clear hc hbad x0;go_wp2_with fail;exact⟨⟨k+1,N1,nx,_,by omega,by go_num,rfl,HN1.out,hlt,by omega,HL2.out,HST.out⟩,by simp [intOf];omega⟩
   ·obtain rfl:k=s.length:=by omega
    rw[iT] at hlay;have hk1:¬ (s.length:Int)<s.length:=by omega
    by_cases hmean:0≤d.mean
    ·have HR2:=ac (show RR=(N1,14) by rw[← hlay,uF HD.out (.inl hmean)]);clear hlay x0 x1;go_wp2_with fail;go_ret;rw[HR.out,HR2.out]
     first | exact⟨rfl,⟨_,HST.out⟩,HN1.out,by simp only;omega⟩ | exact⟨_,rfl,HST.out,HN1.out,by simp only;omega⟩
    ·have hmean':d.mean<0:=by omega
     have hx0:d.nx 0=d.n0:=rfl;have hx1:d.nx 1=d.n1:=rfl;rw[hx0] at x0;rw[hx1] at x1;clear hx0 hx1
     by_cases hz:d.n0=0∧d.n1=0
     ·have HR2:=ac (show RR=(N1.set a { d with mean:=mean },0) by rw[← hlay,uG HD.out hmean hz.1 hz.2]);have hnm:=HN1.out.mean HD.out mean;have f0:=HST.out.right.own_free (a*3+2);have h6:=(HST.out.perm (af _ _ _)).own_setS (a*3+2) (.int .i64 mean);rw[Ce HD.out] at h6;have h6:=h6.perm (af _ _ _);have H6:=ac h6;clear h6 hlay;rw[hz.1] at x0;rw[hz.2] at x1;have heq:(Op.equalIn 10000 131 (.agg #[.int .i64 0,.int .i64 0]) (.agg #[.int .i64 0,.int .i64 0])).run Tryz.prog wr= .ok true wr:=uE (p:=0) (q:=0) (by omega) (by omega) wr;go_wp2_with fail;go_ret;rw[HR.out,HR2.out];rw[eE] at*
      refine⟨rfl,⟨_,H6.out⟩,hnm,?_⟩;omega
     ·have HR2:=ac (show RR=(N1,14) by rw[← hlay,uF HD.out (.inr (by omega))]);clear hlay;have hb0:=HN1.out.nx HD.out 0;have hb1:=HN1.out.nx HD.out 1;rw[show d.nx 0=d.n0 from rfl] at hb0;rw[show d.nx 1=d.n1 from rfl] at hb1;have heq:(Op.equalIn 10000 131 (.agg #[.int .i64 d.n0,.int .i64 d.n1]) (.agg #[.int .i64 0,.int .i64 0])).run Tryz.prog wr= .ok false wr:=by
       rw[uE (by omega) (by omega),decide_eq_false hz]
      generalize d.n0=p0 at*
      generalize d.n1=p1 at*
      clear hz;go_wp2_with fail;go_ret;rw[HR.out,HR2.out]
      first | exact⟨rfl,⟨_,HST.out⟩,HN1.out,by simp only;omega⟩ | exact⟨_,rfl,HST.out,HN1.out,by simp only;omega⟩
end Go.Proofs.YtboflbdniogcdaaGreatDoor
