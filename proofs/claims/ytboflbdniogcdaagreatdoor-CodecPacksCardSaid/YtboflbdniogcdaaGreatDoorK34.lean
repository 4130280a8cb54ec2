/-
  Parts of a proof.
-/
import Derived.Test.YtboflbdniogcdaaGreatDoorK28
import Derived.Test.YtboflbdniogcdaaGreatDoorK25
import Derived.Test.YtboflbdniogcdaaGreatDoorK23
set_option linter.unusedVariables false
set_option linter.unusedSimpArgs false
set_option maxRecDepth 100000
set_option maxHeartbeats 100000000
namespace Go.Proofs.YtboflbdniogcdaaGreatDoor
open Go.RowKit Go.Mz
def vl (t:List Nat) (p n:Nat):Nat:=bz true (fun i=>t.getD (p+i) 0) n
def cF (k:Nat):Nat:=if k<144∨280≤k then 8 else if k<256 then 9 else 7
def dr:List Nat:=(List.range 288).map cF
def dG:List Nat:=List.replicate 30 5
def fE:Nat→Nat
 | 0=>3
 | k+1=>fE k+2^(k/4-1)
def fF:Nat→Nat
 | 0=>1
 | k+1=>fF k+2^(k/2-1)
def bf:List (Nat × Nat):=(List.range 28).map (fun k=>(fE k,k/4-1))++[(258,0)]
def aY:List (Nat × Nat):=(List.range 30).map fun k=>(fF k,k/2-1)
def be:List Nat:=[16,17,18,0,8,7,9,6,10,5,11,4,12,3,13,2,14,1,15]
def usedL (l:List Nat):Nat:=(l.filter (fun n=>decide (0<n))).length
def longL (l:List Nat):Nat:=l.foldl max 0
def bM (l:List Nat) (how:Nat):Nat ⊕ List (List Nat):=
 let c:=bL (l.map fun(n:Nat)=>(n:Int))
 if c.2.2≠0 then .inl c.2.2
 else if c.2.1=false∧(how=0∨how=1∧(1<usedL l∨1<longL l)) then .inl 3
 else .inr c.1
def ev (t:List Nat) (most:Nat):Nat→Nat→List UInt8→Nat ⊕ (Nat × List UInt8)
 | 0,p,out=> .inr (p,out)
 | n+1,p,out=>
  if t.length<p+8 then .inl 2 else if most≤out.length then .inl 8 else ev t most n (p+8) (out++[UInt8.ofNat (vl t p 8)])
def gU (t:List Nat) (most p:Nat) (out:List UInt8):Nat ⊕ (Nat × List UInt8):=
 let q:=(p+7)/8*8
 if t.length<q+32 then .inl 2
 else if vl t q 16+vl t (q+16) 16≠65535 then .inl 3
 else ev t most (vl t q 16) (q+32) out
def cP (t:List Nat) (W:List (List Nat)) (n:Nat):Nat→List Nat→Nat→Nat ⊕ (Nat × List Nat)
 | 0,_,_=> .inl 99
 | f+1,all,p=>
  if all.length<n then
   match bG W [] (t.drop p) with
   | (_,.inr e)=> .inl e
   | (k,.inl v)=>
    if v<16 then cP t W n f (all++[v]) (p+k)
    else if v=16∧all=[] then .inl 3
    else
     let value:=if v=16 then all.getD (all.length-1) 0 else 0
     let least:=if v=18 then 11 else 3
     let wide:=if v=16 then 2 else if v=18 then 7 else 3
     if t.length<p+k+wide then .inl 2
     else cP t W n f (all++List.replicate (least+vl t (p+k) wide) value) (p+k+wide)
  else if n<all.length then .inl 3 else .inr (p,all)
def dd (t:List Nat) (l:List (Nat × Nat)) (i p:Nat):Nat ⊕ (Nat × Nat):=
 match l[i]? with
 | none=> .inl 6
 | some b=>if t.length<p+b.2 then .inl 2 else .inr (p+b.2,b.1+vl t p b.2)
def dP (d:Nat):Nat→List UInt8→List UInt8
 | 0,out=>out
 | n+1,out=>dP d n (out++[out.getD (out.length-d) 0])
def ip (t:List Nat) (B:List (List Nat)) (most n p:Nat) (out:List UInt8):Nat ⊕ (Nat × List UInt8):=
 match bG B [] (t.drop p) with
 | (_,.inr e)=> .inl e
 | (k,.inl v)=>
  match dd t aY v (p+k) with
  | .inl e=> .inl e
  | .inr (q,d)=>if out.length<d then .inl 3 else if most<out.length+n then .inl 8 else .inr (q,dP d n out)
def fG (t:List Nat) (A B:List (List Nat)) (most p:Nat) (out:List UInt8):Nat ⊕ (Nat × List UInt8 × Bool):=
 match bG A [] (t.drop p) with
 | (_,.inr e)=> .inl e
 | (k,.inl v)=>
  if v=256 then .inr (p+k,out,true)
  else if v<256 then(if most≤out.length then .inl 8 else .inr (p+k,out++[UInt8.ofNat v],false))
  else
   match dd t bf (v-257) (p+k) with
   | .inl e=> .inl e
   | .inr (q,n)=>
    match ip t B most n q out with
    | .inl e=> .inl e
    | .inr (q',out')=> .inr (q',out',false)
def dH (t:List Nat) (A B:List (List Nat)) (most:Nat):Nat→Nat→List UInt8→Nat ⊕ (Nat × List UInt8)
 | 0,_,_=> .inl 99
 | f+1,p,out=>
  match fG t A B most p out with
  | .inl e=> .inl e
  | .inr (q,o,true)=> .inr (q,o)
  | .inr (q,o,false)=>dH t A B most f q o
def fR (t:List Nat) (la lb:List Nat) (how most p:Nat) (out:List UInt8):Nat ⊕ (Nat × List UInt8):=
 match bM la 0 with
 | .inl e=> .inl e
 | .inr A=>
  match bM lb how with
  | .inl e=> .inl e
  | .inr B=>dH t A B most (t.length+1-p) p out
def eO (t:List Nat):List Nat→Nat→List Nat→Nat ⊕ (Nat × List Nat)
 | [],p,lens=> .inr (p,lens)
 | i::r,p,lens=>if t.length<p+3 then .inl 2 else eO t r (p+3) (lens.set i (vl t p 3))
def gV (t:List Nat) (most p:Nat) (out:List UInt8):Nat ⊕ (Nat × List UInt8):=
 if t.length<p+14 then .inl 2
 else
  let lits:=vl t p 5+257
  let dists:=vl t (p+5) 5+1
  let m:=vl t (p+10) 4+4
  if 286<lits∨30<dists then .inl 3
  else
   match eO t (be.take m) (p+14) (List.replicate 19 0) with
   | .inl e=> .inl e
   | .inr (q,lens)=>
    match bM lens 0 with
    | .inl e=> .inl e
    | .inr W=>
     match cP t W (lits+dists) (lits+dists+1) [] q with
     | .inl e=> .inl e
     | .inr (q',all)=>if all.getD 256 0=0 then .inl 3 else fR t (all.take lits) (all.drop lits) 1 most q' out
def eS (t:List Nat) (most h p:Nat) (out:List UInt8):Nat ⊕ (Nat × List UInt8):=
 if h=0 then gU t most p out else if h=1 then fR t dr dG 2 most p out else if h=2 then gV t most p out else .inl 3
def inflF (t:List Nat) (most:Nat):Nat→Nat→List UInt8→Nat ⊕ (Nat × List UInt8)
 | 0,_,_=> .inl 99
 | f+1,p,out=>
  if t.length<p+3 then .inl 2
  else
   match eS t most (vl t p 3/2) (p+3) out with
   | .inl e=> .inl e
   | .inr (q,out')=>if vl t p 3%2=1 then .inr (q,out') else inflF t most f q out'
end Go.Proofs.YtboflbdniogcdaaGreatDoor
namespace Go.Mz
open Go.RowKit
def dU (often:List Nat) (k:Nat):List aE:=((List.range k).filter fun i=>decide (0<often.getD i 0)).map fun i=>(often.getD i 0,[i])
theorem Es (often:List Nat) (k:Nat):dU often (k+1)=dU often k++if 0<often.getD k 0 then [(often.getD k 0,[k])] else []:=by
 rw[dU,gX,jx,List.map_append,dU]
 congr 1
 by_cases h:0<often.getD k 0
 ·rw[if_pos h,cT,if_pos (by simpa using h)];rfl
 ·rw[if_neg h,cT,if_neg (by simpa using h)];rfl
theorem wy {often:List Nat} {k:Nat} {u:aE} (h:u∈dU often k):∃ i,i<k∧0<often.getD i 0∧u=(often.getD i 0,[i]):=by
 obtain⟨i,hi,rfl⟩:=bW.1 h;obtain⟨h1,h2⟩:=jw.1 hi;exact⟨i,gJ.1 h1,by simpa using h2,rfl⟩
theorem rT {often:List Nat} {k i:Nat} (h:i<k) (h0:0<often.getD i 0):(often.getD i 0,[i])∈dU often k:=
 bW.2 ⟨i,jw.2 ⟨gJ.2 h,by simpa using h0⟩,rfl⟩
def comes (often:List Nat):Nat:=(dU often often.length).length
def cV (u:aE):Nat:=u.2.headD 0
theorem Et (often:List Nat) (k:Nat):(dU often k).map cV=(List.range k).filter fun i=>decide (0<often.getD i 0):=by
 rw[dU,eF]
 conv=>rhs;rw[← zr ((List.range k).filter fun i=>decide (0<often.getD i 0))]
 rfl
theorem Eu (often:List Nat) (k:Nat):((dU often k).map cV).Nodup:=by
 rw[Et];exact JQ _ List.nodup_range
def aT (often:List Nat):List aE:=il (dU often often.length)
def iq (often:List Nat) (j:Nat):Nat:=((aT often).map cV).getD j 0
theorem lE (often:List Nat):(aT often).length=comes often:=(mK _).length_eq
theorem oU {often:List Nat} {u:aE} (h:u∈aT often):∃ i,i<often.length∧0<often.getD i 0∧u=(often.getD i 0,[i]):=wy ((mK _).mem_iff.1 h)
theorem wE (often:List Nat):((aT often).map cV).Nodup:=((mK (dU often often.length)).map cV).nodup_iff.2 (Eu _ _)
theorem wF (often:List Nat):lA (aT often) (iq often):=by
 refine⟨oE _,fun j u hu=> ?_,fun i j hi hj h=> ?_⟩
 ·obtain⟨i,h1,h2,rfl⟩:=oU (aG hu);have e:((aT often).map cV)[j]? =some i:=by rw[au,hu];rfl
  show [i]=[((aT often).map cV).getD j 0];rw[List.getD_eq_getElem?_getD (l:=(aT often).map cV),e];rfl
 ·have h1:i<((aT often).map cV).length:=by rw[bI];exact hi
  have h2:j<((aT often).map cV).length:=by rw[bI];exact hj
  rw[iq,iq,List.getD_eq_getElem?_getD,List.getD_eq_getElem?_getD,ai h1,ai h2] at h;exact(List.getElem_inj (wE often)).1 h
theorem rU {often:List Nat} {i:Nat}:i∈(aT often).map cV↔i<often.length∧0<often.getD i 0:=by
 constructor
 ·intro h;obtain⟨u,hu,rfl⟩:=bW.1 h;obtain⟨i,h1,h2,rfl⟩:=oU hu;exact⟨h1,h2⟩
 ·rintro⟨h1,h2⟩;exact bW.2 ⟨_,(mK _).mem_iff.2 (rT h1 h2),rfl⟩
theorem wG {often:List Nat} {i:Nat} (h:i<often.length) (h0:0<often.getD i 0):∃ j,j<(aT often).length∧iq often j=i:=by
 obtain⟨j,hj,he⟩:=qb.1 (rU.2 ⟨h,h0⟩);refine⟨j,by rw[bI] at hj;exact hj,?_⟩;rw[iq,List.getD_eq_getElem?_getD,ai hj];exact he
theorem Ev (g:Nat→Nat) (N:Nat) (L:List Nat) (hn:L.Nodup) (hl:∀ i∈L,i<N) (h0:∀ i,i<N→i∉L→g i=0):((List.range N).map g).sum=(L.map g).sum:=by
 have hp:L.Perm ((List.range N).filter fun i=>decide (i∈L)):=by
  refine(List.perm_ext_iff_of_nodup hn (JQ _ List.nodup_range)).2 fun i=> ?_
  rw[jw,gJ,decide_eq_true_eq];exact⟨fun h=>⟨hl i h,h⟩,fun h=>h.2⟩
 rw[(hp.map g).sum_nat];have key:∀ M:List Nat,(∀ i∈M,i<N)→(M.map g).sum=((M.filter fun i=>decide (i∈L)).map g).sum:=by
  intro M
  induction M with
  | nil=>intro _;rfl
  | cons x M ih=>
   intro hM;rw[dR,l6,ih fun i hi=>hM i (by simp [hi]),cT]
   by_cases hx:x∈L
   ·rw[if_pos (by simpa using hx),dR,l6]
   ·rw[if_neg (by simpa using hx),h0 x (hM x (by simp)) hx,bQ]
 exact key _ fun i hi=>gJ.1 hi
def j7 (often:List Nat) (most:Nat):List Nat:=dT (aT often) most (2*comes often-2)
def j8 (often:List Nat) (most:Nat):List Nat:=(List.range often.length).map fun i=>(j7 often most).count i
structure LimOk (often:List Nat) (most:Nat) (l:List Nat):Prop where
 len:l.length=often.length
 pos:∀ i,i<often.length→(0<l.getD i 0↔0<often.getD i 0)
 le:∀ n∈l,n≤most
 full:2≤comes often→krS 31 l=2^31
 one:comes often≤1→∀ n∈l,n≤1
theorem wH {often:List Nat}:∀ k,∀ u∈lv (aT often) k,∀ i∈u.2,i<often.length∧0<often.getD i 0:=by
 intro k
 induction k with
 | zero=>intro u hu;simp [lv] at hu
 | succ k ih=>
  intro u hu i hi;rw[lv] at hu
  rcases ly _ _ _ hu with h | h
  ·obtain⟨j,h1,h2,rfl⟩:=oU h;simp at hi;subst hi;exact⟨h1,h2⟩
  ·have key:∀ l:List aE,(∀ u∈l,∀ i∈u.2,i<often.length∧0<often.getD i 0)→∀ u∈aO l,∀ i∈u.2,i<often.length∧0<often.getD i 0:=by
    intro l
    induction l using aO.induct with
    | case1 x y r ih=>
     intro hl u hu i hi;rw[aO] at hu
     rcases List.mem_cons.1 hu with rfl | hu
     ·rcases cA.1 hi with hi | hi
      ·exact hl x (by simp) i hi
      ·exact hl y (by simp) i hi
     ·exact ih (fun u hu=>hl u (by simp [hu])) u hu i hi
    | case2 l h=>
     intro hl u hu;rw[aO] at hu
     ·cases hu
     ·exact h
   exact key _ ih u h i hi
theorem rV {often:List Nat} {most i:Nat} (h:i∈j7 often most):i<often.length∧0<often.getD i 0:=by
 obtain⟨u,hu,hi⟩:=iS.1 h;exact wH most u (jo hu) i hi
theorem Ew {often:List Nat} {most i:Nat} (h:i<often.length):(j8 often most).getD i 0=(j7 often most).count i:=by
 rw[j8,List.getD_eq_getElem?_getD,au,fs h];rfl
theorem Ex {often:List Nat} {most:Nat} (h2:2≤comes often) (hm:comes often≤2^most) (h1:1≤most) (h30:most≤30):LimOk often most (j8 often most):=by
 obtain⟨k,rfl⟩:∃ k,most=k+1:=⟨most-1,by omega⟩;have hS:=wF often;have hl:=lE often;obtain⟨q1,q2,q3⟩:=uW hS (by rw[hl];exact h2) k (by rw[hl];exact hm);rw[hl] at q1 q2 q3;have hc:∀ j,j<comes often→(j7 often (k+1)).count (iq often j)=dL (aT often) (iq often) (k+1) (2*comes often-2) j:=fun j hj=>rfl
 refine⟨by simp [j8],fun i hi=> ?_,fun n hn=> ?_,fun _=> ?_,fun h=>by omega⟩
 ·rw[Ew hi]
  constructor
  ·intro h;exact(rV (JI.1 h)).2
  ·intro h;obtain⟨j,hj,rfl⟩:=wG hi h;rw[hl] at hj;rw[hc j hj];have:=(q2 j hj).1;omega
 ·obtain⟨i,hi,rfl⟩:=bW.1 hn;have hi:=gJ.1 hi
  by_cases h:0<often.getD i 0
  ·obtain⟨j,hj,rfl⟩:=wG hi h;rw[hl] at hj;rw[hc j hj];exact(q2 j hj).2
  ·rw[JS.2 fun hm=>h (rV hm).2];omega
 ·have e:krS 31 (j8 often (k+1))=((List.range often.length).map fun i=>io 31 ((j7 often (k+1)).count i)).sum:=by
   rw[krS,j8,eF];rfl
  rw[e,Ev (fun i=>io 31 ((j7 often (k+1)).count i)) often.length ((aT often).map cV) (wE often) (fun i hi=>(rU.1 hi).1) (fun i hi hn=>by
   rw[JS.2 fun hm=>hn (rU.2 (rV hm))];rfl)]
  have e2:(aT often).map cV=(List.range (comes often)).map (iq often):=by
   refine jU (by simp [hl]) fun j h1 h2=> ?_
   rw[gs (f:=iq often),lg,iq,List.getD_eq_getElem?_getD,ai h1];rfl
  rw[e2,eF];have e3:((List.range (comes often)).map ((fun i=>io 31 ((j7 often (k+1)).count i)) ∘ iq often)).sum=dq (comes often) fun j=>2^(30-k)*2^(k+1-dL (aT often) (iq often) (k+1) (2*comes often-2) j):=by
   rw[dq]
   congr 1
   refine iU fun j hj=> ?_
   have hj:=gJ.1 hj;obtain⟨b1,b2⟩:=q2 j hj;simp only[Function.comp_apply,hc j hj];rw[io,if_pos (by omega),← lZ]
   congr 1;omega
  rw[e3];have e4:∀ (n c:Nat) (f:Nat→Nat),dq n (fun j=>c*f j)=c*dq n f:=by
   intro n c f
   induction n with
   | zero=>rfl
   | succ n ih=>rw[gQ,gQ,ih,mb]
  rw[e4,q3,← lZ]
  congr 1;omega
end Go.Mz
