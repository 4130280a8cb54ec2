/-
  Parts of a proof.
-/
import Derived.Test.YtboflbdniogcdaaGreatDoorK00
import Derived.Test.YtboflbdniogcdaaGreatDoorK01
import Derived.OrdersHeld
import Derived.Deep.RegionHeld
set_option linter.unusedVariables false
set_option linter.unusedSimpArgs false
set_option maxRecDepth 100000
set_option maxHeartbeats 100000000
namespace Go.Mz
open Go.RowKit
section
variable {P:Program} {ops:Array Oper} {Q:Exit→Act→World→Prop} {md:Region.Mode} {S:World→Prop} {k:Nat}
def cH (P:Program) (md:Region.Mode) (ops:Array Oper) (Q:Exit→Act→World→Prop) (S:World→Prop) (k:Nat):Nat→Array Bool→Act→World→Prop
 | 0,listed,a,w=>Region.ready md ops listed=[]∧Q .normal a w
 | fuel+1,listed,a,w=>
  (Region.ready md ops listed=[]→Q .normal a w)∧
  ∀ i∈Region.ready md ops listed,wpOp P ops Q i (fun a' w'=>((listed.setIfInBounds i true).getD k false=false→S w')∧cH P md ops Q S k fuel (listed.setIfInBounds i true) a' w') a w
theorem uS:∀ (fuel:Nat) (listed:Array Bool) (a:Act) (w:World),cH P md ops Q S k fuel listed a w→wpAny P md ops Q fuel listed a w
 | 0,_,_,_,h=>h
 | fuel+1,_,_,_,h=>⟨h.1,fun i hi=>wpOp_mono (fun a' w' h'=>uS fuel _ a' w' h'.2) (h.2 i hi)⟩
def ei (md:Region.Mode) (ops:Array Oper) (k i:Nat):Bool:=((ops[k]?).map fun o=>o.after.any fun e=>Region.binds md e&&e.on==i).getD false
theorem A9 {i:Nat} {oi:Oper} {v:Value} (hi:ops[i]? =some oi) (hsel:∀ (j:Nat) (o:Oper) cs b,ops[j]? =some o→o.op≠ .select cs b)
  (hQ:∀ c a w,Q (.panic c) (a.put oi.dst v) w→Q (.panic c) a w) (hw:ei md ops k i=true):
  ∀ (fuel:Nat) (listed:Array Bool) (a:Act) (w:World),
   (∀ j oj,ops[j]? =some oj→j≠i→listed.getD j true=false→(∀ e∈oj.after,Region.binds md e=true→e.on≠i)→oi.apart ops oj=true)→
   i∈Region.ready md ops listed→YieldsIf P ops S oi v a→listed.getD k false=false→S w→
   cH P md ops Q S k fuel (listed.setIfInBounds i true) (a.put oi.dst v) w→cH P md ops Q S k (fuel+1) listed a w:=by
 have hik:k≠i→∀ oj,ops[k]? =some oj→(∀ e∈oj.after,Region.binds md e=true→e.on≠i)→False:=fun _ oj hoj hno=>by
  unfold ei at hw;rw[hoj] at hw;simp only[b7,jg] at hw;obtain⟨e,he,hb⟩:=qU.1 hw;simp only[cR,beq_iff_eq] at hb;exact hno e he hb.1 hb.2
 intro fuel
 induction fuel with
 | zero=>
  intro listed a w _ hr hy hk hS H;refine⟨fun h=>(by rw[h] at hr;cases hr),fun j hj=> ?_⟩
  by_cases hji:j=i
  ·subst hji;exact hy.wpOp hi hS ⟨fun _=>hS,H⟩
  ·have:=ready_mono hj hji;rw[H.1] at this;cases this
 | succ fuel ih=>
  intro listed a w hfree hr hy hk hS H;refine⟨fun h=>(by rw[h] at hr;cases hr),fun j hj=> ?_⟩
  by_cases hji:j=i
  ·subst hji;exact hy.wpOp hi hS ⟨fun _=>hS,H⟩
  ·have h1:=H.2 j (ready_mono hj hji);obtain⟨hjun,oj,hoj,hall⟩:=mem_ready.1 hj;have hnot:∀ e∈oj.after,Region.binds md e=true→e.on≠i:=fun e he hb heq=>by
    have h1:=hall e he hb;have h0:=(mem_ready.1 hr).1;rw[heq] at h1
    rcases bV i listed.size with h' | h'
    ·simp [h'] at h0 h1;rw[h0] at h1;cases h1
    ·simp [kE h'] at h1
   have hjk:j≠k:=fun e=>by subst e;exact hik hji oj hoj hnot
   have h2:=wpOp_putIf hoj (hfree j oj hoj hji hjun hnot) (fun cs b=>hsel i oi cs b hi) (fun cs b=>hsel j oj cs b hoj) hQ hy h1;have hfree':∀ m ok,ops[m]? =some ok→m≠i→(listed.setIfInBounds j true).getD m true=false→
     (∀ e∈ok.after,Region.binds md e=true→e.on≠i)→oi.apart ops ok=true:=fun m ok hm hmi hun hno=>by
    refine hfree m ok hm hmi ?_ hno
    by_cases hjm:j=m
    ·subst hjm;exact hjun
    ·rw[getD_set_ne true hjm] at hun;exact hun
   have hk':(listed.setIfInBounds j true).getD k false=false:=by rw[getD_set_ne false hjk];exact hk
   have hki:k≠i→((listed.setIfInBounds i true).setIfInBounds j true).getD k false=false:=fun hki=>by
    rw[getD_set_ne false hjk,getD_set_ne false (Ne.symm hki)];exact hk
   by_cases hki':k=i
   ·subst hki';exfalso;obtain⟨_,o,ho,hall⟩:=mem_ready.1 hr;unfold ei at hw;rw[ho] at hw;simp only[b7,jg] at hw;obtain⟨e,he,hb⟩:=qU.1 hw;simp only[cR,beq_iff_eq] at hb;have:=hall e he hb.1;rw[hb.2,hk] at this;cases this
   refine wpOp_mono (fun a' w' h3=>⟨fun _=>h3.2.1 (hki hki'),ih (listed.setIfInBounds j true) a' w' hfree' (ready_mono hr (Ne.symm hji)) h3.1 hk' (h3.2.1 (hki hki')) ?_⟩) h2;rw[qV _ _ hji];exact h3.2.2
theorem uT {i:Nat} {oi:Oper} {v:Value} {fuel:Nat} {listed:Array Bool} {a:Act} {w:World} (hi:ops[i]? =some oi)
  (hs:Region.noSelect ops=true) (hf:Region.free md ops listed i=true) (hr:(Region.ready md ops listed).contains i=true) (hw:ei md ops k i=true) (hk:listed.getD k false=false)
  (hQ:∀ c a w,Q (.panic c) (a.put oi.dst v) w→Q (.panic c) a w) (hS:S w) (hy:YieldsIf P ops S oi v a)
  (h:cH P md ops Q S k fuel (listed.setIfInBounds i true) (a.put oi.dst v) w):cH P md ops Q S k (fuel+1) listed a w:=
 A9 hi (Region.noSelect_spec hs) hQ hw fuel listed a w (Region.free_spec hi hf) (by simpa using hr) hy hk hS h
theorem Bc {i:Nat} {oi:Oper} {v:Value} (hi:ops[i]? =some oi) (hsel:∀ (j:Nat) (o:Oper) cs b,ops[j]? =some o→o.op≠ .select cs b)
  (hQ:∀ c a w,Q (.panic c) (a.put oi.dst v) w→Q (.panic c) a w) (hik:i≠k):
  ∀ (fuel:Nat) (listed:Array Bool) (a:Act) (w:World),
   (∀ j oj,ops[j]? =some oj→j≠i→listed.getD j true=false→(∀ e∈oj.after,Region.binds md e=true→e.on≠i)→oi.apart ops oj=true)→
   i∈Region.ready md ops listed→Yields P ops oi v a→(listed.getD k false=false→S w)→
   cH P md ops Q S k fuel (listed.setIfInBounds i true) (a.put oi.dst v) w→cH P md ops Q S k (fuel+1) listed a w:=by
 intro fuel
 induction fuel with
 | zero=>
  intro listed a w _ hr hy hS H;refine⟨fun h=>(by rw[h] at hr;cases hr),fun j hj=> ?_⟩
  by_cases hji:j=i
  ·subst hji;exact hy.wpOp hi ⟨fun hf=>hS (by rw[getD_set_ne false hik] at hf;exact hf),H⟩
  ·have:=ready_mono hj hji;rw[H.1] at this;cases this
 | succ fuel ih=>
  intro listed a w hfree hr hy hS H;refine⟨fun h=>(by rw[h] at hr;cases hr),fun j hj=> ?_⟩
  by_cases hji:j=i
  ·subst hji;exact hy.wpOp hi ⟨fun hf=>hS (by rw[getD_set_ne false hik] at hf;exact hf),H⟩
  ·have h1:=H.2 j (ready_mono hj hji);obtain⟨hjun,oj,hoj,hall⟩:=mem_ready.1 hj;have hnot:∀ e∈oj.after,Region.binds md e=true→e.on≠i:=fun e he hb heq=>by
    have h1:=hall e he hb;have h0:=(mem_ready.1 hr).1;rw[heq] at h1
    rcases bV i listed.size with h' | h'
    ·simp [h'] at h0 h1;rw[h0] at h1;cases h1
    ·simp [kE h'] at h1
   have h2:=wpOp_put hoj (hfree j oj hoj hji hjun hnot) (fun cs b=>hsel i oi cs b hi) (fun cs b=>hsel j oj cs b hoj) hQ hy h1;have hfree':∀ m ok,ops[m]? =some ok→m≠i→(listed.setIfInBounds j true).getD m true=false→
     (∀ e∈ok.after,Region.binds md e=true→e.on≠i)→oi.apart ops ok=true:=fun m ok hm hmi hun hno=>by
    refine hfree m ok hm hmi ?_ hno
    by_cases hjm:j=m
    ·subst hjm;exact hjun
    ·rw[getD_set_ne true hjm] at hun;exact hun
   have hset:((listed.setIfInBounds i true).setIfInBounds j true).getD k false=(listed.setIfInBounds j true).getD k false:=by
    rw[qV _ _ (Ne.symm hji),getD_set_ne false hik]
   refine wpOp_mono (fun a' w' h3=>⟨fun hf=>h3.2.1 (by rw[hset];exact hf),ih (listed.setIfInBounds j true) a' w' hfree' (ready_mono hr (Ne.symm hji)) h3.1 (fun hf=>h3.2.1 (by rw[hset];exact hf)) ?_⟩) h2;rw[qV _ _ hji];exact h3.2.2
theorem Bd {i:Nat} {oi:Oper} {v:Value} {fuel:Nat} {listed:Array Bool} {a:Act} {w:World} (hi:ops[i]? =some oi)
  (hs:Region.noSelect ops=true) (hf:Region.free md ops listed i=true) (hr:(Region.ready md ops listed).contains i=true) (hik:i≠k)
  (hQ:∀ c a w,Q (.panic c) (a.put oi.dst v) w→Q (.panic c) a w) (hS:S w) (hy:Yields P ops oi v a)
  (h:cH P md ops Q S k fuel (listed.setIfInBounds i true) (a.put oi.dst v) w):cH P md ops Q S k (fuel+1) listed a w:=
 Bc hi (Region.noSelect_spec hs) hQ hik fuel listed a w (Region.free_spec hi hf) (by simpa using hr) hy (fun _=>hS) h
theorem uU {rs:List Nat} {fuel:Nat} {listed:Array Bool} {a:Act} {w:World} (hr:Region.ready md ops listed=rs) (hne:rs≠[])
  (h:∀ i∈rs,wpOp P ops Q i (fun a' w'=>((listed.setIfInBounds i true).getD k false=false→S w')∧cH P md ops Q S k fuel (listed.setIfInBounds i true) a' w') a w):cH P md ops Q S k (fuel+1) listed a w:=
 ⟨fun h0=>absurd (hr ▸ h0) hne,hr ▸ h⟩
theorem io {id:Nat} {a:Act} {w:World} (hm:P.follows .mixedOrders=true)
  (h:cH P .any ops Q S k ops.size (Array.replicate ops.size false) a w.drew):(Code.region id ops true).wp P Q a w:=
 wp_region_any hm (uS _ _ _ _ h)
end
section
variable {P:Program} {md:Region.Mode} {ops:Array Oper} {Q:Exit→Act→World→Prop} {S:World→Prop} {k:Nat}
def uV (md:Region.Mode) (ops:Array Oper) (listed:Array Bool) (k i:Nat):Bool:=Region.noSelect ops&&(Region.free md ops listed i&&((Region.ready md ops listed).contains i&&decide (i≠k)))
def uW (md:Region.Mode) (ops:Array Oper) (listed:Array Bool) (k i:Nat):Bool:=Region.noSelect ops&&(Region.free md ops listed i&&((Region.ready md ops listed).contains i&&(ei md ops k i&& !listed.getD k false)))
theorem uX {α:Type} {l:Array α} {i:Nat} {x:α} {r:List α} (h:l.toList.drop i=x::r):l[i]? =some x:=by
 rw[← KL,← List.head?_drop,h];rfl
theorem ay (i:Nat) {oi:Oper} {r:List Oper} {fuel:Nat} {listed:Array Bool} {a:Act} {w:World} (hi:ops.toList.drop i=oi::r) (hc:uV md ops listed k i=true) (hg:oi.guard=none) (hQ:∀ c a w,Q (.panic c) a w→False) (hS:S w)
  (h:∃ v,(∀ w,(execOp a.eval oi).run P w= .ok (.value v) w)∧cH P md ops Q S k fuel (listed.setIfInBounds i true) (a.put oi.dst v) w):cH P md ops Q S k (fuel+1) listed a w:=by
 obtain⟨v,h1,h2⟩:=h;unfold uV at hc;simp only[cR,decide_eq_true_eq] at hc;exact Bd (uX hi) hc.1 hc.2.1 hc.2.2.1 hc.2.2.2 (fun c a w h=>(hQ _ _ _ h).elim) hS (.inl ⟨by simp [Region.wanted,hg],h1⟩) h2
theorem dG (i:Nat) {oi:Oper} {r:List Oper} {fuel:Nat} {listed:Array Bool} {a:Act} {w:World} (hi:ops.toList.drop i=oi::r) (hc:uW md ops listed k i=true) (hg:oi.guard=none) (hQ:∀ c a w,Q (.panic c) a w→False) (hS:S w)
  (h:∃ v,(∀ w,S w→(execOp a.eval oi).run P w= .ok (.value v) w)∧cH P md ops Q S k fuel (listed.setIfInBounds i true) (a.put oi.dst v) w):cH P md ops Q S k (fuel+1) listed a w:=by
 obtain⟨v,h1,h2⟩:=h;unfold uW at hc;simp only[cR,ka] at hc;exact uT (uX hi) hc.1 hc.2.1 hc.2.2.1 hc.2.2.2.1 hc.2.2.2.2 (fun c a w h=>(hQ _ _ _ h).elim) hS (.inl ⟨by simp [Region.wanted,hg],h1⟩) h2
end
theorem sA {α:Type} (l:List α) (i:Nat) (a:α):l.toArray.setIfInBounds i a=(l.set i a).toArray:=iN l i a
theorem sZ {α:Type} (x y:α) (l:List α):(x::l).set 0 y=y::l:=rfl
theorem sS {α:Type} (x y:α) (l:List α) (n:Nat):(x::l).set (n+1) y=x::l.set n y:=rfl
def ip (d:Bool) (e:TypeId) (va v:Value) (n:Nat) (xs:List Value) (y:Value):SProp:=if d then own e 1 v (n+1) (xs++[y]) else own e 1 va n xs
def gF (d:Bool) (e:TypeId) (u y:Value):SProp:=if d then own e 1 u 1 [y] else bw
structure Row3 where
 t:TypeId
 e:TypeId
 v:Value
 n:Nat
 xs:List Value
 y:Value
def Row3.ok (P:Program) (r:Row3):Prop:=(∃ bytes z,ElemT P r.t r.e 1 bytes z∧(r.n+1)*bytes≤140737488355328)∧r.n+1≤maxLen∧r.y.oneCell'=true
def L3 (r1 r2 r3:Row3) (D F:SProp) (b1 b2 b3:Bool) (c:Nat) (u1 u2 u3 v1 v2 v3:Value):List SProp:=
 [ip (decide (0<c)) r1.e r1.v v1 r1.n r1.xs r1.y,ip (decide (1<c)) r2.e r2.v v2 r2.n r2.xs r2.y,ip (decide (2<c)) r3.e r3.v v3 r3.n r3.xs r3.y,D,F,
  gF b1 r1.e u1 r1.y,gF b2 r2.e u2 r2.y,gF b3 r3.e u3 r3.y]
def oW (i1 j1 i2 j2 i3 j3:Nat) (b1 b2 b3:Bool) (c:Nat):List Nat:=
 (if b1 then [] else [i1])++(if b1&&c==0 then [j1] else [])++(if b2 then [] else [i2])++(if b2&&c==1 then [j2] else [])++(if b3 then [] else [i3])++(if b3&&c==2 then [j3] else [])
def fy (b1 b2 b3:Bool) (c:Nat):Bool:=(c==0||b1)&&(c≤1||b2)&&(c≤2||b3)&&c≤3
def oX (ops:Array Oper) (i1 j1 i2 j2 i3 j3:Nat) (lst:Bool→Bool→Bool→Nat→Array Bool):Bool:=
 [false,true].all fun b1=>[false,true].all fun b2=>[false,true].all fun b3=>[0,1,2].all fun c=> !fy b1 b2 b3 c||
  ((Region.ready .any ops (lst b1 b2 b3 c)==oW i1 j1 i2 j2 i3 j3 b1 b2 b3 c)&&
   (lst b1 b2 b3 c).setIfInBounds i1 true==lst true b2 b3 c&&(lst b1 b2 b3 c).setIfInBounds i2 true==lst b1 true b3 c&&(lst b1 b2 b3 c).setIfInBounds i3 true==lst b1 b2 true c&&
   (c != 0||(lst b1 b2 b3 c).setIfInBounds j1 true==lst b1 b2 b3 1)&&(c != 1||(lst b1 b2 b3 c).setIfInBounds j2 true==lst b1 b2 b3 2)&&(c != 2||(lst b1 b2 b3 c).setIfInBounds j3 true==lst b1 b2 b3 3))
theorem Be {ops:Array Oper} {i1 j1 i2 j2 i3 j3:Nat} {lst:Bool→Bool→Bool→Nat→Array Bool} (h:oX ops i1 j1 i2 j2 i3 j3 lst=true) {b1 b2 b3:Bool} {c:Nat} (hc:c<3) (hk:fy b1 b2 b3 c=true):
  Region.ready .any ops (lst b1 b2 b3 c)=oW i1 j1 i2 j2 i3 j3 b1 b2 b3 c∧(lst b1 b2 b3 c).setIfInBounds i1 true=lst true b2 b3 c∧(lst b1 b2 b3 c).setIfInBounds i2 true=lst b1 true b3 c∧(lst b1 b2 b3 c).setIfInBounds i3 true=lst b1 b2 true c∧
   (c=0→(lst b1 b2 b3 c).setIfInBounds j1 true=lst b1 b2 b3 1)∧(c=1→(lst b1 b2 b3 c).setIfInBounds j2 true=lst b1 b2 b3 2)∧(c=2→(lst b1 b2 b3 c).setIfInBounds j3 true=lst b1 b2 b3 3):=by
 unfold oX at h;rw[kG] at h;have h:=h b1 (by cases b1 <;> simp);rw[kG] at h;have h:=h b2 (by cases b2 <;> simp);rw[kG] at h;have h:=h b3 (by cases b3 <;> simp);rw[kG] at h
 have h := h c (by have:c=0∨c=1∨c=2:=by omega
                   rcases this with rfl | rfl | rfl <;> simp)
 rw[hk] at h;simp only[ur,qW,cR,beq_iff_eq,mR,bne_iff_ne,ne_eq] at h;obtain⟨⟨⟨⟨⟨⟨h1,h2⟩,h3⟩,h4⟩,h5⟩,h6⟩,h7⟩:=h;exact⟨h1,h2,h3,h4,fun e=>h5.resolve_left (fun n=>n e),fun e=>h6.resolve_left (fun n=>n e),fun e=>h7.resolve_left (fun n=>n e)⟩
section
variable {r1 r2 r3:Row3} {D F:SProp} {b1 b2 b3:Bool} {c:Nat} {u1 u2 u3 v1 v2 v3:Value}
theorem Bf (u:Value):(L3 r1 r2 r3 D F false b2 b3 c u1 u2 u3 v1 v2 v3).set 5 (own r1.e 1 u 1 [r1.y])=L3 r1 r2 r3 D F true b2 b3 c u u2 u3 v1 v2 v3:=by simp only[L3,ft,eH,gF,if_pos]
theorem Bg (u:Value):(L3 r1 r2 r3 D F b1 false b3 c u1 u2 u3 v1 v2 v3).set 6 (own r2.e 1 u 1 [r2.y])=L3 r1 r2 r3 D F b1 true b3 c u1 u u3 v1 v2 v3:=by simp only[L3,ft,eH,gF,if_pos]
theorem Bh (u:Value):(L3 r1 r2 r3 D F b1 b2 false c u1 u2 u3 v1 v2 v3).set 7 (own r3.e 1 u 1 [r3.y])=L3 r1 r2 r3 D F b1 b2 true c u1 u2 u v1 v2 v3:=by simp only[L3,ft,eH,gF,if_pos]
theorem Bi (v:Value):(L3 r1 r2 r3 D F b1 b2 b3 0 u1 u2 u3 v1 v2 v3).set 0 (own r1.e 1 v (r1.n+1) (r1.xs++[r1.y]))=L3 r1 r2 r3 D F b1 b2 b3 1 u1 u2 u3 v v2 v3:=by simp [L3,ft,eH,ip]
theorem Bj (v:Value):(L3 r1 r2 r3 D F b1 b2 b3 1 u1 u2 u3 v1 v2 v3).set 1 (own r2.e 1 v (r2.n+1) (r2.xs++[r2.y]))=L3 r1 r2 r3 D F b1 b2 b3 2 u1 u2 u3 v1 v v3:=by simp [L3,ft,eH,ip]
theorem Bl (v:Value):(L3 r1 r2 r3 D F b1 b2 b3 2 u1 u2 u3 v1 v2 v3).set 2 (own r3.e 1 v (r3.n+1) (r3.xs++[r3.y]))=L3 r1 r2 r3 D F b1 b2 b3 3 u1 u2 u3 v1 v2 v:=by simp [L3,ft,eH,ip]
theorem Bn:(L3 r1 r2 r3 D F false b2 b3 c u1 u2 u3 v1 v2 v3)[5]? =some bw:=by simp [L3,gF]
theorem Bo:(L3 r1 r2 r3 D F b1 false b3 c u1 u2 u3 v1 v2 v3)[6]? =some bw:=by simp [L3,gF]
theorem Bp:(L3 r1 r2 r3 D F b1 b2 false c u1 u2 u3 v1 v2 v3)[7]? =some bw:=by simp [L3,gF]
theorem Bq:(L3 r1 r2 r3 D F true b2 b3 c u1 u2 u3 v1 v2 v3)[5]? =some (own r1.e 1 u1 1 [r1.y]):=by simp [L3,gF]
theorem Br:(L3 r1 r2 r3 D F b1 true b3 c u1 u2 u3 v1 v2 v3)[6]? =some (own r2.e 1 u2 1 [r2.y]):=by simp [L3,gF]
theorem Bs:(L3 r1 r2 r3 D F b1 b2 true c u1 u2 u3 v1 v2 v3)[7]? =some (own r3.e 1 u3 1 [r3.y]):=by simp [L3,gF]
theorem Bt:(L3 r1 r2 r3 D F b1 b2 b3 0 u1 u2 u3 v1 v2 v3)[0]? =some (own r1.e 1 r1.v r1.n r1.xs):=by simp [L3,ip]
theorem Bu:(L3 r1 r2 r3 D F b1 b2 b3 1 u1 u2 u3 v1 v2 v3)[1]? =some (own r2.e 1 r2.v r2.n r2.xs):=by simp [L3,ip]
theorem Bv:(L3 r1 r2 r3 D F b1 b2 b3 2 u1 u2 u3 v1 v2 v3)[2]? =some (own r3.e 1 r3.v r3.n r3.xs):=by simp [L3,ip]
theorem uY:(L3 r1 r2 r3 D F b1 b2 b3 c u1 u2 u3 v1 v2 v3)[3]? =some D:=by simp [L3]
end
section
variable {P:Program} {ops:Array Oper} {Q:Exit→Act→World→Prop} {S:World→Prop} {k fuel:Nat} {w0:World} {F D:SProp}
theorem ry {w:World} {l:List SProp} {i:Nat} (h:StL w0 w l) (hi:l[i]? =some bw) (e:TypeId) (y:Value):
  StL w0 (w.alloc (.cells #[y] e)) (l.set i (own e 1 (.slice (some ⟨w.heap.size,0,none⟩) 1 1) 1 [y])):=by
 refine h.upd hi fun F hF=> ?_
 rw[cV] at hF;exact hF.lit #[y] e 1 rfl (by decide)
def lU (P:Program) (ops:Array Oper) (Q:Exit→Act→World→Prop) (fr:Value→Act) (i:Nat) (r:Row3):Prop:=
 ∀ u w (K:Act→World→Prop),K (fr (.slice (some ⟨w.heap.size,0,none⟩) 1 1)) (w.alloc (.cells #[r.y] r.e))→wpOp P ops Q i K (fr u) w
def kT (ops:Array Oper) (r:Row3) (fr:Value→Value→Act) (j:Nat):Prop:=
 ∃ (o:Oper) (s y:Operand),ops[j]? =some o∧o.guard=none∧o.op= .call { callee:= .builtin .append,args:=#[s,y],argTypes:=#[r.t,r.t] }∧
  (∀ u v,(fr u v).eval s=r.v∧(fr u v).eval y=u∧∀ v',(fr u v).put o.dst v'=fr u v')
theorem rz {r:Row3} {fr:Value→Value→Act} {j:Nat} (ha:kT ops r fr j) (hr:r.ok P) {w:World} {l:List SProp} {i m:Nat} {u v:Value} (h:StL w0 w l) (hi:l[i]? =some (own r.e 1 r.v r.n r.xs)) (hm:l[m]? =some (own r.e 1 u 1 [r.y]))
  {K:Act→World→Prop} (hK:∀ v' w',StL w0 w' (l.set i (own r.e 1 v' (r.n+1) (r.xs++[r.y])))→Reads w' 1 r.v r.n r.xs→K (fr u v') w'):wpOp P ops Q j K (fr u v) w:=by
 obtain⟨o,s,y,ho,hg,hop,hf⟩:=ha;obtain⟨⟨bytes,z,T,hb⟩,h63,h1⟩:=hr;refine wpOp_step ho fun K' hK'=> ?_
 obtain⟨e1,e2,e3⟩:=hf u v;exact jM T hg s y hop e1 h i hi e2 (h.reads hm) (fun x hx=>by simp only[List.mem_singleton] at hx;subst hx;exact h1) h63 hb fun v' w' h' hrd=>hK' _ _ (by rw[e3];exact hK v' w' h' hrd)
theorem uZ (r1 r2 r3:Row3) (ok1:r1.ok P) (ok2:r2.ok P) (ok3':r3.ok P) (i1 j1 i2 j2 i3 j3:Nat) (lst:Bool→Bool→Bool→Nat→Array Bool) (htab:oX ops i1 j1 i2 j2 i3 j3 lst=true)
  (fr:Value→Value→Value→Value→Value→Value→Act)
  (hb1:∀ u2 u3 v1 v2 v3,lU P ops Q (fun u=>fr u u2 u3 v1 v2 v3) i1 r1) (hb2:∀ u1 u3 v1 v2 v3,lU P ops Q (fun u=>fr u1 u u3 v1 v2 v3) i2 r2) (hb3:∀ u1 u2 v1 v2 v3,lU P ops Q (fun u=>fr u1 u2 u v1 v2 v3) i3 r3)
  (ha1:∀ u2 u3 v2 v3,kT ops r1 (fun u v=>fr u u2 u3 v v2 v3) j1) (ha2:∀ u1 u3 v1 v3,kT ops r2 (fun u v=>fr u1 u u3 v1 v v3) j2) (ha3:∀ u1 u2 v1 v2,kT ops r3 (fun u v=>fr u1 u2 u v1 v2 v) j3)
  (hS:∀ w A,St w0 w (D*A)→Reads w 1 r3.v r3.n r3.xs→S w)
  (hend:∀ u1 u2 u3 v1 v2 v3 w,StL w0 w (L3 r1 r2 r3 D F true true true 3 u1 u2 u3 v1 v2 v3)→cH P .any ops Q S k fuel (lst true true true 3) (fr u1 u2 u3 v1 v2 v3) w):
  ∀ (m:Nat) (b1 b2 b3:Bool) (c:Nat) u1 u2 u3 v1 v2 v3 w,fy b1 b2 b3 c=true→m=(3-c)+((if b1 then 0 else 1)+(if b2 then 0 else 1)+(if b3 then 0 else 1))→
   StL w0 w (L3 r1 r2 r3 D F b1 b2 b3 c u1 u2 u3 v1 v2 v3)→cH P .any ops Q S k (fuel+m) (lst b1 b2 b3 c) (fr u1 u2 u3 v1 v2 v3) w:=by
 intro m
 induction m with
 | zero=>
  intro b1 b2 b3 c u1 u2 u3 v1 v2 v3 w hk hm h;have hc:c=3:=by
   simp only[fy,cR,decide_eq_true_eq] at hk;omega
  subst hc;cases b1 <;> cases b2 <;> cases b3 <;> simp at hm
  exact hend _ _ _ _ _ _ _ h
 | succ m ih=>
  intro b1 b2 b3 c u1 u2 u3 v1 v2 v3 w hk hm h;have hc:c<3:=by
   have:c≤3:=by simp only[fy,cR,decide_eq_true_eq] at hk;omega
   rcases bV c 3 with h | h
   ·exact h
   ·obtain rfl:c=3:=by omega
    cases b1 <;> cases b2 <;> cases b3 <;> simp [fy] at hk hm
  obtain⟨t1,t2,t3,t4,t5,t6,t7⟩:=Be htab hc hk;have hSL:∀ {b1 b2 b3 c u1 u2 u3 v1 v2 v3 w},c<3→StL w0 w (L3 r1 r2 r3 D F b1 b2 b3 c u1 u2 u3 v1 v2 v3)→S w:=by
   intro b1 b2 b3 c u1 u2 u3 v1 v2 v3 w hc h;obtain⟨A,hA⟩:=h.at_ uY;have h2:(L3 r1 r2 r3 D F b1 b2 b3 c u1 u2 u3 v1 v2 v3)[2]? =some (own r3.e 1 r3.v r3.n r3.xs):=by
    have:¬ 2<c:=by omega
    simp [L3,ip,this]
   exact hS w A hA (h.reads h2)
  refine uU t1 ?_ ?_
  ·have:c=0∨c=1∨c=2:=by omega
   rcases this with rfl | rfl | rfl <;> cases b1 <;> cases b2 <;> cases b3 <;> simp [fy] at hk <;> simp [oW]
  intro i hi;simp only[oW,cD] at hi
  rcases hi with ((((hi | hi) | hi) | hi) | hi) | hi
  ·cases b1
   ·simp at hi;subst hi;rw[t2];refine hb1 u2 u3 v1 v2 v3 u1 w _ ?_;have h':=ry h Bn r1.e r1.y;rw[Bf] at h';exact⟨fun _=>hSL hc h',ih true b2 b3 c _ u2 u3 v1 v2 v3 _ (by revert hk;simp only[fy];cases b2 <;> cases b3 <;> simp <;> omega) (by simp at hm ⊢;omega) h'⟩
   ·simp at hi
  ·cases b1
   ·simp at hi
   ·have hc0:c=0:=by
     by_cases h0:c=0
     ·exact h0
     ·simp [h0] at hi
    subst hc0;simp at hi;subst hi;rw[t5 rfl];refine rz (ha1 u2 u3 v2 v3) ok1 h Bt Bq fun v' w' h' hrd=> ?_
    rw[Bi] at h';exact⟨fun _=>hSL (c:=1) (by omega) h',ih true b2 b3 1 u1 u2 u3 v' v2 v3 w' (by revert hk;simp only[fy];cases b2 <;> cases b3 <;> simp) (by simp at hm ⊢;omega) h'⟩
  ·cases b2
   ·simp at hi;subst hi;rw[t3];refine hb2 u1 u3 v1 v2 v3 u2 w _ ?_;have h':=ry h Bo r2.e r2.y;rw[Bg] at h';exact⟨fun _=>hSL hc h',ih b1 true b3 c u1 _ u3 v1 v2 v3 _ (by revert hk;simp only[fy];cases b1 <;> cases b3 <;> simp <;> omega) (by simp at hm ⊢;omega) h'⟩
   ·simp at hi
  ·cases b2
   ·simp at hi
   ·have hc0:c=1:=by
     by_cases h0:c=1
     ·exact h0
     ·simp [h0] at hi
    subst hc0;simp at hi;subst hi;rw[t6 rfl];refine rz (ha2 u1 u3 v1 v3) ok2 h Bu Br fun v' w' h' hrd=> ?_
    rw[Bj] at h';exact⟨fun _=>hSL (c:=2) (by omega) h',ih b1 true b3 2 u1 u2 u3 v1 v' v3 w' (by revert hk;simp only[fy];cases b1 <;> cases b3 <;> simp) (by simp at hm ⊢;omega) h'⟩
  ·cases b3
   ·simp at hi;subst hi;rw[t4];refine hb3 u1 u2 v1 v2 v3 u3 w _ ?_;have h':=ry h Bp r3.e r3.y;rw[Bh] at h';exact⟨fun _=>hSL hc h',ih b1 b2 true c u1 u2 _ v1 v2 v3 _ (by revert hk;simp only[fy];cases b1 <;> cases b2 <;> simp <;> omega) (by simp at hm ⊢;omega) h'⟩
   ·simp at hi
  ·cases b3
   ·simp at hi
   ·have hc0:c=2:=by
     by_cases h0:c=2
     ·exact h0
     ·simp [h0] at hi
    subst hc0;simp at hi;subst hi;rw[t7 rfl];refine rz (ha3 u1 u2 v1 v2) ok3' h Bv Bs fun v' w' h' hrd=> ?_
    rw[Bl] at h';refine⟨fun _=> ?_,ih b1 b2 true 3 u1 u2 u3 v1 v2 v' w' (by revert hk;simp only[fy];cases b1 <;> cases b2 <;> simp) (by simp at hm ⊢;omega) h'⟩;obtain⟨A,hA⟩:=h'.at_ uY;exact hS w' A hA hrd
end
def fA (a:Act) (d1 d2 d3 e1 e2 e3:Nat) (u1 u2 u3 v1 v2 v3:Value):Act:=
 { a with tmps:=(((((a.tmps.setIfInBounds d1 u1).setIfInBounds d2 u2).setIfInBounds d3 u3).setIfInBounds e1 v1).setIfInBounds e2 v2).setIfInBounds e3 v3 }
theorem Bx (t:Array Value) (i:Nat):t.setIfInBounds i (t.getD i undef)=t:=by
 apply Array.ext
 ·simp
 ·intro j h1 h2;rw[Array.getElem_setIfInBounds]
  split
  ·rename_i e;subst e;simp [Array.getD,h2]
  ·rfl
theorem By (a:Act) (d1 d2 d3 e1 e2 e3:Nat):fA a d1 d2 d3 e1 e2 e3 (a.tmps.getD d1 undef) (a.tmps.getD d2 undef) (a.tmps.getD d3 undef) (a.tmps.getD e1 undef) (a.tmps.getD e2 undef) (a.tmps.getD e3 undef)=a:=by
 simp only[fA,Bx]
def oY (l:Array Bool) (i1 j1 i2 j2 i3 j3:Nat) (b1 b2 b3:Bool) (c:Nat):Array Bool:=
 (((((l.setIfInBounds i1 b1).setIfInBounds i2 b2).setIfInBounds i3 b3).setIfInBounds j1 (decide (0<c))).setIfInBounds j2 (decide (1<c))).setIfInBounds j3 (decide (2<c))
theorem Bz {P:Program} {ops:Array Oper} {Q:Exit→Act→World→Prop} {S:World→Prop} {k fuel:Nat} {w0:World} {F D:SProp} {listed:Array Bool} {a:Act} {w:World}
  (r1 r2 r3:Row3) (i1 j1 i2 j2 i3 j3 d1 d2 d3 e1 e2 e3:Nat) (hl:oY listed i1 j1 i2 j2 i3 j3 false false false 0=listed)
  (htab:oX ops i1 j1 i2 j2 i3 j3 (oY listed i1 j1 i2 j2 i3 j3)=true)
  (ok1:r1.ok P) (ok2:r2.ok P) (ok3':r3.ok P)
  (hb1:∀ u2 u3 v1 v2 v3,lU P ops Q (fun u=>fA a d1 d2 d3 e1 e2 e3 u u2 u3 v1 v2 v3) i1 r1) (hb2:∀ u1 u3 v1 v2 v3,lU P ops Q (fun u=>fA a d1 d2 d3 e1 e2 e3 u1 u u3 v1 v2 v3) i2 r2) (hb3:∀ u1 u2 v1 v2 v3,lU P ops Q (fun u=>fA a d1 d2 d3 e1 e2 e3 u1 u2 u v1 v2 v3) i3 r3)
  (ha1:∀ u2 u3 v2 v3,kT ops r1 (fun u v=>fA a d1 d2 d3 e1 e2 e3 u u2 u3 v v2 v3) j1) (ha2:∀ u1 u3 v1 v3,kT ops r2 (fun u v=>fA a d1 d2 d3 e1 e2 e3 u1 u u3 v1 v v3) j2) (ha3:∀ u1 u2 v1 v2,kT ops r3 (fun u v=>fA a d1 d2 d3 e1 e2 e3 u1 u2 u v1 v2 v) j3)
  (hS:∀ w A,St w0 w (D*A)→Reads w 1 r3.v r3.n r3.xs→S w)
  (hend:∀ u1 u2 u3 v1 v2 v3 w,StL w0 w (L3 r1 r2 r3 D F true true true 3 u1 u2 u3 v1 v2 v3)→cH P .any ops Q S k fuel (oY listed i1 j1 i2 j2 i3 j3 true true true 3) (fA a d1 d2 d3 e1 e2 e3 u1 u2 u3 v1 v2 v3) w)
  (h0:StL w0 w (L3 r1 r2 r3 D F false false false 0 undef undef undef undef undef undef)):cH P .any ops Q S k (fuel+6) listed a w:=by
 have:=uZ (fuel:=fuel) (k:=k) r1 r2 r3 ok1 ok2 ok3' i1 j1 i2 j2 i3 j3 (oY listed i1 j1 i2 j2 i3 j3) htab (fA a d1 d2 d3 e1 e2 e3) hb1 hb2 hb3 ha1 ha2 ha3 hS hend 6 false false false 0 (a.tmps.getD d1 undef) (a.tmps.getD d2 undef) (a.tmps.getD d3 undef) (a.tmps.getD e1 undef) (a.tmps.getD e2 undef) (a.tmps.getD e3 undef) w rfl rfl h0;rwa [By,hl] at this
theorem bq {P:Program} {ops:Array Oper} {Q:Exit→Act→World→Prop} {md:Region.Mode} {S:World→Prop} {k:Nat} {i fuel:Nat} {listed:Array Bool} {a:Act} {w:World} (hr:Region.ready md ops listed=[i])
  (h:wpOp P ops Q i (fun a' w'=>((listed.setIfInBounds i true).getD k false=false→S w')∧cH P md ops Q S k fuel (listed.setIfInBounds i true) a' w') a w):cH P md ops Q S k (fuel+1) listed a w:=
 uU hr (by simp) fun j hj=>by
  obtain rfl:=List.mem_singleton.1 hj;exact h
theorem BC (l m:List SProp):cX (l++m)=cX l*cX m:=by
 induction l with
 | nil=>simp [cX,cV]
 | cons A l ih=>rw[dV,cX,cX,ih,aW]
theorem StL.take {w0 w:World} {l1 l2:List SProp} (h:StL w0 w (l1++l2)):StL w0 w l1:=(St.perm h (BC l1 l2)).left
variable {P:Program} {md:Region.Mode} {ops:Array Oper} {Q:Exit→Act→World→Prop} {S:World→Prop} {k:Nat}
theorem u4 {k i:Nat} (hw:ei md ops k i=true) {oj:Oper} (hoj:ops[k]? =some oj):∃ e∈oj.after,Region.binds md e=true∧e.on=i:=by
 unfold ei at hw;rw[hoj] at hw;simp only[b7,jg] at hw;obtain⟨e,he,hb⟩:=qU.1 hw;simp only[cR,beq_iff_eq] at hb;exact⟨e,he,hb.1,hb.2⟩
theorem BD {i u:Nat} {oi:Oper} {v:Value} (hi:ops[i]? =some oi) (hsel:∀ (j:Nat) (o:Oper) cs b,ops[j]? =some o→o.op≠ .select cs b)
  (hQ:∀ c a w,Q (.panic c) (a.put oi.dst v) w→Q (.panic c) a w) (hw:ei md ops k u=true) (hu:ei md ops u i=true) (hki:k≠i) (hku:k≠u) (hui:u≠i):
  ∀ (fuel:Nat) (listed:Array Bool) (a:Act) (w:World),
   (∀ j oj,ops[j]? =some oj→j≠i→listed.getD j true=false→(∀ e∈oj.after,Region.binds md e=true→e.on≠i)→oi.apart ops oj=true)→
   i∈Region.ready md ops listed→YieldsIf P ops S oi v a→listed.getD k false=false→listed.getD u false=false→S w→
   cH P md ops Q S k fuel (listed.setIfInBounds i true) (a.put oi.dst v) w→cH P md ops Q S k (fuel+1) listed a w:=by
 intro fuel
 induction fuel with
 | zero=>
  intro listed a w _ hr hy hk hlu hS H;refine⟨fun h=>(by rw[h] at hr;cases hr),fun j hj=> ?_⟩
  by_cases hji:j=i
  ·subst hji;exact hy.wpOp hi hS ⟨fun _=>hS,H⟩
  ·have:=ready_mono hj hji;rw[H.1] at this;cases this
 | succ fuel ih=>
  intro listed a w hfree hr hy hk hlu hS H;refine⟨fun h=>(by rw[h] at hr;cases hr),fun j hj=> ?_⟩
  by_cases hji:j=i
  ·subst hji;exact hy.wpOp hi hS ⟨fun _=>hS,H⟩
  ·have h1:=H.2 j (ready_mono hj hji);obtain⟨hjun,oj,hoj,hall⟩:=mem_ready.1 hj;have hnot:∀ e∈oj.after,Region.binds md e=true→e.on≠i:=fun e he hb heq=>by
    have h1:=hall e he hb;have h0:=(mem_ready.1 hr).1;rw[heq] at h1
    rcases bV i listed.size with h' | h'
    ·simp [h'] at h0 h1;rw[h0] at h1;cases h1
    ·simp [kE h'] at h1
   have hju:j≠u:=fun e=>by
    subst e;obtain⟨e,he,hb,hon⟩:=u4 hu hoj;exact hnot e he hb hon
   have hjk:j≠k:=fun e=>by
    subst e;obtain⟨e,he,hb,hon⟩:=u4 hw hoj;have:=hall e he hb;rw[hon,hlu] at this;cases this
   have h2:=wpOp_putIf hoj (hfree j oj hoj hji hjun hnot) (fun cs b=>hsel i oi cs b hi) (fun cs b=>hsel j oj cs b hoj) hQ hy h1;have hfree':∀ m ok,ops[m]? =some ok→m≠i→(listed.setIfInBounds j true).getD m true=false→
     (∀ e∈ok.after,Region.binds md e=true→e.on≠i)→oi.apart ops ok=true:=fun m ok hm hmi hun hno=>by
    refine hfree m ok hm hmi ?_ hno
    by_cases hjm:j=m
    ·subst hjm;exact hjun
    ·rw[getD_set_ne true hjm] at hun;exact hun
   have hk':(listed.setIfInBounds j true).getD k false=false:=by rw[getD_set_ne false hjk];exact hk
   have hlu':(listed.setIfInBounds j true).getD u false=false:=by rw[getD_set_ne false hju];exact hlu
   have hkk:((listed.setIfInBounds i true).setIfInBounds j true).getD k false=false:=by
    rw[getD_set_ne false hjk,getD_set_ne false (Ne.symm hki)];exact hk
   refine wpOp_mono (fun a' w' h3=>⟨fun _=>h3.2.1 hkk,ih (listed.setIfInBounds j true) a' w' hfree' (ready_mono hr (Ne.symm hji)) h3.1 hk' hlu' (h3.2.1 hkk) ?_⟩) h2;rw[qV _ _ hji];exact h3.2.2
theorem u5 (u:Nat) {i:Nat} {oi:Oper} {v:Value} {fuel:Nat} {listed:Array Bool} {a:Act} {w:World} (hi:ops[i]? =some oi)
  (hs:Region.noSelect ops=true) (hf:Region.free md ops listed i=true) (hr:(Region.ready md ops listed).contains i=true) (hw:ei md ops k u=true) (hu:ei md ops u i=true) (hk:listed.getD k false=false) (hlu:listed.getD u false=false) (hki:k≠i) (hku:k≠u) (hui:u≠i)
  (hQ:∀ c a w,Q (.panic c) (a.put oi.dst v) w→Q (.panic c) a w) (hS:S w) (hy:YieldsIf P ops S oi v a)
  (h:cH P md ops Q S k fuel (listed.setIfInBounds i true) (a.put oi.dst v) w):cH P md ops Q S k (fuel+1) listed a w:=
 BD hi (Region.noSelect_spec hs) hQ hw hu hki hku hui fuel listed a w (Region.free_spec hi hf) (by simpa using hr) hy hk hlu hS h
end Go.Mz
