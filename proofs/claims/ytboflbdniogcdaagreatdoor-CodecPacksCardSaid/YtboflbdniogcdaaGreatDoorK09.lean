/-
  Parts of a proof.
-/
import Derived.OrdersHeld
import Derived.Deep.RegionHeld
import Derived.Test.YtboflbdniogcdaaGreatDoorK01
set_option linter.unusedVariables false
set_option linter.unusedSimpArgs false
set_option maxRecDepth 100000
set_option maxHeartbeats 100000000
namespace Go.Mz
open Go.RowKit
section
variable {P:Program} {ops:Array Oper} {Q:Exit→Act→World→Prop} {md:Region.Mode} {S:World→Prop} {k:Nat}
def cJ (P:Program) (md:Region.Mode) (ops:Array Oper) (Q:Exit→Act→World→Prop) (S:World→Prop) (k:Nat):Nat→Array Bool→Act→World→Prop
 | 0,listed,a,w=>Region.ready md ops listed=[]∧Q .normal a w
 | fuel+1,listed,a,w=>
  (Region.ready md ops listed=[]→Q .normal a w)∧
  ∀ i∈Region.ready md ops listed,wpOp P ops Q i (fun a' w'=>((listed.setIfInBounds i true).getD k false=false→S w')∧cJ P md ops Q S k fuel (listed.setIfInBounds i true) a' w') a w
theorem t9:∀ (fuel:Nat) (listed:Array Bool) (a:Act) (w:World),cJ P md ops Q S k fuel listed a w→wpAny P md ops Q fuel listed a w
 | 0,_,_,_,h=>h
 | fuel+1,_,_,_,h=>⟨h.1,fun i hi=>wpOp_mono (fun a' w' h'=>t9 fuel _ a' w' h'.2) (h.2 i hi)⟩
def ej (md:Region.Mode) (ops:Array Oper) (k i:Nat):Bool:=((ops[k]?).map fun o=>o.after.any fun e=>Region.binds md e&&e.on==i).getD false
theorem AV {i:Nat} {oi:Oper} {v:Value} (hi:ops[i]? =some oi) (hsel:∀ (j:Nat) (o:Oper) cs b,ops[j]? =some o→o.op≠ .select cs b)
  (hQ:∀ c a w,Q (.panic c) (a.put oi.dst v) w→Q (.panic c) a w) (hw:ej md ops k i=true):
  ∀ (fuel:Nat) (listed:Array Bool) (a:Act) (w:World),
   (∀ j oj,ops[j]? =some oj→j≠i→listed.getD j true=false→(∀ e∈oj.after,Region.binds md e=true→e.on≠i)→oi.apart ops oj=true)→
   i∈Region.ready md ops listed→YieldsIf P ops S oi v a→listed.getD k false=false→S w→
   cJ P md ops Q S k fuel (listed.setIfInBounds i true) (a.put oi.dst v) w→cJ P md ops Q S k (fuel+1) listed a w:=by
 have hik:k≠i→∀ oj,ops[k]? =some oj→(∀ e∈oj.after,Region.binds md e=true→e.on≠i)→False:=fun _ oj hoj hno=>by
  unfold ej at hw;rw[hoj] at hw;simp only[cB,iB] at hw;obtain⟨e,he,hb⟩:=p5.1 hw;simp only[cS,beq_iff_eq] at hb;exact hno e he hb.1 hb.2
 intro fuel
 induction fuel with
 | zero=>
  intro listed a w _ hr hy hk hS H;refine⟨fun h=>(by rw[h] at hr;cases hr),fun j hj=> ?_⟩
  by_cases hji:j=i
  ·subst hji;exact hy.wpOp hi hS ⟨fun _=>hS,H⟩
  ·have:=ready_mono hj hji;rw[H.1] at this;cases this
 | succ fuel ih=>
  intro listed a w hfree hr hy hk hS H;refine⟨fun h=>(by rw[h] at hr;cases hr),fun j hj=> ?_⟩
  by_cases hji:j=i
  ·subst hji;exact hy.wpOp hi hS ⟨fun _=>hS,H⟩
  ·have h1:=H.2 j (ready_mono hj hji);obtain⟨hjun,oj,hoj,hall⟩:=mem_ready.1 hj;have hnot:∀ e∈oj.after,Region.binds md e=true→e.on≠i:=fun e he hb heq=>by
    have h1:=hall e he hb;have h0:=(mem_ready.1 hr).1;rw[heq] at h1
    rcases cf i listed.size with h' | h'
    ·simp [h'] at h0 h1;rw[h0] at h1;cases h1
    ·simp [kg h'] at h1
   have hjk:j≠k:=fun e=>by subst e;exact hik hji oj hoj hnot
   have h2:=wpOp_putIf hoj (hfree j oj hoj hji hjun hnot) (fun cs b=>hsel i oi cs b hi) (fun cs b=>hsel j oj cs b hoj) hQ hy h1;have hfree':∀ m ok,ops[m]? =some ok→m≠i→(listed.setIfInBounds j true).getD m true=false→
     (∀ e∈ok.after,Region.binds md e=true→e.on≠i)→oi.apart ops ok=true:=fun m ok hm hmi hun hno=>by
    refine hfree m ok hm hmi ?_ hno
    by_cases hjm:j=m
    ·subst hjm;exact hjun
    ·rw[getD_set_ne true hjm] at hun;exact hun
   have hk':(listed.setIfInBounds j true).getD k false=false:=by rw[getD_set_ne false hjk];exact hk
   have hki:k≠i→((listed.setIfInBounds i true).setIfInBounds j true).getD k false=false:=fun hki=>by
    rw[getD_set_ne false hjk,getD_set_ne false (Ne.symm hki)];exact hk
   by_cases hki':k=i
   ·subst hki';exfalso;obtain⟨_,o,ho,hall⟩:=mem_ready.1 hr;unfold ej at hw;rw[ho] at hw;simp only[cB,iB] at hw;obtain⟨e,he,hb⟩:=p5.1 hw;simp only[cS,beq_iff_eq] at hb;have:=hall e he hb.1;rw[hb.2,hk] at this;cases this
   refine wpOp_mono (fun a' w' h3=>⟨fun _=>h3.2.1 (hki hki'),ih (listed.setIfInBounds j true) a' w' hfree' (ready_mono hr (Ne.symm hji)) h3.1 hk' (h3.2.1 (hki hki')) ?_⟩) h2;rw[p6 _ _ hji];exact h3.2.2
theorem AW {i:Nat} {oi:Oper} {v:Value} {fuel:Nat} {listed:Array Bool} {a:Act} {w:World} (hi:ops[i]? =some oi)
  (hs:Region.noSelect ops=true) (hf:Region.free md ops listed i=true) (hr:(Region.ready md ops listed).contains i=true) (hw:ej md ops k i=true) (hk:listed.getD k false=false)
  (hQ:∀ c a w,Q (.panic c) (a.put oi.dst v) w→Q (.panic c) a w) (hS:S w) (hy:YieldsIf P ops S oi v a)
  (h:cJ P md ops Q S k fuel (listed.setIfInBounds i true) (a.put oi.dst v) w):cJ P md ops Q S k (fuel+1) listed a w:=
 AV hi (Region.noSelect_spec hs) hQ hw fuel listed a w (Region.free_spec hi hf) (by simpa using hr) hy hk hS h
theorem AX {i:Nat} {oi:Oper} {v:Value} (hi:ops[i]? =some oi) (hsel:∀ (j:Nat) (o:Oper) cs b,ops[j]? =some o→o.op≠ .select cs b)
  (hQ:∀ c a w,Q (.panic c) (a.put oi.dst v) w→Q (.panic c) a w) (hik:i≠k):
  ∀ (fuel:Nat) (listed:Array Bool) (a:Act) (w:World),
   (∀ j oj,ops[j]? =some oj→j≠i→listed.getD j true=false→(∀ e∈oj.after,Region.binds md e=true→e.on≠i)→oi.apart ops oj=true)→
   i∈Region.ready md ops listed→Yields P ops oi v a→(listed.getD k false=false→S w)→
   cJ P md ops Q S k fuel (listed.setIfInBounds i true) (a.put oi.dst v) w→cJ P md ops Q S k (fuel+1) listed a w:=by
 intro fuel
 induction fuel with
 | zero=>
  intro listed a w _ hr hy hS H;refine⟨fun h=>(by rw[h] at hr;cases hr),fun j hj=> ?_⟩
  by_cases hji:j=i
  ·subst hji;exact hy.wpOp hi ⟨fun hf=>hS (by rw[getD_set_ne false hik] at hf;exact hf),H⟩
  ·have:=ready_mono hj hji;rw[H.1] at this;cases this
 | succ fuel ih=>
  intro listed a w hfree hr hy hS H;refine⟨fun h=>(by rw[h] at hr;cases hr),fun j hj=> ?_⟩
  by_cases hji:j=i
  ·subst hji;exact hy.wpOp hi ⟨fun hf=>hS (by rw[getD_set_ne false hik] at hf;exact hf),H⟩
  ·have h1:=H.2 j (ready_mono hj hji);obtain⟨hjun,oj,hoj,hall⟩:=mem_ready.1 hj;have hnot:∀ e∈oj.after,Region.binds md e=true→e.on≠i:=fun e he hb heq=>by
    have h1:=hall e he hb;have h0:=(mem_ready.1 hr).1;rw[heq] at h1
    rcases cf i listed.size with h' | h'
    ·simp [h'] at h0 h1;rw[h0] at h1;cases h1
    ·simp [kg h'] at h1
   have h2:=wpOp_put hoj (hfree j oj hoj hji hjun hnot) (fun cs b=>hsel i oi cs b hi) (fun cs b=>hsel j oj cs b hoj) hQ hy h1;have hfree':∀ m ok,ops[m]? =some ok→m≠i→(listed.setIfInBounds j true).getD m true=false→
     (∀ e∈ok.after,Region.binds md e=true→e.on≠i)→oi.apart ops ok=true:=fun m ok hm hmi hun hno=>by
    refine hfree m ok hm hmi ?_ hno
    by_cases hjm:j=m
    ·subst hjm;exact hjun
    ·rw[getD_set_ne true hjm] at hun;exact hun
   have hset:((listed.setIfInBounds i true).setIfInBounds j true).getD k false=(listed.setIfInBounds j true).getD k false:=by
    rw[p6 _ _ (Ne.symm hji),getD_set_ne false hik]
   refine wpOp_mono (fun a' w' h3=>⟨fun hf=>h3.2.1 (by rw[hset];exact hf),ih (listed.setIfInBounds j true) a' w' hfree' (ready_mono hr (Ne.symm hji)) h3.1 (fun hf=>h3.2.1 (by rw[hset];exact hf)) ?_⟩) h2;rw[p6 _ _ hji];exact h3.2.2
theorem AY {i:Nat} {oi:Oper} {v:Value} {fuel:Nat} {listed:Array Bool} {a:Act} {w:World} (hi:ops[i]? =some oi)
  (hs:Region.noSelect ops=true) (hf:Region.free md ops listed i=true) (hr:(Region.ready md ops listed).contains i=true) (hik:i≠k)
  (hQ:∀ c a w,Q (.panic c) (a.put oi.dst v) w→Q (.panic c) a w) (hS:S w) (hy:Yields P ops oi v a)
  (h:cJ P md ops Q S k fuel (listed.setIfInBounds i true) (a.put oi.dst v) w):cJ P md ops Q S k (fuel+1) listed a w:=
 AX hi (Region.noSelect_spec hs) hQ hik fuel listed a w (Region.free_spec hi hf) (by simpa using hr) hy (fun _=>hS) h
theorem AZ {rs:List Nat} {fuel:Nat} {listed:Array Bool} {a:Act} {w:World} (hr:Region.ready md ops listed=rs) (hne:rs≠[])
  (h:∀ i∈rs,wpOp P ops Q i (fun a' w'=>((listed.setIfInBounds i true).getD k false=false→S w')∧cJ P md ops Q S k fuel (listed.setIfInBounds i true) a' w') a w):cJ P md ops Q S k (fuel+1) listed a w:=
 ⟨fun h0=>absurd (hr ▸ h0) hne,hr ▸ h⟩
theorem gB {id:Nat} {a:Act} {w:World} (hm:P.follows .mixedOrders=true)
  (h:cJ P .any ops Q S k ops.size (Array.replicate ops.size false) a w.drew):(Code.region id ops true).wp P Q a w:=
 wp_region_any hm (t9 _ _ _ _ h)
end
section
variable {P:Program} {md:Region.Mode} {ops:Array Oper} {Q:Exit→Act→World→Prop} {S:World→Prop} {k:Nat}
def qR (md:Region.Mode) (ops:Array Oper) (listed:Array Bool) (k i:Nat):Bool:=Region.noSelect ops&&(Region.free md ops listed i&&((Region.ready md ops listed).contains i&&decide (i≠k)))
def ua (md:Region.Mode) (ops:Array Oper) (listed:Array Bool) (k i:Nat):Bool:=Region.noSelect ops&&(Region.free md ops listed i&&((Region.ready md ops listed).contains i&&(ej md ops k i&& !listed.getD k false)))
theorem ub {α:Type} {l:Array α} {i:Nat} {x:α} {r:List α} (h:l.toList.drop i=x::r):l[i]? =some x:=by
 rw[← Array.getElem?_toList,← yY,h];rfl
theorem jA (i:Nat) {oi:Oper} {r:List Oper} {fuel:Nat} {listed:Array Bool} {a:Act} {w:World} (hi:ops.toList.drop i=oi::r) (hc:qR md ops listed k i=true) (hg:oi.guard=none) (hQ:∀ c a w,Q (.panic c) a w→False) (hS:S w)
  (h:∃ v,(∀ w,(execOp a.eval oi).run P w= .ok (.value v) w)∧cJ P md ops Q S k fuel (listed.setIfInBounds i true) (a.put oi.dst v) w):cJ P md ops Q S k (fuel+1) listed a w:=by
 obtain⟨v,h1,h2⟩:=h;unfold qR at hc;simp only[cS,decide_eq_true_eq] at hc;exact AY (ub hi) hc.1 hc.2.1 hc.2.2.1 hc.2.2.2 (fun c a w h=>(hQ _ _ _ h).elim) hS (.inl ⟨by simp [Region.wanted,hg],h1⟩) h2
theorem gN (i:Nat) {oi:Oper} {r:List Oper} {fuel:Nat} {listed:Array Bool} {a:Act} {w:World} (hi:ops.toList.drop i=oi::r) (hc:ua md ops listed k i=true) (hg:oi.guard=none) (hQ:∀ c a w,Q (.panic c) a w→False) (hS:S w)
  (h:∃ v,(∀ w,S w→(execOp a.eval oi).run P w= .ok (.value v) w)∧cJ P md ops Q S k fuel (listed.setIfInBounds i true) (a.put oi.dst v) w):cJ P md ops Q S k (fuel+1) listed a w:=by
 obtain⟨v,h1,h2⟩:=h;unfold ua at hc;simp only[cS,jR] at hc;exact AW (ub hi) hc.1 hc.2.1 hc.2.2.1 hc.2.2.2.1 hc.2.2.2.2 (fun c a w h=>(hQ _ _ _ h).elim) hS (.inl ⟨by simp [Region.wanted,hg],h1⟩) h2
def my (P:Program) (ops:Array Oper) (Φ:Array Bool→Act→Prop):List Nat→Array Bool→Act→Prop
 | [],l,a=>Φ l a
 | i::is,l,a=>∃ oi r v,ops.toList.drop i=oi::r∧oi.guard=none∧(∀ w,(execOp a.eval oi).run P w= .ok (.value v) w)∧my P ops Φ is (l.setIfInBounds i true) (a.put oi.dst v)
def qS (md:Region.Mode) (ops:Array Oper):List Nat→Array Bool→Nat→Bool
 | [],_,_=>true
 | i::is,l,k=>qR md ops l k i&&qS md ops is (l.setIfInBounds i true) k
theorem cK {Φ:Array Bool→Act→Prop} {l:Array Bool} {a:Act} (h:Φ l a):my P ops Φ [] l a:=h
theorem cL {Φ:Array Bool→Act→Prop} {i:Nat} {is:List Nat} {oi:Oper} {r:List Oper} {l:Array Bool} {a:Act} (hi:ops.toList.drop i=oi::r) (hg:oi.guard=none) (h:∃ v,(∀ w,(execOp a.eval oi).run P w= .ok (.value v) w)∧my P ops Φ is (l.setIfInBounds i true) (a.put oi.dst v)):my P ops Φ (i::is) l a:=by
 obtain⟨v,h1,h2⟩:=h;exact⟨oi,r,v,hi,hg,h1,h2⟩
theorem cM (n:Nat) (is:List Nat) {fuel:Nat} {listed:Array Bool} {a:Act} {w:World} (hc:(decide (is.length=n)&&qS md ops is listed k)=true) (hQ:∀ c a w,Q (.panic c) a w→False) (hS:S w)
  (h:my P ops (fun l a=>cJ P md ops Q S k fuel l a w) is listed a):cJ P md ops Q S k (fuel+n) listed a w:=by
 induction is generalizing n listed a with
 | nil=>
  simp only[cS,decide_eq_true_eq,bD] at hc;obtain rfl:=hc.1;exact h
 | cons i is ih=>
  simp only[cS,decide_eq_true_eq,aK,qS] at hc;obtain⟨hn,hc1,hc2⟩:=hc;obtain⟨m,rfl⟩:∃ m,n=m+1:=⟨n-1,by omega⟩;obtain⟨oi,r,v,hi,hg,h1,h2⟩:=h;exact jA i hi hc1 hg hQ hS ⟨v,h1,ih m (by simp only[cS,decide_eq_true_eq];exact⟨by omega,hc2⟩) h2⟩
end
theorem sA {α:Type} (l:List α) (i:Nat) (a:α):l.toArray.setIfInBounds i a=(l.set i a).toArray:=l7 l i a
theorem sZ {α:Type} (x y:α) (l:List α):(x::l).set 0 y=y::l:=rfl
theorem sS {α:Type} (x y:α) (l:List α) (n:Nat):(x::l).set (n+1) y=x::l.set n y:=rfl
structure Row3 where
 t:TypeId
 e:TypeId
 v:Value
 n:Nat
 xs:List Value
 y:Value
def Row3.ok (P:Program) (r:Row3):Prop:=(∃ bytes z,ElemT P r.t r.e 1 bytes z∧(r.n+1)*bytes≤140737488355328)∧r.n+1≤maxLen∧r.y.oneCell'=true
section
variable {r1 r2 r3:Row3} {D F:SProp} {b1 b2 b3:Bool} {c:Nat} {u1 u2 u3 v1 v2 v3:Value}
end
section
variable {P:Program} {ops:Array Oper} {Q:Exit→Act→World→Prop} {S:World→Prop} {k fuel:Nat} {w0:World} {F D:SProp}
end
theorem aW {P:Program} {ops:Array Oper} {Q:Exit→Act→World→Prop} {md:Region.Mode} {S:World→Prop} {k:Nat} {i fuel:Nat} {listed:Array Bool} {a:Act} {w:World} (hr:Region.ready md ops listed=[i])
  (h:wpOp P ops Q i (fun a' w'=>((listed.setIfInBounds i true).getD k false=false→S w')∧cJ P md ops Q S k fuel (listed.setIfInBounds i true) a' w') a w):cJ P md ops Q S k (fuel+1) listed a w:=
 AZ hr (by simp) fun j hj=>by
  obtain rfl:=List.mem_singleton.1 hj;exact h
theorem A4 (l m:List SProp):dj (l++m)=dj l*dj m:=by
 induction l with
 | nil=>simp [dj,eG]
 | cons A l ih=>rw[dB,dj,dj,ih,bk]
theorem StL.take {w0 w:World} {l1 l2:List SProp} (h:StL w0 w (l1++l2)):StL w0 w l1:=(St.perm h (A4 l1 l2)).left
variable {P:Program} {md:Region.Mode} {ops:Array Oper} {Q:Exit→Act→World→Prop} {S:World→Prop} {k:Nat}
theorem uc {k i:Nat} (hw:ej md ops k i=true) {oj:Oper} (hoj:ops[k]? =some oj):∃ e∈oj.after,Region.binds md e=true∧e.on=i:=by
 unfold ej at hw;rw[hoj] at hw;simp only[cB,iB] at hw;obtain⟨e,he,hb⟩:=p5.1 hw;simp only[cS,beq_iff_eq] at hb;exact⟨e,he,hb.1,hb.2⟩
theorem A5 {i u:Nat} {oi:Oper} {v:Value} (hi:ops[i]? =some oi) (hsel:∀ (j:Nat) (o:Oper) cs b,ops[j]? =some o→o.op≠ .select cs b)
  (hQ:∀ c a w,Q (.panic c) (a.put oi.dst v) w→Q (.panic c) a w) (hw:ej md ops k u=true) (hu:ej md ops u i=true) (hki:k≠i) (hku:k≠u) (hui:u≠i):
  ∀ (fuel:Nat) (listed:Array Bool) (a:Act) (w:World),
   (∀ j oj,ops[j]? =some oj→j≠i→listed.getD j true=false→(∀ e∈oj.after,Region.binds md e=true→e.on≠i)→oi.apart ops oj=true)→
   i∈Region.ready md ops listed→YieldsIf P ops S oi v a→listed.getD k false=false→listed.getD u false=false→S w→
   cJ P md ops Q S k fuel (listed.setIfInBounds i true) (a.put oi.dst v) w→cJ P md ops Q S k (fuel+1) listed a w:=by
 intro fuel
 induction fuel with
 | zero=>
  intro listed a w _ hr hy hk hlu hS H;refine⟨fun h=>(by rw[h] at hr;cases hr),fun j hj=> ?_⟩
  by_cases hji:j=i
  ·subst hji;exact hy.wpOp hi hS ⟨fun _=>hS,H⟩
  ·have:=ready_mono hj hji;rw[H.1] at this;cases this
 | succ fuel ih=>
  intro listed a w hfree hr hy hk hlu hS H;refine⟨fun h=>(by rw[h] at hr;cases hr),fun j hj=> ?_⟩
  by_cases hji:j=i
  ·subst hji;exact hy.wpOp hi hS ⟨fun _=>hS,H⟩
  ·have h1:=H.2 j (ready_mono hj hji);obtain⟨hjun,oj,hoj,hall⟩:=mem_ready.1 hj;have hnot:∀ e∈oj.after,Region.binds md e=true→e.on≠i:=fun e he hb heq=>by
    have h1:=hall e he hb;have h0:=(mem_ready.1 hr).1;rw[heq] at h1
    rcases cf i listed.size with h' | h'
    ·simp [h'] at h0 h1;rw[h0] at h1;cases h1
    ·simp [kg h'] at h1
   have hju:j≠u:=fun e=>by
    subst e;obtain⟨e,he,hb,hon⟩:=uc hu hoj;exact hnot e he hb hon
   have hjk:j≠k:=fun e=>by
    subst e;obtain⟨e,he,hb,hon⟩:=uc hw hoj;have:=hall e he hb;rw[hon,hlu] at this;cases this
   have h2:=wpOp_putIf hoj (hfree j oj hoj hji hjun hnot) (fun cs b=>hsel i oi cs b hi) (fun cs b=>hsel j oj cs b hoj) hQ hy h1;have hfree':∀ m ok,ops[m]? =some ok→m≠i→(listed.setIfInBounds j true).getD m true=false→
     (∀ e∈ok.after,Region.binds md e=true→e.on≠i)→oi.apart ops ok=true:=fun m ok hm hmi hun hno=>by
    refine hfree m ok hm hmi ?_ hno
    by_cases hjm:j=m
    ·subst hjm;exact hjun
    ·rw[getD_set_ne true hjm] at hun;exact hun
   have hk':(listed.setIfInBounds j true).getD k false=false:=by rw[getD_set_ne false hjk];exact hk
   have hlu':(listed.setIfInBounds j true).getD u false=false:=by rw[getD_set_ne false hju];exact hlu
   have hkk:((listed.setIfInBounds i true).setIfInBounds j true).getD k false=false:=by
    rw[getD_set_ne false hjk,getD_set_ne false (Ne.symm hki)];exact hk
   refine wpOp_mono (fun a' w' h3=>⟨fun _=>h3.2.1 hkk,ih (listed.setIfInBounds j true) a' w' hfree' (ready_mono hr (Ne.symm hji)) h3.1 hk' hlu' (h3.2.1 hkk) ?_⟩) h2;rw[p6 _ _ hji];exact h3.2.2
theorem fe (u:Nat) {i:Nat} {oi:Oper} {v:Value} {fuel:Nat} {listed:Array Bool} {a:Act} {w:World} (hi:ops[i]? =some oi)
  (hs:Region.noSelect ops=true) (hf:Region.free md ops listed i=true) (hr:(Region.ready md ops listed).contains i=true) (hw:ej md ops k u=true) (hu:ej md ops u i=true) (hk:listed.getD k false=false) (hlu:listed.getD u false=false) (hki:k≠i) (hku:k≠u) (hui:u≠i)
  (hQ:∀ c a w,Q (.panic c) (a.put oi.dst v) w→Q (.panic c) a w) (hS:S w) (hy:YieldsIf P ops S oi v a)
  (h:cJ P md ops Q S k fuel (listed.setIfInBounds i true) (a.put oi.dst v) w):cJ P md ops Q S k (fuel+1) listed a w:=
 A5 hi (Region.noSelect_spec hs) hQ hw hu hki hku hui fuel listed a w (Region.free_spec hi hf) (by simpa using hr) hy hk hlu hS h
end Go.Mz
