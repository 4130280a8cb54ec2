/-
  Parts of a proof.
-/
import Derived.Great.Frames
import Derived.Great.BuildSlice
import Derived.Test.YtboflbdniogcdaaGreatDoorK09
set_option linter.unusedVariables false
set_option linter.unusedSimpArgs false
set_option maxRecDepth 100000
set_option maxHeartbeats 100000000
namespace Go.Mz
open Go.RowKit
def dQ (a:Act):List (Nat × Value)→Act
 | []=>a
 | x::l=>(dQ a l).put (some x.1) x.2
theorem Jc {a:Act} {l m:List (Nat × Value)} (h:l.Perm m):(l.map Prod.fst).Nodup→dQ a l=dQ a m:=by
 induction h with
 | nil=>intro _;rfl
 | cons x _ ih=>intro hn;rw[dR,qk] at hn;rw[dQ,dQ,ih hn.2]
 | swap x y l=>
  intro hn;rw[dR,dR,qk] at hn;have hne:x.1≠y.1:=fun e=>hn.1 (by rw[← e];exact qm)
  rw[dQ,dQ,dQ,dQ,Act.put_comm _ _ _ (fun d hd h=>hne (gm (hd.trans h.symm)))]
 | trans h1 _ ih1 ih2=>intro hn;rw[ih1 hn,ih2 ((h1.map Prod.fst).nodup hn)]
theorem sQ (a:Act):∀ l,(dQ a l).tmps.size=a.tmps.size
 | []=>rfl
 | x::l=>by rw[dQ,Act.size_put,sQ a l]
theorem yM (a:Act) {s:Nat}:∀ {l:List (Nat × Value)},(∀ x∈l,x.1≠s)→(dQ a l).eval (.tmp s)=a.eval (.tmp s)
 | [],_=>rfl
 | x::l,h=>by rw[dQ,Act.eval_put_ne _ _ _ _ (h x qm),yM a fun y hy=>h y (qg _ hy)]
theorem yN (a:Act) {x:Nat × Value} (hx:x.1<a.tmps.size):∀ {l:List (Nat × Value)},(l.map Prod.fst).Nodup→x∈l→(dQ a l).eval (.tmp x.1)=x.2
 | y::l,hn,h=>by
  rw[dR,qk] at hn
  rcases List.mem_cons.1 h with rfl | h
  ·exact Act.eval_put_same _ _ _ (by rw[sQ];exact hx)
  ·rw[dQ,Act.eval_put_ne _ _ _ _ (fun e=>hn.1 (by rw[e];exact zq h)),yN a hx hn.2 h]
def ey (b:Array Bool):List Nat→Array Bool
 | []=>b
 | i::l=>(ey b l).setIfInBounds i true
theorem Jd {b:Array Bool} {l m:List Nat} (h:l.Perm m):l.Nodup→ey b l=ey b m:=by
 induction h with
 | nil=>intro _;rfl
 | cons x _ ih=>intro hn;rw[ey,ey,ih (qk.1 hn).2]
 | swap x y l=>
  intro hn;rw[qk] at hn;rw[ey,ey,ey,ey,p6 _ _ (fun e=>hn.1 (by rw[← e];exact qm))]
 | trans h1 _ ih1 ih2=>intro hn;rw[ih1 hn,ih2 (h1.nodup hn)]
theorem yO (b:Array Bool):∀ l,(ey b l).size=b.size
 | []=>rfl
 | i::l=>by rw[ey,Array.size_setIfInBounds,yO b l]
theorem kX (b:Array Bool) (d:Bool) {j:Nat}:∀ {l:List Nat},j∉l→(ey b l).getD j d=b.getD j d
 | [],_=>rfl
 | i::l,h=>by rw[ey,getD_set_ne d (fun e=>h (by rw[e];exact qm)),kX b d fun hm=>h (qg _ hm)]
theorem sR (b:Array Bool) (d:Bool) {j:Nat} (hj:j<b.size):∀ {l:List Nat},j∈l→(ey b l).getD j d=true
 | i::l,h=>by
  rw[ey]
  by_cases e:i=j
  ·subst e;simp [yO,hj]
  ·rw[getD_set_ne d e];exact sR b d hj ((List.mem_cons.1 h).resolve_left fun h'=>e h'.symm)
theorem sT (b:Array Bool) {j:Nat} (hj:b.getD j false=true):∀ l,(ey b l).getD j false=true
 | []=>hj
 | i::l=>getD_set_true (sT b hj l)
section
variable {P:Program} {ops:Array Oper} {Q:Exit→Act→World→Prop} {md:Region.Mode} {S:World→Prop} {k:Nat}
def sU (md:Region.Mode) (ops:Array Oper) (listed:Array Bool) (Φ:List Nat):Bool:=
 (Φ.all fun i=> !listed.getD i true&&(((ops[i]?).map fun o=>o.after.all fun e=> !Region.binds md e||listed.getD e.on false||(Φ.contains e.on&&decide (e.on<i))).getD false))&&
 ((List.range ops.size).all fun j=>Φ.contains j||listed.getD j true||(((ops[j]?).map fun o=>o.after.any fun e=>Region.binds md e&& !listed.getD e.on false&& !Φ.contains e.on).getD false)||
  Φ.all fun i=>ej md ops j i||Φ.any fun c=>ej md ops c i&&ej md ops j c)
theorem yP {j i:Nat}:ej md ops j i=true→∃ o,ops[j]? =some o∧∃ e∈o.after,Region.binds md e=true∧e.on=i:=by
 intro h;unfold ej at h;cases ho:ops[j]? with
 | none=>rw[ho] at h;simp at h
 | some o=>
  rw[ho] at h;simp only[cB,iB] at h;obtain⟨e,he,hb⟩:=p5.1 h;simp only[cS,beq_iff_eq] at hb;exact⟨o,rfl,e,he,hb.1,hb.2⟩
variable {w0:World} {A:SProp} {listed0:Array Bool} {Φ:List Nat} {dst dep:Nat→Nat} {R:Nat→Value→Value→Prop} {Pc:Nat→Value→SProp} {a0:Act}
structure PItem where
 i:Nat
 dep:Nat
 R:Value→Value→Prop
 Pc:Value→SProp
theorem nu {α β:Type} (f:α→β) (x y z:α):#[x,y,z].map f=#[f x,f y,f z]:=by simp
def PItem.row (e:TypeId) (i:Nat) (u:Value):PItem:=⟨i,i,fun _ v=>∃ a c,v= .slice a 1 c,fun v=>own e 1 v 1 [u]⟩
def PItem.call (i:Nat) (v0:Value):PItem:=⟨i,i,fun _ v=>v=v0,fun _=>di⟩
theorem pT {i:Nat} {o:Oper} (hi:ops[i]? =some o) (hg:o.guard=none) (x:Operand) (xs:Array Operand) (ts:Array TypeId) (hop:o.op= .call { callee:= .value x,args:=xs,argTypes:=ts })
  {a:Act} {w:World} {f:FuncId} {args:Array Value} (hx:a.eval x= .func (.func f) #[] #[]) (hxs:xs.map a.eval=args) (hent:∀ args w,(callFunc f args).run P w= .ok (.enter f args) w) {K:Act→World→Prop}
  (hC:Calls P f args w fun e w'=>∃ v,e= .returned v∧K (a.put o.dst v) w'):wpOp P ops Q i K a w:=by
 refine wpOp_step hi fun K' hK'=> ?_
 have hw:Region.wanted o (yielded ops a.tmps)=true:=by simp [Region.wanted,hg]
 rw[if_pos hw];unfold Oper.wp execOp;simp only[hop,resolve,hx,hxs,Deferred.ofValue,invoke,Sem.run_bind,Sem.run_pure,Result.andThen_ok,Jl,Array.append_empty,hent,Oper.upon];refine hC.mono ?_;rintro e w' ⟨v,rfl,h⟩;exact hK' _ _ h
section
variable {w0:World} {A:SProp} {its:List PItem} {dl:List Nat} {a0:Act}
end
end
end Go.Mz
