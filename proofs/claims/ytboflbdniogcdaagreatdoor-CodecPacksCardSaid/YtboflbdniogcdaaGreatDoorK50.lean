/-
  Parts of a proof.
-/
import Derived.Laws.Tables
import Derived.Laws.Rows
import Derived.Test.YtboflbdniogcdaaGreatDoorK49
set_option linter.unusedVariables false
set_option linter.unusedSimpArgs false
set_option maxRecDepth 100000
set_option maxHeartbeats 100000000
namespace Go.Mz
open Go.RowKit
def gj (done:List Nat) (vs:Nat→Value):Nat→Option Value:=fun i=>if i∈done then some (vs i) else none
def pU (σ:Nat→Option Value) (i:Nat) (v:Value):Nat→Option Value:=fun j=>if j=i then some v else σ j
theorem Je {d m:List Nat} {vs:Nat→Value} (h:∀ i,i∈d↔i∈m):gj d vs=gj m vs:=by
 funext i;unfold gj;simp only[h]
theorem Jf {d:List Nat} {vs:Nat→Value} {i:Nat} {v:Value} (h:i∉d):pU (gj d vs) i v=gj (i::d) (fun j=>if j=i then v else vs j):=by
 funext j
 unfold pU gj
 by_cases e:j=i
 ·subst e;simp
 ·simp [e]
section
variable {P:Program} {ops:Array Oper} {Q:Exit→Act→World→Prop} {md:Region.Mode} {S:World→Prop} {k:Nat}
variable {Inv:(Nat→Option Value)→World→Prop} {listed0:Array Bool} {Φ:List Nat} {dst:Nat→Nat} {a0:Act}
theorem Jg (hSA:∀ σ w,Inv σ w→S w) (hn:Φ.Nodup) (hb:sU md ops listed0 Φ=true) (hd:(Φ.map dst).Nodup)
  (hstep:∀ i∈Φ,∀ (σ:Nat→Option Value) (a:Act) (w:World) (K:Act→World→Prop),σ i=none→(∀ c∈Φ,ej md ops i c=true→(σ c).isSome=true)→a.tmps.size=a0.tmps.size→(∀ s,s∉Φ.map dst→a.eval (.tmp s)=a0.eval (.tmp s))→(∀ c v,σ c=some v→dst c<a0.tmps.size→a.eval (.tmp (dst c))=v)→Inv σ w→
   (∀ v w',Inv (pU σ i v) w'→K (a.put (some (dst i)) v) w')→wpOp P ops Q i K a w) {fuel:Nat}
  (hend:∀ (vs:Nat→Value) (w:World),Inv (gj Φ vs) w→cJ P md ops Q S k fuel (ey listed0 Φ) (dQ a0 (Φ.map fun i=>(dst i,vs i))) w):
  ∀ (n:Nat) (done todo:List Nat) (vs:Nat→Value) (w:World),todo.length=n→(done++todo).Perm Φ→
   (∀ i∈done,∀ c,ej md ops i c=true→c∈Φ→c∈done)→Inv (gj done vs) w→
   cJ P md ops Q S k (fuel+n) (ey listed0 done) (dQ a0 (done.map fun i=>(dst i,vs i))) w:=by
 unfold sU at hb;rw[cS,qh,qh] at hb;obtain⟨hb1,hb2⟩:=hb;have hlt:∀ i∈Φ,i<listed0.size:=fun i hi=>by
  have:=hb1 i hi;rw[cS,jR] at this
  rcases cf i listed0.size with h | h
  ·exact h
  ·have h2:=this.1;simp [h] at h2
 intro n
 induction n with
 | zero=>
  intro done todo vs w hl hp hcl hS;obtain rfl:=bC hl;rw[bE] at hp;have hnd:=hp.symm.nodup hn;have e2:dQ a0 (done.map fun i=>(dst i,vs i))=dQ a0 (Φ.map fun i=>(dst i,vs i)):=Jc (hp.map _) (by
   rw[eF];exact(hp.map _).symm.nodup hd)
  rw[Jd hp hnd,e2];rw[Je (fun i=>⟨fun h=>hp.subset h,fun h=>hp.symm.subset h⟩)] at hS;exact hend vs w hS
 | succ n ih=>
  intro done todo vs w hl hp hcl hS;have hnd:(done++todo).Nodup:=hp.symm.nodup hn;have hsub:∀ i∈done,i∈Φ:=fun i hi=>hp.subset (s7 _ hi)
  have hsubt:∀ i∈todo,i∈Φ:=fun i hi=>hp.subset (JE _ hi)
  have hapart:∀ i∈todo,i∉done:=fun i hi hd=>(List.nodup_append.1 hnd).2.2 i hd i hi rfl
  have hor:∀ i∈Φ,i∈done∨i∈todo:=fun i hi=>cA.1 (hp.symm.subset hi)
  have hsome:∃ i∈todo,i∈Region.ready md ops (ey listed0 done):=by
   have key:∀ m,∀ i∈todo,i≤m→∃ i∈todo,i∈Region.ready md ops (ey listed0 done):=by
    intro m
    induction m with
    | zero=>
     intro i hi hm;refine⟨i,hi,mem_ready.2 ⟨?_,?_⟩⟩
     ·have:=hb1 i (hsubt i hi);rw[cS,jR] at this;rw[kX _ _ (hapart i hi)];exact this.1
     ·have:=hb1 i (hsubt i hi);rw[cS] at this;cases ho:ops[i]? with
      | none=>rw[ho] at this;simp at this
      | some o=>
       refine⟨o,rfl,fun e he hbe=> ?_⟩;rw[ho] at this;have h2:=this.2;simp only[cB,iB] at h2;have h3:=zx.1 h2 e he;simp only[hbe,zy,th,nH,cS,decide_eq_true_eq] at h3
       rcases h3 with h3 | h3
       ·exact sT _ h3 _
       ·omega
    | succ m ihm=>
     intro i hi hm
     by_cases hex:∃ o,ops[i]? =some o∧∃ e∈o.after,Region.binds md e=true∧e.on∈todo
     ·obtain⟨o,ho,e,he,hbe,het⟩:=hex;have:=hb1 i (hsubt i hi);rw[cS,ho] at this;have h2:=this.2;simp only[cB,iB] at h2;have h3:=zx.1 h2 e he;simp only[hbe,zy,th,nH,cS,decide_eq_true_eq] at h3
      rcases h3 with h3 | h3
      ·exfalso;have:=hb1 e.on (hsubt _ het);rw[cS,jR] at this;have h4:=this.1;have:=hlt e.on (hsubt _ het);simp [this] at h3 h4;rw[h3] at h4;cases h4
      ·exact ihm e.on het (by omega)
     ·refine⟨i,hi,mem_ready.2 ⟨?_,?_⟩⟩
      ·have:=hb1 i (hsubt i hi);rw[cS,jR] at this;rw[kX _ _ (hapart i hi)];exact this.1
      ·have:=hb1 i (hsubt i hi);rw[cS] at this;cases ho:ops[i]? with
       | none=>rw[ho] at this;simp at this
       | some o=>
        refine⟨o,rfl,fun e he hbe=> ?_⟩;rw[ho] at this;have h2:=this.2;simp only[cB,iB] at h2;have h3:=zx.1 h2 e he;simp only[hbe,zy,th,nH,cS,decide_eq_true_eq] at h3
        rcases h3 with h3 | h3
        ·exact sT _ h3 _
        ·have hm:e.on∈Φ:=by simpa using h3.1
         rcases hor _ hm with h | h
         ·exact sR _ _ (hlt _ hm) h
         ·exact absurd ⟨o,ho,e,he,hbe,h⟩ hex
   obtain⟨i,hi⟩:∃ i,i∈todo:=by
    cases todo with
    | nil=>simp at hl
    | cons i t=>exact⟨i,qm⟩
   exact key i i hi (Nat.le_refl _)
  refine⟨fun h=>(by obtain⟨i,_,hi⟩:=hsome;rw[h] at hi;cases hi),fun i hi=> ?_⟩;obtain⟨hiun,o,ho,hall⟩:=mem_ready.1 hi;have hiΦ:i∈Φ:=by
   rcases Decidable.em (i∈Φ) with h | h
   ·exact h
   exfalso;have hlti:i<ops.size:=(Array.getElem?_eq_some_iff.1 ho).1;have h2:=hb2 i (gJ.2 hlti);have hc:Φ.contains i=false:=by simpa using h
   have hl0:listed0.getD i true=false:=by rw[← hiun,kX _ _ fun hd=>h (hsub i hd)]
   rw[hc,hl0,ho] at h2;simp only[th,cB,iB,nH] at h2
   rcases h2 with h2 | h2
   ·obtain⟨e,he,hb⟩:=p5.1 h2;simp only[cS,jR] at hb;have h3:=hall e he hb.1.1;rw[kX _ _ (fun hd=>by have:=hsub _ hd;have h4:=hb.2;simp at h4;exact h4 this)] at h3;rw[h3] at hb;exact absurd hb.1.2 (by simp)
   ·obtain⟨c,hct,hcr⟩:=hsome;rw[qh] at h2;have key:∀ c∈Φ,ej md ops i c=true→c∈done:=fun c hc hw=>by
     obtain⟨o',ho',e,he,hb,rfl⟩:=yP hw;rw[ho] at ho';cases ho'
     rcases hor _ hc with h' | h'
     ·exact h'
     ·have h3:=hall e he hb;have h4:=hb1 _ hc;rw[cS,jR] at h4;have h5:=h4.1;have:=hlt _ hc;rw[kX _ _ (hapart _ h')] at h3;simp [this] at h3 h5;rw[h3] at h5;cases h5
    have h3:=h2 c (hsubt c hct);rw[nH] at h3
    rcases h3 with h3 | h3
    ·exact hapart c hct (key c (hsubt c hct) h3)
    ·obtain⟨d,hdΦ,hb⟩:=zh.1 h3;rw[cS] at hb;exact hapart c hct (hcl d (key d hdΦ hb.2) c hb.1 (hsubt c hct))
  have hit:i∈todo:=by
   rcases hor i hiΦ with h | h
   ·rw[sR _ _ (hlt i hiΦ) h] at hiun;cases hiun
   ·exact h
  have hdone:∀ c,ej md ops i c=true→c∈Φ→c∈done:=fun c hw hc=>by
   obtain⟨o',ho',e,he,hb,rfl⟩:=yP hw;rw[ho] at ho';cases ho'
   rcases hor _ hc with h' | h'
   ·exact h'
   ·have h3:=hall e he hb;have h4:=hb1 _ hc;rw[cS,jR] at h4;have h5:=h4.1;have:=hlt _ hc;rw[kX _ _ (hapart _ h')] at h3;simp [this] at h3 h5;rw[h3] at h5;cases h5
  have hd':((done.map fun i=>(dst i,vs i)).map Prod.fst).Nodup:=by
   rw[eF];have h1:=(hp.map dst).symm.nodup hd;rw[List.map_append,List.nodup_append] at h1;exact h1.1
  refine hstep i hiΦ (gj done vs) _ w _ (by unfold gj;rw[if_neg (hapart i hit)]) (fun c hc hw=>by unfold gj;rw[if_pos (hdone c hw hc)];rfl) (sQ _ _) (fun s hs=>yM _ fun x hx=> ?_) (fun c v hc hcs=> ?_) hS fun v w' hS'=> ?_
  ·obtain⟨j,hj,rfl⟩:=bW.1 hx;exact fun e=>hs (bW.2 ⟨j,hsub j hj,e⟩)
  ·unfold gj at hc
   split at hc
   ·obtain rfl:=gm hc;rename_i hcd;exact yN a0 (x:=(dst c,vs c)) hcs hd' (bW.2 ⟨c,hcd,rfl⟩)
   ·cases hc
  ·rw[Jf (hapart i hit)] at hS';have hgo:=ih (i::done) (todo.erase i) (fun j=>if j=i then v else vs j) w' (by rw[List.length_erase_of_mem hit,hl];rfl) (by
     refine List.Perm.trans ?_ hp;rw[dB];exact((List.perm_cons_erase hit).append_left done |>.trans List.perm_middle).symm) (fun j hj c hw hc=>by
     rcases List.mem_cons.1 hj with rfl | hj
     ·exact qg _ (hdone c hw hc)
     ·exact qg _ (hcl j hj c hw hc)) hS'
   rw[dR] at hgo;simp only[if_pos] at hgo;rw[iU (g:=fun i=>(dst i,vs i)) (fun j hj=>by
     have:j≠i:=fun e=>hapart i hit (e ▸ hj)
     simp only[if_neg this])] at hgo
   exact⟨fun _=>hSA _ _ hS',hgo⟩
def kY (ops:Array Oper) (i:Nat):Nat:=((ops[i]?).bind (·.dst)).getD (100000+i)
def yQ (md:Region.Mode) (ops:Array Oper) (listed0:Array Bool) (Φ:List Nat):Bool:=
 sU md ops listed0 Φ&&decide Φ.Nodup&&decide ((Φ.map (kY ops)).Nodup)
theorem yR (Inv:(Nat→Option Value)→World→Prop) (Φ:List Nat) (sz:Nat) (hSA:∀ σ w,Inv σ w→S w) (hb:yQ md ops listed0 Φ=true) (hsz:a0.tmps.size=sz)
  (hstep:∀ i∈Φ,∀ (σ:Nat→Option Value) (a:Act) (w:World) (K:Act→World→Prop),σ i=none→(∀ c∈Φ,ej md ops i c=true→(σ c).isSome=true)→a.tmps.size=sz→(∀ s,s∉Φ.map (kY ops)→a.eval (.tmp s)=a0.eval (.tmp s))→(∀ c v,σ c=some v→decide (kY ops c<sz)=true→a.eval (.tmp (kY ops c))=v)→Inv σ w→
   (∀ v w',Inv (pU σ i v) w'→K (a.put (some (kY ops i)) v) w')→wpOp P ops Q i K a w) (fuel:Nat) {n:Nat} (hn2:n=fuel+Φ.length)
  {w:World} (h0:Inv (fun _=>none) w)
  (hend:∀ (vs:Nat→Value) (w:World),Inv (gj Φ vs) w→cJ P md ops Q S k fuel (ey listed0 Φ) (dQ a0 (Φ.map fun i=>(kY ops i,vs i))) w):
  cJ P md ops Q S k n listed0 a0 w:=by
 subst hn2 hsz;unfold yQ at hb;rw[cS,cS] at hb;obtain⟨⟨h1,h2⟩,h3⟩:=hb;exact Jg (dst:=kY ops) hSA (of_decide_eq_true h2) h1 (of_decide_eq_true h3) (fun i hi σ a w K h1 h2 h3 h4 h5 h6 h7=>hstep i hi σ a w K h1 h2 h3 h4 (fun c v hc hd=>h5 c v hc (of_decide_eq_true hd)) h6 h7) hend Φ.length [] Φ (fun _=>undef) w rfl (mf _) (fun i hi=>by cases hi) (by
  have e:gj [] (fun _=>undef)=fun _=>none:=by funext i;unfold gj;simp
  rw[e];exact h0)
theorem pV {w0 w:World} {F:SProp} {o:Oper} {a:Act} (ty:TypeId) (x:Operand) (ho:o.op= .load ty x) {g:Nat} {cs:Array Value} {e:TypeId} {fr:Nat × Nat} (h:St w0 w (blk g (.cells cs e fr)*F)) (hx:a.eval x= .pointer (some ⟨g,0,none⟩)) {d:TypeDesc}
  (hu:P.underlying ty=some d) (hd:(match d with | .struct _ | .array _ _=>true | _=>false)=true) (hi:(P.info? ty).map (·.size)=some cs.size):(execOp a.eval o).run P w= .ok (.value (.agg cs)) w:=by
 unfold execOp;simp only[ho,hx,Instr.loadAt,Instr.sureAddr,Sem.run_bind,Sem.run_pure,Result.andThen_ok,run_loadVar_row w g e ty cs fr d h.at_ hu hd hi]
end
end Go.Mz
