/-
  Parts of a proof.
-/
import Derived.Deep.Slices
import Derived.Deep.Fields
import Derived.ProofKit
import Derived.Test.YtboflbdniogcdaaGreatDoorK01
set_option linter.unusedVariables false
set_option linter.unusedSimpArgs false
set_option maxRecDepth 100000
set_option maxHeartbeats 100000000
namespace Go.Mz
open Go.RowKit Go.ChangeShapes Go.WideShapes Go.Deep
section
variable {H:Type} {enc:TypeId × Value→H} {P:Program} {w:World} {base:Nat} {spare:Nat→Bool} {held:Bool}
end
theorem jD {α:Type} (enc:α→List Value) (m:Nat) (hm:∀ x,(enc x).length=m) (l:List α) (k:Nat) (x:α) (h:l[k]? =some x) (j:Nat) (hj:j<m):(l.flatMap enc)[k*m+j]? =(enc x)[j]? :=by
 induction l generalizing k with
 | nil=>simp at h
 | cons p l ih=>
  cases k with
  | zero=>
   simp only[e7,yX] at h;subst h;rw[eZ,lS,bQ,cR (by rw[hm];exact hj)]
  | succ k=>
   simp only[cY] at h;rw[eZ,dh (by rw[hm,dC];omega),← ih k h,hm]
   congr 1;rw[dC];omega
theorem uA {α:Type} (enc:α→List Value) (m:Nat) (hm:∀ x,(enc x).length=m) (l:List α):(l.flatMap enc).length=l.length*m:=by
 induction l with
 | nil=>simp
 | cons p l ih=>rw[eZ,ae,hm,ih,aK,dC];omega
theorem Cb {α:Type} {w:World} (enc:α→List Value) {m:Nat} (hpos:0<m) (hm:∀ x,(enc x).length=m) {a:Addr} {len cap:Nat} (hl:len≤cap) (hc:cap≤maxLen) (l:List α) (hlen:l.length=len)
  (h:∀ k x,l[k]? =some x→∀ j u,(enc x)[j]? =some u→w.cell? (a.add (k*m+j))=some u):Reads w m (.slice (some a) len cap) len (l.flatMap enc):=by
 refine⟨by rw[uA enc m hm,hlen],.inr ⟨a,cap,rfl,hl,hc,fun i u hu=> ?_⟩⟩;have hi:i<l.length*m:=by
  have:=(dJ.1 hu).1;rwa [uA enc m hm] at this
 have hk:i/m<l.length:=(JB hpos).2 hi;have hx:l[i/m]? =some l[i/m]:=ai hk;have e:=Nat.div_add_mod' i m;have hj:i%m<m:=jv _ hpos;have g:=jD enc m hm l (i/m) _ hx (i%m) hj;rw[e,hu] at g;have:=h _ _ hx (i%m) u g.symm;rwa [e] at this
theorem Cc {α:Type} [Inhabited α] {w:World} (enc:α→List Value) {m:Nat} (hpos:0<m) (hm:∀ x,(enc x).length=m) {a:Addr} {len cap:Nat} (hl:len≤cap) (hc:cap≤maxLen) (Q:α→Prop)
  (hx:∀ i,i<len→∃ x:α,(∀ j u,(enc x)[j]? =some u→w.cell? (a.add (i*m+j))=some u)∧Q x):
  ∃ l:List α,l.length=len∧Reads w m (.slice (some a) len cap) len (l.flatMap enc)∧∀ x∈l,Q x:=by
 obtain⟨f,hf⟩:=Deep.choose_lt (α:=α) hx;refine⟨(List.range len).map f,by simp,Cb enc hpos hm hl hc _ (by simp) ?_,?_⟩
 ·intro k o hk j u hu;have hk':k<len:=by
   have:=(dJ.1 hk).1;simpa using this
  rw[au,fs hk'] at hk;cases hk;exact(hf k hk').1 j u hu
 ·intro o ho;obtain⟨i,hi,rfl⟩:=bW.1 ho;exact(hf i (gJ.1 hi)).2
end Go.Mz
